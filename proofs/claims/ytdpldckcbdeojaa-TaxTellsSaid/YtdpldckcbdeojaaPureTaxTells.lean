/- The law TaxTells, in plain Lean. No condition but the arguments' ranges. -/
import Derived.Test.YtdpldckcbdeojaaPureCh37c
set_option linter.unusedVariables false
set_option linter.unusedSimpArgs false
namespace Go.Proofs.Ytdpldckcbdeojaa.Fn
open Go Lift

theorem okSample_len {pages n : Int} {s : List Int} (h : okSample pages n s) : s.length ≤ 32 := by
  by_cases h1 : pages < 1 ∨ pages > 32 ∨ n < 1
  · rw [h.1 h1]; exact Nat.zero_le _
  · have := (h.2 (by omega) (by omega) (by omega)).1
    omega

theorem taxTells (a b : Clm) (l : List Clm) (tax seed pages n old total : Int) (hn : n ≤ 9223372036854775807) : vmfleetlaw37_TaxTells.f a b l tax seed pages n old total = some true := by
  unfold vmfleetlaw37_TaxTells.f
  rw [vmfleetlaw37_awake.ok]
  by_cases hl : (l.length : Int) > 20
  · rw [decide_eq_true hl]; rfl
  rw [decide_eq_false hl, cond_false]
  obtain ⟨r, e1, e2, e3⟩ := sample_eq seed pages n hn
  have ev : ∀ c : Clm, vmfleetref35_ValidClaim.f c = some (decide (okC c)) := fun c => valid_eq c
  have ep : ∀ (x y : Clm) (t : Int), vmfleetref35_Poorer.f x y t = some (poor x y t) := fun x y t => poorer_eq x y t
  obtain ⟨c, ec⟩ := cost_some a tax
  have ec' : vmfleetref35_Cost.f a tax = some c := ec
  obtain ⟨v, es⟩ := estimate_some old pages n
  have es' : vmfleetref35_Estimate.f old pages n = some v := es
  have l1 := okSample_len e3
  have l2 := targetsOf_len l total tax
  rw [victim_eq l tax (by omega), Option.bind_some, payer_eq l tax (by omega), Option.bind_some, e1, Option.bind_some, e2, Option.bind_some, targets_eq, Option.bind_some, targetsR_eq, Option.bind_some, valid_eq, Option.bind_some, ev, Option.bind_some, beq_self_eq_true, cond_true, ec, Option.bind_some, ec', Option.bind_some, decide_eq_true rfl, cond_true, poorer_eq, Option.bind_some, ep, Option.bind_some, beq_self_eq_true, cond_true, decide_eq_true rfl, cond_true, beq_self_eq_true, cond_true, sameInts_self _ (by omega), Option.bind_some, cond_true, decide_eq_true rfl, cond_true, es, Option.bind_some, es', Option.bind_some, decide_eq_true rfl, cond_true, sameInts_self _ (by omega), Option.bind_some, cond_true, beq_self_eq_true]
  rfl

theorem vmfleetlaw37_TaxTells.pure (x : (tup vmfleetlaw37_TaxTells.sp.args).den) (h : WfL vmfleetlaw37_TaxTells.sp.args x) : vmfleetlaw37_TaxTells.sp.f x = some true :=
  taxTells x.1 x.2.1 x.2.2.1 x.2.2.2.1 x.2.2.2.2.1 x.2.2.2.2.2.1 x.2.2.2.2.2.2.1 x.2.2.2.2.2.2.2.1 x.2.2.2.2.2.2.2.2 h.2.2.2.2.2.2.1.2

end Go.Proofs.Ytdpldckcbdeojaa.Fn
