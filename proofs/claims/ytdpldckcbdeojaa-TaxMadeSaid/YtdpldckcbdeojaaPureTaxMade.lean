/- The law TaxMade, in plain Lean: at every input its function is true. -/
import Derived.Test.YtdpldckcbdeojaaPureCh37c
set_option linter.unusedVariables false
set_option linter.unusedSimpArgs false
namespace Go.Proofs.Ytdpldckcbdeojaa.Fn
open Go Lift

theorem taxMade (l : List Int) (total tax : Int) : vmfleetlaw37_TaxMade.f l total tax = some true := by
  unfold vmfleetlaw37_TaxMade.f
  rw [vmfleetlaw37_awake.ok]
  by_cases hl : (l.length : Int) > 8
  · rw [decide_eq_true hl]; rfl
  rw [decide_eq_false hl, cond_false]
  obtain ⟨cs, e1, e2, e3⟩ := claims_ok l (by omega)
  obtain ⟨t, e4, t0, t1⟩ := round_ok tax 100 (by decide) (by decide)
  obtain ⟨T, e5, T0, T1⟩ := round_ok total 97 (by decide) (by decide)
  have l2 := targetsOf_len cs T t
  rw [e1, Option.bind_some, e4, Option.bind_some, e5, Option.bind_some, victim_eq cs t (by omega), Option.bind_some, payer_eq cs t (by omega), Option.bind_some, targets_eq, Option.bind_some, targetsR_eq, Option.bind_some, decide_eq_true rfl, cond_true, beq_self_eq_true, cond_true, sameInts_self _ (by omega), Option.bind_some, cond_true, beq_self_eq_true]
  rfl

theorem vmfleetlaw37_TaxMade.pure (x : (tup vmfleetlaw37_TaxMade.sp.args).den) (h : WfL vmfleetlaw37_TaxMade.sp.args x) : vmfleetlaw37_TaxMade.sp.f x = some true :=
  taxMade x.1 x.2.1 x.2.2

end Go.Proofs.Ytdpldckcbdeojaa.Fn
