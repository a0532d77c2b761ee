/- The law ArbiterOne, in plain Lean: at every input its function is true. No condition but the arguments' ranges. -/
import Derived.Test.YtacmfiddaklkiaaPureCh26
set_option linter.unusedVariables false
set_option linter.unusedSimpArgs false
namespace Go.Proofs.Ytacmfiddaklkiaa.Fn
open Go Lift

theorem arbiterOne (n : Int) (hs ss : List Int) : vmfleetlaw26_ArbiterOne.f n hs ss = some true := by
  unfold vmfleetlaw26_ArbiterOne.f
  rw [arbiter_awake]
  by_cases h1 : (hs.length : Int) > 60
  · simp [h1]
  by_cases h2 : (ss.length : Int) < hs.length
  · simp only [h1, h2, decide_true, decide_false, cond_true, cond_false, Option.bind_some]
  simp only [h1, h2, decide_false, cond_false]
  obtain ⟨bs, e1, b1, b2⟩ := blocks_ok n
  have hlen : bs.length ≤ 1000000 := by omega
  have v0 : validS (bs, 0, -1) = true := valid_mk b1 b2 (by decide) (by decide)
  have hn : newOf bs = ((bs, 0, -1), true) := by simp [newOf, v0]
  rw [e1]
  simp only [Option.bind_some]
  rw [new_eqA _ hlen, hn]
  simp only [Option.bind_some, Bool.not_true, cond_false]
  refine Option.bind_eq_some_iff.2 ?_
  refine loop_ind (I := fun x => 0 ≤ x.2.2.2 ∧ x.2.2.2 ≤ (hs.length : Int) ∧ x.1 = (bs, x.2.1, x.2.2.1) ∧ 0 ≤ x.2.1 ∧ x.2.1 ≤ x.2.2.2 ∧ (if x.2.1 = 0 then x.2.2.1 = -1 else 0 ≤ x.2.2.1)) (fun x => ((hs.length : Int) - x.2.2.2).toNat) ⟨Int.le_refl 0, by simp, rfl, Int.le_refl 0, Int.le_refl 0, by simp⟩ fun x hI => ?_
  obtain ⟨s, g, ow, i⟩ := x
  obtain ⟨i1, i2, i3, i4, i5, i6⟩ := hI
  simp only at i1 i2 i3 i4 i5 i6 ⊢
  subst i3
  by_cases hi : i < (hs.length : Int)
  · left
    have hb : 0 ≤ i ∧ i < (hs.length : Int) := ⟨i1, hi⟩
    have hb2 : 0 ≤ i ∧ i < (ss.length : Int) := ⟨i1, by omega⟩
    have hv : validS (bs, g, ow) = true := valid_mk b1 b2 (by omega) i6
    obtain ⟨h, eh, hh1, hh2⟩ := round_ok (nth (0 : Int) hs i) 3 (by decide) (by decide)
    obtain ⟨q, eq, hq1, hq2⟩ := round_ok (nth (0 : Int) ss i) hs.length (by omega) (by omega)
    simp only [hi, decide_true, cond_true, hb, hb2, and_self, if_true, eh, eq, Option.bind_some]
    have hwi : IntKind.wrap .i64 (i + 1) = i + 1 := wrap_i64 (by omega) (by omega)
    have main : ∀ y : Int, 0 ≤ y → ∃ x', ((arbiter_Claim.f (bs, g, ow) h y).bind fun r7 =>
        bif !(r7.2 == (decide (y = g))) then
          (some (.inr (.inr false)) : Option ((Sto × Int × Int × Int) ⊕ (Unit ⊕ Bool)))
        else
          (bif r7.2 then
            some (.inl (IntKind.wrap .u64 (g + 1), h))
          else
            some (.inl (g, ow)) : Option ((Int × Int) ⊕ ((Sto × Int × Int × Int) ⊕ (Unit ⊕ Bool)))).bind fun o => match o with
          | .inl y3 =>
            bif !decide (r7.1.2.1 = y3.1) then
              some (.inr (.inr false))
            else
              bif !decide (r7.1.2.2 = y3.2) then
                some (.inr (.inr false))
              else
                some (.inl (r7.1, y3.1, y3.2, IntKind.wrap .i64 (i + 1)))
          | .inr r => some r) = some (.inl x') ∧ (0 ≤ x'.2.2.2 ∧ x'.2.2.2 ≤ (hs.length : Int) ∧ x'.1 = (bs, x'.2.1, x'.2.2.1) ∧ 0 ≤ x'.2.1 ∧ x'.2.1 ≤ x'.2.2.2 ∧ (if x'.2.1 = 0 then x'.2.2.1 = -1 else 0 ≤ x'.2.2.1)) ∧ ((hs.length : Int) - x'.2.2.2).toNat < ((hs.length : Int) - i).toNat := by
      intro y hy
      rw [claim_eqA _ _ _ hlen hy]
      by_cases hyg : y = g
      · subst hyg
        have hc : claimOf (bs, y, ow) h y = ((bs, y + 1, h), true) := by
          unfold claimOf
          rw [if_pos ⟨hv, hh1, rfl, by omega⟩]
        rw [hc, wrap_u64 (n := y + 1) (by omega) (by omega), hwi]
        simp only [Option.bind_some, decide_true, beq_self_eq_true, Bool.not_true, cond_false, cond_true]
        refine ⟨_, rfl, ⟨by simp only; omega, by simp only; omega, rfl, by simp only; omega, by simp only; omega, ?_⟩, by simp only; omega⟩
        have : ¬ y + 1 = 0 := by omega
        simp only [this, if_false]
        exact hh1
      · have hc : claimOf (bs, g, ow) h y = ((bs, g, ow), false) := by
          unfold claimOf
          rw [if_neg fun hh => hyg hh.2.2.1.symm]
        rw [hc, hwi]
        simp only [Option.bind_some, hyg, decide_false, beq_self_eq_true, Bool.not_true, cond_false, decide_true]
        exact ⟨_, rfl, ⟨by simp only; omega, by simp only; omega, rfl, i4, by simp only; omega, i6⟩, by simp only; omega⟩
    by_cases hm : Int.tmod (nth (0 : Int) ss i) 2 = 0
    · simp only [hm, decide_true, cond_true, Option.bind_some]
      have hm' := main g i4
      simp only [decide_true] at hm'
      exact hm'
    · simp only [hm, decide_false, cond_false, Option.bind_some]
      rw [wrap_u64 (n := q) (by omega) (by omega)]
      exact main q hq1
  · right
    exact ⟨.inl (), by simp only [hi, decide_false, cond_false], rfl⟩

theorem vmfleetlaw26_ArbiterOne.pure (x : (tup vmfleetlaw26_ArbiterOne.sp.args).den) (h : WfL vmfleetlaw26_ArbiterOne.sp.args x) : vmfleetlaw26_ArbiterOne.sp.f x = some true := arbiterOne x.1 x.2.1 x.2.2

end Go.Proofs.Ytacmfiddaklkiaa.Fn
