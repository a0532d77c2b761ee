/- The law TimerOnce, in plain Lean: at every list its function is true. No condition but the arguments' ranges. -/
import Derived.Test.YtacmfiddaklkiaaPureCh8
set_option linter.unusedVariables false
set_option linter.unusedSimpArgs false
namespace Go.Proofs.Ytacmfiddaklkiaa.Fn
open Go Lift

theorem timerOnce (a : List Int) : vmfleetlaw8_TimerOnce.f a = some true := by
  unfold vmfleetlaw8_TimerOnce.f
  rw [timer_awake]
  by_cases hl : (a.length : Int) > 100
  · simp [hl]
  simp only [hl, decide_false, cond_false, timer_Arm.f, Option.bind_some]
  refine Option.bind_eq_some_iff.2 ?_
  refine loop_ind (I := fun x => 0 ≤ x.2.2.2 ∧ x.2.2.2 ≤ (a.length : Int) ∧ x.1.1 = x.2.1 ∧ x.1.2.1 = x.2.2.1 ∧ (x.2.1 = true → x.2.2.1 ≠ 0 ∧ x.1.2.2 = false) ∧ (x.2.1 = false → x.1.2.2 = true ∨ x.1.2.1 = 0)) (fun x => ((a.length : Int) - x.2.2.2).toNat) ⟨by decide, by simp, by decide, by decide, by decide, by decide⟩ fun x hI => ?_
  obtain ⟨⟨ta, td, tf⟩, ar, dl, i⟩ := x
  simp only at hI ⊢
  obtain ⟨i1, i2, rfl, rfl, i5, i6⟩ := hI
  by_cases hi : i < a.length
  · left
    have hr : 0 ≤ i ∧ i < (a.length : Int) := ⟨i1, hi⟩
    have hwi : IntKind.wrap .i64 (i + 1) = i + 1 := wrap_i64 (by omega) (by omega)
    simp only [hi, decide_true, cond_true, hr, if_true, and_self, hwi]
    generalize nth (0 : Int) a i = m
    by_cases hq : Int.tmod m 4 = 0
    · simp only [hq, decide_true, cond_true]
      refine ⟨_, rfl, ⟨by simp only; omega, by simp only; omega, by simp, by simp, by simp, by simp⟩, by simp only; omega⟩
    · simp only [hq, decide_false, cond_false, timer_Due.f, timer_Fire.f, timer_Pending.f]
      cases ta with
      | false =>
        simp only [cond_false, Option.bind_some, Bool.not_false, cond_true]
        exact ⟨_, rfl, ⟨by simp only; omega, by simp only; omega, rfl, rfl, by simp, by simpa using i6⟩, by simp only; omega⟩
      | true =>
        by_cases hm : m ≥ td
        · have h2 : ¬ m < td := by omega
          simp only [cond_true, hm, decide_true, Option.bind_some, Bool.not_true, cond_false, h2, decide_false]
          exact ⟨_, rfl, ⟨by simp only; omega, by simp only; omega, rfl, rfl, by simp, by simp⟩, by simp only; omega⟩
        · simp only [cond_true, hm, decide_false, Option.bind_some, Bool.not_false, cond_false]
          exact ⟨_, rfl, ⟨by simp only; omega, by simp only; omega, rfl, rfl, i5, by simp⟩, by simp only; omega⟩
  · right
    refine ⟨.inl (ta, td, tf), by simp only [hi, decide_false, cond_false], ?_⟩
    simp only [timer_May.f]
    cases ta <;> cases tf <;> simp_all

theorem vmfleetlaw8_TimerOnce.pure (x : (tup vmfleetlaw8_TimerOnce.sp.args).den) (h : WfL vmfleetlaw8_TimerOnce.sp.args x) : vmfleetlaw8_TimerOnce.sp.f x = some true := timerOnce x

end Go.Proofs.Ytacmfiddaklkiaa.Fn
