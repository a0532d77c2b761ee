/- The law ConsoleFull, in plain Lean: at every count and byte its function is true. No condition but the arguments' ranges. -/
import Derived.Test.YtacmfiddaklkiaaPureCh7


set_option linter.unusedVariables false
namespace Go.Proofs.Ytacmfiddaklkiaa.Fn
open Go Lift




theorem consoleFull (many b : Int) : vmfleetlaw7_ConsoleFull.f many b = some true := by
  have hm : many < 0 ∨ many > 40 ∨ (0 ≤ many ∧ many ≤ 40) := by omega
  unfold vmfleetlaw7_ConsoleFull.f
  rw [console_awake]
  rcases hm with hm | hm | hm
  · simp [hm]
  · have : ¬ many < 0 := by omega
    simp [hm, this]
  · have h1 : ¬ many < 0 := by omega
    have h2 : ¬ many > 40 := by omega
    simp only [h1, h2, decide_false, cond_false]
    refine Option.bind_eq_some_iff.2 ?_
    refine loop_ind (I := fun x => 0 ≤ x.2.2 ∧ x.2.2 ≤ many ∧ (x.1.size : Int) = min x.2.2 16 ∧ x.2.1 = min x.2.2 16) (fun x => (many - x.2.2).toNat) ⟨by decide, hm.1, by decide, by decide⟩ fun x hI => ?_
    obtain ⟨c, k, i⟩ := x
    simp only at hI ⊢
    obtain ⟨i1, i2, i3, i4⟩ := hI
    by_cases hi : i < many
    · left
      simp only [hi, decide_true, cond_true, console_Type.f]
      by_cases hc : (c.size : Int) ≥ 16
      · simp only [hc, decide_true, cond_true, Option.bind_some, cond_false, Option.some.injEq, Sum.inl.injEq]
        refine ⟨_, rfl, ?_, ?_⟩
        · simp only
          rw [wrap_i64 (by omega) (by omega)]
          omega
        · simp only
          rw [wrap_i64 (by omega) (by omega)]
          omega
      · have hs : c.size + (strOf ([b] : List Int)).size ≤ 9223372036854775807 := by simp; omega
        simp only [hc, decide_false, cond_false, hs, if_true, Option.bind_some, cond_true, Option.some.injEq, Sum.inl.injEq]
        refine ⟨_, rfl, ?_, ?_⟩
        · simp only [ByteArray.size_append, strOf_size, List.length_cons, List.length_nil]
          rw [wrap_i64 (by omega) (by omega), wrap_i64 (by omega) (by omega)]
          omega
        · simp only
          rw [wrap_i64 (by omega) (by omega)]
          omega
    · right
      refine ⟨.inl (c, k), by simp only [hi, decide_false, cond_false], ?_⟩
      have he : i = many := by omega
      subst he
      have hc : (c.size : Int) ≤ 16 := by omega
      simp only [console_In.f, console_Pending.f, Option.bind_some, i4, i3]
      have e0 : decide ((1 : Int) = 0) = false := by decide
      simp only [e0, cond_false, cond_true, Option.bind_some, decide_true]
      have : (!decide (c = (⟨#[]⟩ : ByteArray))) = decide (min i 16 > 0) := by
        by_cases h0 : c.size = 0
        · have : c = ⟨#[]⟩ := by cases c; simp [ByteArray.size] at h0; simp [h0]
          have h3 : ¬ min i 16 > 0 := by omega
          simp [this, h3]
        · have : c ≠ ⟨#[]⟩ := by rintro rfl; exact h0 rfl
          have h3 : min i 16 > 0 := by omega
          simp [this, h3]
      rw [this]
      simp

theorem vmfleetlaw7_ConsoleFull.pure (x : (tup vmfleetlaw7_ConsoleFull.sp.args).den) (h : WfL vmfleetlaw7_ConsoleFull.sp.args x) : vmfleetlaw7_ConsoleFull.sp.f x = some true := consoleFull x.1 x.2

end Go.Proofs.Ytacmfiddaklkiaa.Fn
