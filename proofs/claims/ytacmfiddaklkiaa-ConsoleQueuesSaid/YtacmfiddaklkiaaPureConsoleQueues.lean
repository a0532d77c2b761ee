/- The law ConsoleQueues, in plain Lean: at every list its function is true. No condition but the arguments' ranges. -/
import Derived.Test.YtacmfiddaklkiaaPureCh7
set_option linter.unusedVariables false
namespace Go.Proofs.Ytacmfiddaklkiaa.Fn
open Go Lift

theorem consoleQueues (a : List Int) : vmfleetlaw7_ConsoleQueues.f a = some true := by
  unfold vmfleetlaw7_ConsoleQueues.f
  rw [console_awake]
  by_cases hl : (a.length : Int) > 100
  · simp [hl]
  simp only [hl, decide_false, cond_false]
  refine Option.bind_eq_some_iff.2 ?_
  refine loop_ind (I := fun x => 0 ≤ x.2.2.2 ∧ x.2.2.2 ≤ (a.length : Int) ∧ x.1.size ≤ 16 ∧ x.2.2.1 ++ x.1 = x.2.1 ∧ (x.2.1.size : Int) ≤ x.2.2.2) (fun x => ((a.length : Int) - x.2.2.2).toNat) ⟨by decide, by simp, by decide, by decide, by decide⟩ fun x hI => ?_
  obtain ⟨c, acc, rd, i⟩ := x
  simp only at hI ⊢
  obtain ⟨i1, i2, i3, i4, i5⟩ := hI
  have hsz : acc.size = rd.size + c.size := by rw [← i4]; simp
  by_cases hi : i < a.length
  · left
    have hr : 0 ≤ i ∧ i < (a.length : Int) := ⟨i1, hi⟩
    simp only [hi, decide_true, cond_true, hr, if_true, and_self]
    have hwi : IntKind.wrap .i64 (i + 1) = i + 1 := wrap_i64 (by omega) (by omega)
    generalize (andI .i64 (nth (0 : Int) a i) (1 : Int)) = q
    generalize IntKind.wrap .u8 (andI .i64 (shrI .i64 (nth (0 : Int) a i) (1 : Int)) (255 : Int)) = v
    by_cases hq : q = 0
    · simp only [hq, decide_true, cond_true]
      rw [console_Type_eq (by omega)]
      simp only [Option.bind_some]
      have hw : IntKind.wrap .i64 ((acc.size : Int) - (rd.size : Int)) = c.size := by rw [wrap_i64 (by omega) (by omega)]; omega
      rw [hw]
      by_cases hc : c.size < 16
      · have h1 : (c.size : Int) < 16 := by omega
        have h2 : acc.size + (strOf ([v] : List Int)).size ≤ 9223372036854775807 := by simp; omega
        simp only [hc, if_true, h1, decide_true, beq_self_eq_true, Bool.not_true, cond_false, cond_true, h2, hwi]
        refine ⟨_, rfl, ⟨by simp only; omega, by simp only; omega, by simp; omega, ?_, by simp; omega⟩, by simp only; omega⟩
        simp only
        rw [← ByteArray.append_assoc, i4]
      · have h1 : ¬ (c.size : Int) < 16 := by omega
        simp only [hc, if_false, h1, decide_false, beq_self_eq_true, Bool.not_true, cond_false, hwi]
        exact ⟨_, rfl, ⟨by simp only; omega, by simp only; omega, i3, i4, by simp only; omega⟩, by simp only; omega⟩
    · simp only [hq, decide_false, cond_false]
      rw [console_In_zero]
      simp only [Option.bind_some]
      by_cases hc : c.size = 0
      · have h1 : ¬ (rd.size : Int) < acc.size := by omega
        simp only [hc, if_true, h1, decide_false, cond_false, decide_true, Bool.not_true, hwi]
        exact ⟨_, rfl, ⟨by simp only; omega, by simp only; omega, i3, i4, by simp only; omega⟩, by simp only; omega⟩
      · have h1 : (rd.size : Int) < acc.size := by omega
        have hb := bt_range c 0
        have h2 : ¬ bt c 0 > 255 := by omega
        have h3 : IntKind.wrap .u8 (bt c 0) = bt c 0 := wrap_u8 hb.1 hb.2
        have h4 : rd.size + (strOf ([bt c 0] : List Int)).size ≤ 9223372036854775807 := by simp; omega
        simp only [hc, if_false, h1, decide_true, cond_true, h2, decide_false, cond_false, h3, h4, if_true, hwi]
        have hcut : strOf [bt c 0] ++ cut c 1 c.size = c := bytes_cons (by omega)
        refine ⟨_, rfl, ⟨by simp only; omega, by simp only; omega, ?_, ?_, by simp only; omega⟩, by simp only; omega⟩
        · have := congrArg ByteArray.size hcut
          simp at this ⊢
          omega
        · simp only
          rw [ByteArray.append_assoc, hcut, i4]
  · right
    refine ⟨.inl (c, acc, rd), by simp only [hi, decide_false, cond_false], ?_⟩
    have h1 : rd.size + c.size ≤ 9223372036854775807 := by omega
    have h2 : (c.size : Int) ≤ 16 := by omega
    simp only [h1, if_true, i4, decide_true, cond_true, console_May.f, h2, Option.bind_some]

theorem vmfleetlaw7_ConsoleQueues.pure (x : (tup vmfleetlaw7_ConsoleQueues.sp.args).den) (h : WfL vmfleetlaw7_ConsoleQueues.sp.args x) : vmfleetlaw7_ConsoleQueues.sp.f x = some true := consoleQueues x

end Go.Proofs.Ytacmfiddaklkiaa.Fn
