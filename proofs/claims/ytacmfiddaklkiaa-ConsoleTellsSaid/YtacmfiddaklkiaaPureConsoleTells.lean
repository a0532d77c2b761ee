/- The law ConsoleTells, in plain Lean: at every console, byte and port its function is true. No condition but the arguments' ranges. -/
import Derived.Test.YtacmfiddaklkiaaPureCh7
set_option linter.unusedVariables false
set_option linter.unusedSimpArgs false
namespace Go.Proofs.Ytacmfiddaklkiaa.Fn
open Go Lift

theorem console_In_ref (c : ByteArray) (p : Int) : vmfleetref7_ConsoleIn.f c p = console_In.f c p ∧ ∃ r, console_In.f c p = some r := by
  unfold vmfleetref7_ConsoleIn.f console_In.f
  by_cases hp : p = 0
  · simp only [hp, decide_true, cond_true, Option.bind_some]
    by_cases hc : c.size = 0
    · have h0 := size_zero.1 hc
      subst h0
      exact ⟨rfl, _, rfl⟩
    · have h1 : ¬ c = (⟨#[]⟩ : ByteArray) := fun h => hc (size_zero.2 h)
      have h2 : (0 : Int) ≤ 0 ∧ (0 : Int) < c.size := by omega
      have h3 : (0 : Int) ≤ 1 ∧ (1 : Int) ≤ c.size := by omega
      have h4 : ¬ (c.size : Int) = 0 := by omega
      simp only [h1, decide_false, cond_false, h2, h3, if_true, h4, and_self, decide_true, cond_true]
      exact ⟨trivial, _, rfl⟩
  · simp only [hp, decide_false, cond_false, Option.bind_some]
    by_cases h1 : p = 1
    · simp [h1]
    · simp [h1]

theorem consoleTells (a : ByteArray) (b p : Int) (s : Bool) : vmfleetlaw7_ConsoleTells.f a b p s = some true := by
  unfold vmfleetlaw7_ConsoleTells.f
  rw [console_awake]
  by_cases hl : (a.size : Int) > 100
  · simp [hl]
  simp only [hl, decide_false, cond_false]
  have key : ∀ q : Int, ((console_Type.f a b).bind fun r3 => (vmfleetref7_Type.f a b).bind fun r4 => (console_In.f a q).bind fun r5 => (vmfleetref7_ConsoleIn.f a q).bind fun r6 =>
      bif decide (r3.1 = r4.1) then bif r3.2 == r4.2 then bif decide (r5.1 = r6.1) then bif decide (r5.2 = r6.2) then
        (console_Pending.f a).bind fun r7 => (vmfleetref7_ConsolePending.f a).bind fun r8 => bif r7 == r8 then
          (console_May.f a).bind fun r9 => (vmfleetref7_ConsoleMay.f a).bind fun r10 => bif r9 == r10 then (some true).bind fun r11 => some r11 else some false else some false
        else some false else some false else some false else some false) = some true := by
    intro q
    have e1 : vmfleetref7_Type.f a b = console_Type.f a b := rfl
    obtain ⟨e2, r, e3⟩ := console_In_ref a q
    rw [e1, e2, e3, console_Type_eq (by omega)]
    have e4 : (!decide (a = (⟨#[]⟩ : ByteArray))) = decide ((a.size : Int) > 0) := by
      by_cases h0 : a.size = 0
      · have h1 : ¬ (a.size : Int) > 0 := by omega
        simp only [size_zero.1 h0, decide_true, Bool.not_true]; rfl
      · have h1 : ¬ a = (⟨#[]⟩ : ByteArray) := fun h => h0 (size_zero.2 h)
        have h2 : (a.size : Int) > 0 := by omega
        simp only [h1, h2, decide_true, decide_false, Bool.not_false]
    simp only [console_Pending.f, vmfleetref7_ConsolePending.f, console_May.f, vmfleetref7_ConsoleMay.f, e4, Option.bind_some, decide_true, cond_true, beq_self_eq_true]
  cases s with
  | false => simp only [cond_false, Option.bind_some]; exact key p
  | true =>
    simp only [cond_true]
    unfold vmfleetmake_Round.f
    have h3 : ¬ (3 : Int) = 0 := by decide
    simp only [h3, if_false]
    by_cases hn : Int.tmod p 3 < 0
    · simp only [hn, decide_true, cond_true, Option.bind_some]; exact key _
    · simp only [hn, decide_false, cond_false, Option.bind_some]; exact key _

theorem vmfleetlaw7_ConsoleTells.pure (x : (tup vmfleetlaw7_ConsoleTells.sp.args).den) (h : WfL vmfleetlaw7_ConsoleTells.sp.args x) : vmfleetlaw7_ConsoleTells.sp.f x = some true := consoleTells x.1 x.2.1 x.2.2.1 x.2.2.2

end Go.Proofs.Ytacmfiddaklkiaa.Fn
