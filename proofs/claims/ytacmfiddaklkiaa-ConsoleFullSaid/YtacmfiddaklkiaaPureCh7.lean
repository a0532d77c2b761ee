/- The console's functions (chapter 7), in plain Lean: what each computes. -/
import Derived.Test.YtacmfiddaklkiaaFns
set_option linter.unusedVariables false
namespace Go.Proofs.Ytacmfiddaklkiaa.Fn
open Go Lift

theorem console_awake : vmfleetlaw7_awake.f = some true := by kernel_rfl

theorem console_Type_eq {c : ByteArray} {b : Int} (h : c.size ≤ 1000000) : console_Type.f c b = some (if c.size < 16 then (c ++ strOf [b], true) else (c, false)) := by
  unfold console_Type.f
  by_cases hc : c.size < 16
  · have h1 : ¬ ((c.size : Int) ≥ 16) := by omega
    have h2 : c.size + (strOf ([b] : List Int)).size ≤ 9223372036854775807 := by simp; omega
    simp only [h1, decide_false, cond_false, h2, if_true, hc]
  · have h1 : (c.size : Int) ≥ 16 := by omega
    simp only [h1, decide_true, cond_true, hc, if_false]

theorem console_In_zero {c : ByteArray} : console_In.f c 0 = some (if c.size = 0 then (c, 4294967295) else (cut c 1 c.size, bt c 0)) := by
  unfold console_In.f
  simp only [decide_true, cond_true]
  by_cases hc : c.size = 0
  · rw [if_pos hc]; simp only [size_zero.1 hc, decide_true, cond_true]
  · have h1 : ¬ c = (⟨#[]⟩ : ByteArray) := fun h => hc (size_zero.2 h)
    have h2 : (0 : Int) ≤ 0 ∧ (0 : Int) < c.size := by omega
    have h3 : (0 : Int) ≤ 1 ∧ (1 : Int) ≤ c.size := by omega
    have := bt_range c 0
    simp only [h1, decide_false, cond_false, h2, h3, if_true, hc, if_false, and_self]
    rw [wrap_u32 (by omega) (by omega)]

end Go.Proofs.Ytacmfiddaklkiaa.Fn
