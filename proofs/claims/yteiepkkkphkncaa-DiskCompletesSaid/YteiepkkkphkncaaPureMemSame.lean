/- Equal words (chapter 1), in plain Lean. -/
import Derived.Test.YteiepkkkphkncaaLPure
import Derived.Test.YteiepkkkphkncaaFns
set_option linter.unusedVariables false
set_option linter.unusedSimpArgs false
namespace Go.Proofs.Yteiepkkkphkncaa.Fn
open Go Lift

theorem sameW_self (a : List Int) (hl : a.length ≤ 1000000) : vmfleetref1_SameWords.f a a = some true := by
  unfold vmfleetref1_SameWords.f
  simp only [decide_true, Bool.not_true, cond_false]
  rw [loop_all a (fun _ => true) (.inr false) (.inl ()) ?h1 ?h2]
  · simp
  case h1 =>
    intro i x hx
    have hi := idx_lt hx
    have hb : 0 ≤ (i : Int) ∧ (i : Int) < a.length := ⟨by omega, hi⟩
    simp only [hi, decide_true, cond_true, hb, and_self, if_true, Bool.not_true, cond_false]
    rw [wrap_i64 (n := (i : Int) + 1) (by omega) (by omega)]
  case h2 => simp

theorem bindS {α β : Type} {o : Option α} {a : α} {K : α → Option β} {r : Option β} (h : o = some a) (hk : K a = r) : o.bind K = r := by rw [h]; exact hk

theorem cond_some {α : Type} {c : Bool} {a b : Option α} (ha : ∃ x, a = some x) (hb : ∃ x, b = some x) : ∃ x, (bif c then a else b) = some x := by cases c <;> assumption

theorem eqD_self {α : Type} (i : DecidableEq α) (x : α) : eqD i x x = true := by unfold eqD; exact @decide_eq_true _ (i x x) rfl

end Go.Proofs.Yteiepkkkphkncaa.Fn
