/- Memory's copy and the words of a page of zeros (chapter 1), in plain Lean. -/
import Derived.Test.YteiepkkkphkncaaPureMem
set_option linter.unusedVariables false
set_option linter.unusedSimpArgs false
namespace Go.Proofs.Yteiepkkkphkncaa.Fn
open Go Lift

theorem copyR_eq (m : List Int) (h : m.length ≤ 1000000) : vmfleetref1_Copy.f m = some m := by
  unfold vmfleetref1_Copy.f
  rw [if_pos (by omega)]
  simp

theorem pageT_eq {m : List Int} {k : Nat} (h : m.length = 32 * k) (hk : k ≤ 32) {x : Nat} (h2 : x ≤ 4294967295) : vmfleetref7_page.f m (x : Int) = some (decide (x < k)) := by
  unfold vmfleetref7_page.f
  rw [pagesR_eq h hk, Option.bind_some, wrap_u64 (by omega) (by omega), wrap_u64 (by omega) (by omega)]
  congr 1
  by_cases hx : x < k
  · rw [decide_eq_true hx, decide_eq_true (by omega)]
  · rw [decide_eq_false hx, decide_eq_false (by omega)]

end Go.Proofs.Yteiepkkkphkncaa.Fn
