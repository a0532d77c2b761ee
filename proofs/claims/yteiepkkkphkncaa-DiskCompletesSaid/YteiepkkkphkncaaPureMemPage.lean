/- Reading a page (chapter 1), in plain Lean. -/
import Derived.Test.YteiepkkkphkncaaPureMem
set_option linter.unusedVariables false
set_option linter.unusedSimpArgs false
namespace Go.Proofs.Yteiepkkkphkncaa.Fn
open Go Lift

theorem text_eq (l : List Int) (hl : l.length ≤ 100000) : memory_text.f l = some (strOf (l.flatMap wordB)) := by
  unfold memory_text.f
  have h0 : 0 ≤ (0 : Int) ∧ (0 : Int) ≤ (IntKind.wrap .i64 (4 * (l.length : Int))) ∧ (IntKind.wrap .i64 (4 * (l.length : Int))) * ((1 : Nat) : Int) ≤ 70368744177664 := by
    rw [wrap_i64 (by omega) (by omega)]
    omega
  rw [if_pos h0]
  rw [show ((List.replicate 0 (0 : Int)), (0 : Int)) = (fun i : Nat => ((l.take i).flatMap wordB, (i : Int))) 0 by simp]
  rw [loop_at (fun i : Nat => ((l.take i).flatMap wordB, (i : Int))) l.length (.inl (l.flatMap wordB)) ?h1 ?h2]
  · rfl
  case h1 =>
    intro i hi
    have hi' : (i : Int) < l.length := by omega
    have hb : 0 ≤ (i : Int) ∧ (i : Int) < l.length := by omega
    have hx : l[i]? = some l[i] := List.getElem?_eq_getElem hi
    have hs : (((l.take i).flatMap wordB).length + 4) * 1 ≤ 70368744177664 := by rw [flat_len, List.length_take]; omega
    simp only [hi', decide_true, cond_true, hb, and_self, if_true, nth_some hx]
    have e : ([IntKind.wrap .u8 l[i], IntKind.wrap .u8 (shrI .u32 l[i] 8), IntKind.wrap .u8 (shrI .u32 l[i] 16), IntKind.wrap .u8 (shrI .u32 l[i] 24)] : List Int) = wordB l[i] := rfl
    rw [e, wordB_len, if_pos hs, wrap_i64 (by omega) (by omega), List.take_succ_eq_append_getElem hi, List.flatMap_append]
    simp
  case h2 => simp

theorem page_eq {m : List Int} {k : Nat} (h : m.length = 32 * k) (hk : k ≤ 32) (f : Nat) : memory_Page.f m f = some (if f < k then (pageOf m f, true) else (⟨#[]⟩, false)) := by
  unfold memory_Page.f
  rw [has_eq h hk]
  by_cases hf : f < k
  · have h1 : 0 ≤ (f : Int) ∧ (f : Int) < k := by omega
    have e1 : IntKind.wrap .i64 ((f : Int) + 1) = (f : Int) + 1 := wrap_i64 (by omega) (by omega)
    have e2 : IntKind.wrap .i64 (((f : Int) + 1) * 32) = ((f : Int) + 1) * 32 := wrap_i64 (by omega) (by omega)
    have e3 : IntKind.wrap .i64 ((f : Int) * 32) = (f : Int) * 32 := wrap_i64 (by omega) (by omega)
    simp only [h1, and_self, decide_true, Option.bind_some, Bool.not_true, cond_false, e1, e2, e3, hf, if_true]
    have h2 : 0 ≤ (f : Int) * 32 ∧ (f : Int) * 32 ≤ ((f : Int) + 1) * 32 ∧ ((f : Int) + 1) * 32 ≤ (m.length : Int) := by omega
    rw [if_pos h2]
    have e4 : slc m ((f : Int) * 32) (((f : Int) + 1) * 32) = (m.drop (32 * f)).take 32 := by
      have a1 : ((f : Int) * 32).toNat = 32 * f := by omega
      have a2 : (((f : Int) + 1) * 32).toNat = 32 * f + 32 := by omega
      rw [slc, a1, a2, List.drop_take]
      congr 1
      omega
    rw [e4, text_eq _ (by simp; omega)]
    rfl
  · have h1 : ¬ (0 ≤ (f : Int) ∧ (f : Int) < k) := by omega
    simp [h1, hf]

end Go.Proofs.Yteiepkkkphkncaa.Fn
