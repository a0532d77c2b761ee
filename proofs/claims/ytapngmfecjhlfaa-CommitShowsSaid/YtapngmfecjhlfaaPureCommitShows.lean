/- The law CommitShows, in plain Lean: at every input its function is true. -/
import Derived.Test.YtapngmfecjhlfaaPureCh25c
set_option linter.unusedVariables false
set_option linter.unusedSimpArgs false
namespace Go.Proofs.Ytapngmfecjhlfaa.Fn
open Go Lift

theorem cutc_size (s : ByteArray) {a b : Nat} (h : b ≤ s.size) : (cut s (a : Int) (b : Int)).size = b - a := by
  simp [cut, ByteArray.size_extract]; omega

theorem bt_cutc (p : ByteArray) {n t i : Nat} (hi : i < t - n) (ht : t ≤ p.size) : bt (cut p (n : Int) (t : Int)) (i : Int) = bt p ((n + i : Nat) : Int) := by
  unfold bt cut
  rw [Int.toNat_natCast, Int.toNat_natCast, Int.toNat_natCast, Int.toNat_natCast, Array.getD_eq_getD_getElem?, ByteArray.data_extract, Array.getElem?_extract, if_pos (by have : p.size = p.data.size := rfl; omega), Array.getD_eq_getD_getElem?]

theorem cut_append (s : ByteArray) {a b c : Nat} (h1 : a ≤ b) (h2 : b ≤ c) (h3 : c ≤ s.size) : cut s (a : Int) (b : Int) ++ cut s (b : Int) (c : Int) = cut s (a : Int) (c : Int) := by
  apply ByteArray.ext
  unfold cut
  rw [ByteArray.data_append, ByteArray.data_extract, ByteArray.data_extract, ByteArray.data_extract]
  simp only [Int.toNat_natCast]
  rw [Array.extract_append_extract]
  congr 1 <;> omega

theorem cut_all (s : ByteArray) : cut s 0 (s.size : Int) = s := by
  apply ByteArray.ext
  unfold cut
  rw [ByteArray.data_extract]
  simp only [Int.toNat_natCast, Int.toNat_zero]
  exact Array.extract_size

theorem shows_loop (text : ByteArray) (h : text.size ≤ 200) : loop (Y := (ByteArray × List ByteArray) ⊕ (Bool)) (fun (x1 : (ByteArray × List ByteArray) × Int) =>
      bif decide (x1.2 < (text.size : Int)) then
        if 0 ≤ x1.2 ∧ x1.2 ≤ (IntKind.wrap .i64 (x1.2 + 1)) ∧ (IntKind.wrap .i64 (x1.2 + 1)) ≤ (text.size : Int) then
          (commit_Show.f x1.1 (((1 : Int), (0 : Int), (0 : Int), cut text x1.2 (IntKind.wrap .i64 (x1.2 + 1))), IntKind.wrap .u64 x1.2)).bind fun r2 =>
          bif !r2.2 then
            some (.inr (.inr false))
          else
            some (.inl (r2.1, IntKind.wrap .i64 (x1.2 + 1)))
        else none
      else
        some (.inr (.inl x1.1))) (((⟨#[]⟩ : ByteArray), []), (0 : Int)) = some (.inl (text, [])) := by
  have h0 : (fun i : Nat => ((cut text (0 : Int) (i : Int), ([] : List ByteArray)), (i : Int))) 0 = (((⟨#[]⟩ : ByteArray), []), (0 : Int)) := by
    have : cut text 0 ((0 : Nat) : Int) = (⟨#[]⟩ : ByteArray) := size_zero.1 (by
      have := cutc_size text (a := 0) (b := 0) (Nat.zero_le _)
      exact this)
    show ((cut text (0 : Int) ((0 : Nat) : Int), ([] : List ByteArray)), ((0 : Nat) : Int)) = _
    rw [this]
    rfl
  rw [← h0]
  refine loop_at (fun i : Nat => ((cut text (0 : Int) (i : Int), ([] : List ByteArray)), (i : Int))) text.size (Sum.inl (text, [])) (fun i hi => ?_) ?_
  · have hj : (i : Int) < (text.size : Int) := by omega
    have w : IntKind.wrap .i64 ((i : Int) + 1) = ((i + 1 : Nat) : Int) := by rw [wrap_i64 (by omega) (by omega)]; omega
    have wu : IntKind.wrap .u64 (i : Int) = (i : Int) := wrap_u64 (by omega) (by omega)
    have z1 : (cut text (0 : Int) (i : Int)).size = i := cutc_size text (a := 0) (b := i) (by omega)
    have z2 : (cut text (i : Int) ((i + 1 : Nat) : Int)).size = 1 := by rw [cutc_size text (by omega)]; omega
    have hs : showC (cut text (0 : Int) (i : Int), ([] : List ByteArray)) (((1 : Int), (0 : Int), (0 : Int), cut text (i : Int) ((i + 1 : Nat) : Int)), (i : Int)) = ((cut text (0 : Int) ((i + 1 : Nat) : Int), []), true) := by
      unfold showC
      have a1 : ¬ (1 : Int) = 2 := by decide
      have a2 : ¬ ((cut text (i : Int) ((i + 1 : Nat) : Int)).size ≠ 1 ∨ (i : Int) > ((cut text (0 : Int) (i : Int)).size : Int)) := by rw [z1, z2]; omega
      have a3 : ¬ (i : Int) < ((cut text (0 : Int) (i : Int)).size : Int) := by rw [z1]; omega
      have a4 := cut_append text (a := 0) (b := i) (c := i + 1) (Nat.zero_le _) (by omega) (by omega)
      dsimp only
      rw [if_neg a1, if_pos rfl, if_neg a2, if_neg a3]
      have e : ((0 : Nat) : Int) = 0 := rfl
      rw [e] at a4
      rw [a4]
    dsimp only
    rw [decide_eq_true hj, cond_true, w, if_pos (by omega), wu, show_eq _ _ (by simp only; omega) (by simp) (by simp only; omega), Option.bind_some, hs]
    rfl
  · have : ¬ ((text.size : Int) < text.size) := by omega
    dsimp only
    rw [decide_eq_false this, cut_all]
    rfl

theorem commitShows (text : ByteArray) (index c : Int) (hi : 0 ≤ index) (hc0 : 0 ≤ c) (hc : c ≤ 255) : vmfleetlaw25_CommitShows.f text index c = some true := by
  unfold vmfleetlaw25_CommitShows.f
  rw [vmfleetlaw25_awake.ok]
  by_cases c1 : (text.size : Int) > 200
  · rw [decide_eq_true c1]; rfl
  rw [decide_eq_false c1, cond_false]
  refine bind25 (shows_loop text (by omega)) ?_
  have wz : IntKind.wrap .u64 (text.size : Int) = (text.size : Int) := wrap_u64 (by omega) (by omega)
  have hd : (strOf ([c] : List Int)).size = 1 := by rw [strOf_size]; rfl
  have hb : bt (strOf ([c] : List Int)) 0 = c := by
    show ((UInt8.ofNat c.toNat).toNat : Int) = c
    rw [UInt8.toNat_ofNat']
    omega
  dsimp only
  rw [show_eq _ _ (by simp only; omega) (by simp) hi, Option.bind_some, wz]
  have a1 : ¬ (1 : Int) = 2 := by decide
  unfold showC
  dsimp only
  rw [if_neg a1, if_pos rfl, hb]
  generalize strOf ([c] : List Int) = d at hd hb ⊢
  by_cases k1 : index > (text.size : Int)
  · rw [decide_eq_true k1, cond_true, if_pos (show d.size ≠ 1 ∨ index > (text.size : Int) from Or.inr k1)]
    dsimp only
    rw [Bool.not_false, cond_true, decide_eq_true rfl, cond_true]
    rfl
  have k2 : ¬ (d.size ≠ 1 ∨ index > (text.size : Int)) := fun hh => by
    rcases hh with hh | hh
    · exact hh hd
    · exact k1 hh
  rw [decide_eq_false k1, cond_false, if_neg k2]
  by_cases k3 : index = (text.size : Int)
  · have k4 : ¬ index < (text.size : Int) := by omega
    rw [decide_eq_true k3, cond_true, if_neg k4]
    dsimp only
    rw [cond_true, if_pos (by omega), decide_eq_true rfl, cond_true]
    rfl
  · have k4 : index < (text.size : Int) := by omega
    have wi : IntKind.wrap .i64 index = index := wrap_i64 (by omega) (by omega)
    rw [decide_eq_false k3, cond_false, if_pos k4, wi, if_pos ⟨hi, k4⟩]
    dsimp only
    rw [beq_self_eq_true, cond_true, decide_eq_true rfl, cond_true]
    rfl

theorem vmfleetlaw25_CommitShows.pure (x : (tup vmfleetlaw25_CommitShows.sp.args).den) (h : WfL vmfleetlaw25_CommitShows.sp.args x) : vmfleetlaw25_CommitShows.sp.f x = some true :=
  commitShows x.1 x.2.1 x.2.2 h.2.1.1 h.2.2.1 h.2.2.2

end Go.Proofs.Ytapngmfecjhlfaa.Fn
