/- Memory's functions (chapter 1), in plain Lean: what each computes. -/
import Derived.Test.YtapngmfecjhlfaaFns
set_option linter.unusedVariables false
set_option linter.unusedSimpArgs false
namespace Go.Proofs.Ytapngmfecjhlfaa.Fn
open Go Lift

def U32 (m : List Int) : Prop := ∀ w ∈ m, 0 ≤ w ∧ w ≤ 4294967295
def wordB (w : Int) : List Int := [IntKind.wrap .u8 w, IntKind.wrap .u8 (shrI .u32 w 8), IntKind.wrap .u8 (shrI .u32 w 16), IntKind.wrap .u8 (shrI .u32 w 24)]
/-- The bytes of a page; the page. -/
def pageL (m : List Int) (f : Nat) : List Int := ((m.drop (32 * f)).take 32).flatMap wordB
def pageOf (m : List Int) (f : Nat) : ByteArray := strOf (pageL m f)

theorem clone32_eq (s : List Int) (h : s.length ≤ 1000000) : slices_Clone_uint32_uint32.f s = some s := by
  unfold slices_Clone_uint32_uint32.f
  have h1 : (([] : List Int).length + s.length) * 4 ≤ 70368744177664 := by simp; omega
  rw [if_pos h1, List.nil_append]
  cases s with
  | nil => simp [both]
  | cons x l => simp

theorem round_ok (n k : Int) (hk : 0 < k) (hk2 : k < 9223372036854775807) : ∃ r, vmfleetmake_Round.f n k = some r ∧ 0 ≤ r ∧ r < k := by
  unfold vmfleetmake_Round.f
  have h0 : ¬ k = 0 := by omega
  simp only [h0, if_false]
  have h1 := Int.tmod_lt_of_pos n hk
  have h2 : -k < Int.tmod n k := by have := Int.lt_tmod_of_pos n hk; omega
  by_cases h : Int.tmod n k < 0
  · simp only [h, decide_true, cond_true, Option.some.injEq, exists_eq_left']
    rw [wrap_i64 (by omega) (by omega)]
    omega
  · simp only [h, decide_false, cond_false, Option.some.injEq, exists_eq_left']
    omega

theorem mix_ok (n k : Int) : ∃ r, vmfleetmake_Mix.f n k = some r := by
  unfold vmfleetmake_Mix.f vmfleetref1_Next.f
  exact ⟨_, rfl⟩

theorem pages_len {m : List Int} {k : Nat} (h : m.length = 32 * k) (hk : k ≤ 32) : Int.tmod (m.length : Int) 32 = 0 ∧ ¬ (m.length : Int) > 1024 ∧ IntKind.wrap .i64 (Int.tdiv (m.length : Int) 32) = k := by
  have e1 : Int.tmod (m.length : Int) 32 = (m.length : Int) % 32 := Int.tmod_eq_emod_of_nonneg (by omega)
  have e2 : Int.tdiv (m.length : Int) 32 = (m.length : Int) / 32 := Int.tdiv_eq_ediv_of_nonneg (by omega)
  rw [e1, e2, wrap_i64 (by omega) (by omega)]
  omega

theorem pages_eq {m : List Int} {k : Nat} (h : m.length = 32 * k) (hk : k ≤ 32) : memory_Pages.f m = some (k : Int) := by
  obtain ⟨h1, h2, h3⟩ := pages_len h hk
  unfold memory_Pages.f
  simp only [h1, h2, h3, decide_true, decide_false, Bool.not_true, cond_false]

theorem pagesR_eq {m : List Int} {k : Nat} (h : m.length = 32 * k) (hk : k ≤ 32) : vmfleetref1_Pages.f m = some (k : Int) := by
  obtain ⟨h1, h2, h3⟩ := pages_len h hk
  unfold vmfleetref1_Pages.f
  simp only [h1, h2, h3, decide_true, decide_false, Bool.not_true, cond_false]

theorem has_eq {m : List Int} {k : Nat} (h : m.length = 32 * k) (hk : k ≤ 32) (f : Int) : memory_has.f m f = some (decide (0 ≤ f ∧ f < k)) := by
  unfold memory_has.f
  rw [pages_eq h hk]
  by_cases h0 : f ≥ 0
  · have : 0 ≤ f := h0
    simp [h0, this]
  · have : ¬ 0 ≤ f := h0
    simp [h0, this]

theorem shr_zero (w : Int) : shrI .u32 w 0 = w := by simp [shrI]

theorem wordB_range (w : Int) : ∀ x ∈ wordB w, 0 ≤ x ∧ x ≤ 255 := by
  intro x hx
  simp only [wordB, List.mem_cons, List.not_mem_nil, or_false] at hx
  rcases hx with rfl | rfl | rfl | rfl <;> exact wrap_u8_range _

theorem wordB_len (w : Int) : (wordB w).length = 4 := rfl

theorem flat_len (l : List Int) : (l.flatMap wordB).length = 4 * l.length := by
  induction l with
  | nil => rfl
  | cons x l ih => rw [List.flatMap_cons, List.length_append, ih, wordB_len, List.length_cons]; omega

theorem bytesOf_strOf {xs : List Int} (h : ∀ x ∈ xs, 0 ≤ x ∧ x ≤ 255) : bytesOf (strOf xs) = xs := by
  simp only [bytesOf, strOf, List.map_map]
  conv => rhs; rw [← List.map_id xs]
  refine List.map_congr_left fun x hx => ?_
  obtain ⟨h1, h2⟩ := h x hx
  have h3 : x.toNat < 256 := by omega
  simp only [Function.comp, UInt8.toNat_ofNat', id]
  have : x.toNat % 2 ^ 8 = x.toNat := Nat.mod_eq_of_lt (by simpa using h3)
  rw [this]
  omega

theorem page_bounds {m : List Int} {k : Nat} {f : Nat} (h : m.length = 32 * k) (hk : k ≤ 32) (hf : f < k) : ((m.drop (32 * f)).take 32).length = 32 := by
  simp; omega

theorem pageL_len {m : List Int} {k : Nat} {f : Nat} (h : m.length = 32 * k) (hk : k ≤ 32) (hf : f < k) : (pageL m f).length = 128 := by
  unfold pageL
  rw [flat_len, page_bounds h hk hf]

theorem pageOf_size {m : List Int} {k : Nat} {f : Nat} (h : m.length = 32 * k) (hk : k ≤ 32) (hf : f < k) : (pageOf m f).size = 128 := by
  unfold pageOf
  rw [strOf_size, pageL_len h hk hf]

theorem low_eq (w : Int) : vmfleetref1_Low.f w 4 = some (strOf (wordB w)) := by
  unfold vmfleetref1_Low.f
  rw [loop_of_loopN (n := 5) (y := .inl [IntKind.wrap .u8 (shrI .u32 w 0), IntKind.wrap .u8 (shrI .u32 w 8), IntKind.wrap .u8 (shrI .u32 w 16), IntKind.wrap .u8 (shrI .u32 w 24)]) (by kernel_rfl)]
  rw [shr_zero]
  rfl

theorem pageR_eq {m : List Int} {k : Nat} (h : m.length = 32 * k) (hk : k ≤ 32) (f : Nat) : vmfleetref1_Page.f m f = some (if f < k then (pageOf m f, true) else (⟨#[]⟩, false)) := by
  unfold vmfleetref1_Page.f
  rw [pagesR_eq h hk]
  have h0 : ¬ (f : Int) < 0 := by omega
  simp only [h0, decide_false, cond_false, Option.bind_some]
  by_cases hf : f < k
  · have h1 : ¬ (f : Int) ≥ k := by omega
    simp only [h1, decide_false, cond_false, hf, if_true]
    have e3 : IntKind.wrap .i64 ((f : Int) * 32) = (f : Int) * 32 := wrap_i64 (by omega) (by omega)
    rw [e3]
    rw [show (([] : List Int), (0 : Int)) = (fun i : Nat => ((((m.drop (32 * f)).take 32).take i).flatMap wordB, (i : Int))) 0 by simp]
    rw [loop_at (fun i : Nat => ((((m.drop (32 * f)).take 32).take i).flatMap wordB, (i : Int))) 32 (.inl (pageL m f)) ?h1 ?h2]
    · rfl
    case h1 =>
      intro i hi
      have hi' : (i : Int) < 32 := by omega
      have e4 : IntKind.wrap .i64 ((f : Int) * 32 + i) = (f : Int) * 32 + i := wrap_i64 (by omega) (by omega)
      have hb : 0 ≤ (f : Int) * 32 + (i : Int) ∧ (f : Int) * 32 + (i : Int) < (m.length : Int) := by omega
      have hl := page_bounds h hk hf
      have hi2 : i < ((m.drop (32 * f)).take 32).length := by omega
      have hn : nth (0 : Int) m ((f : Int) * 32 + i) = ((m.drop (32 * f)).take 32)[i] := by
        have a1 : ((f : Int) * 32 + i).toNat = 32 * f + i := by omega
        have a2 : 32 * f + i < m.length := by omega
        simp [nth, a1, List.getD_eq_getElem?_getD, a2]
      simp only [hi', decide_true, cond_true, e4, hb, and_self, if_true, hn, low_eq, Option.bind_some]
      rw [bytesOf_strOf (wordB_range _), wordB_len]
      have hs : (((((m.drop (32 * f)).take 32).take i).flatMap wordB).length + 4) * 1 ≤ 70368744177664 := by rw [flat_len, List.length_take]; omega
      rw [if_pos hs, wrap_i64 (by omega) (by omega), List.take_succ_eq_append_getElem hi2, List.flatMap_append]
      simp
    case h2 =>
      have : ((m.drop (32 * f)).take 32).take 32 = (m.drop (32 * f)).take 32 := List.take_of_length_le (by rw [page_bounds h hk hf]; exact Nat.le_refl _)
      simp only [this]
      rfl
  · have h1 : (f : Int) ≥ k := by omega
    simp [h1, hf]

/-! ### Writing a page -/
def wordOf (s : ByteArray) (i : Nat) : Int := orI .u32 (orI .u32 (orI .u32 (IntKind.wrap .u32 (bt s (4 * (i : Int)))) (shlI .u32 (IntKind.wrap .u32 (bt s (4 * (i : Int) + 1))) 8)) (shlI .u32 (IntKind.wrap .u32 (bt s (4 * (i : Int) + 2))) 16)) (shlI .u32 (IntKind.wrap .u32 (bt s (4 * (i : Int) + 3))) 24)
def setN (m : List Int) (b : Nat) (w : Nat → Int) (n : Nat) : List Int := (List.range n).foldl (fun l i => l.set (b + i) (w i)) m
def setP (m : List Int) (f : Nat) (s : ByteArray) : List Int := setN m (32 * f) (wordOf s) 32

theorem setN_succ (m : List Int) (b : Nat) (w : Nat → Int) (n : Nat) : setN m b w (n + 1) = (setN m b w n).set (b + n) (w n) := by
  simp [setN, List.range_succ, List.foldl_append]

theorem setN_len (m : List Int) (b : Nat) (w : Nat → Int) (n : Nat) : (setN m b w n).length = m.length := by
  induction n with
  | zero => rfl
  | succ n ih => rw [setN_succ, List.length_set, ih]

theorem setN_get (m : List Int) (b : Nat) (w : Nat → Int) (n j : Nat) : (setN m b w n)[j]? = if b ≤ j ∧ j < b + n ∧ j < m.length then some (w (j - b)) else m[j]? := by
  induction n with
  | zero =>
    have : ¬ (b ≤ j ∧ j < b + 0 ∧ j < m.length) := by omega
    rw [if_neg this]; rfl
  | succ n ih =>
    rw [setN_succ, List.getElem?_set, ih, setN_len]
    by_cases h1 : b + n = j
    · subst h1
      by_cases h2 : b + n < m.length
      · have h3 : b ≤ b + n ∧ b + n < b + (n + 1) ∧ b + n < m.length := by omega
        rw [if_pos rfl, if_pos h2, if_pos h3]
        congr 2; omega
      · have h3 : ¬ (b ≤ b + n ∧ b + n < b + (n + 1) ∧ b + n < m.length) := by omega
        rw [if_pos rfl, if_neg h2, if_neg h3]
        simp; omega
    · rw [if_neg h1]
      by_cases h2 : b ≤ j ∧ j < b + n ∧ j < m.length
      · have h3 : b ≤ j ∧ j < b + (n + 1) ∧ j < m.length := by omega
        rw [if_pos h2, if_pos h3]
      · have h3 : ¬ (b ≤ j ∧ j < b + (n + 1) ∧ j < m.length) := by omega
        rw [if_neg h2, if_neg h3]

theorem setP_len (m : List Int) (f : Nat) (s : ByteArray) : (setP m f s).length = m.length := setN_len _ _ _ _

theorem or_range (x y : Int) : 0 ≤ orI .u32 x y ∧ orI .u32 x y ≤ 4294967295 := wrap_u32_range _

theorem setP_u32 {m : List Int} (h : U32 m) (f : Nat) (s : ByteArray) : U32 (setP m f s) := by
  intro w hw
  obtain ⟨j, hj⟩ := List.mem_iff_getElem?.1 hw
  unfold setP at hj
  rw [setN_get] at hj
  split at hj
  · cases hj; exact or_range _ _
  · exact h w (List.mem_of_getElem? hj)

theorem clone_mem (m : List Int) (h : m.length ≤ 1000000) : memory_clone.f m = some m := by
  unfold memory_clone.f
  by_cases h0 : (m.length : Int) = 0
  · have : m = [] := List.eq_nil_of_length_eq_zero (by omega)
    simp [h0, this]
  · have h1 : 0 ≤ (m.length : Int) ∧ (m.length : Int) ≤ (m.length : Int) ∧ (m.length : Int) * ((4 : Nat) : Int) ≤ 70368744177664 := by omega
    simp only [h0, decide_false, cond_false, h1, and_self, if_true]
    simp

theorem setPage_eq {m : List Int} {k : Nat} (h : m.length = 32 * k) (hk : k ≤ 32) (f : Nat) (s : ByteArray) : memory_SetPage.f m f s = some (if f < k ∧ s.size = 128 then (setP m f s, true) else (m, false)) := by
  unfold memory_SetPage.f
  rw [clone_mem m (by omega), has_eq h hk]
  simp only [Option.bind_some]
  by_cases hf : f < k
  · have h1 : 0 ≤ (f : Int) ∧ (f : Int) < k := by omega
    by_cases hs : s.size = 128
    · have hs' : (s.size : Int) = 128 := by omega
      have e3 : IntKind.wrap .i64 ((f : Int) * 32) = (f : Int) * 32 := wrap_i64 (by omega) (by omega)
      simp only [h1, and_self, decide_true, Bool.not_true, cond_false, hs', hf, hs, if_true, e3]
      rw [show (m, (0 : Int)) = (fun i : Nat => (setN m (32 * f) (wordOf s) i, (i : Int))) 0 from rfl]
      rw [loop_at (fun i : Nat => (setN m (32 * f) (wordOf s) i, (i : Int))) 32 (.inl (setP m f s)) ?h1 ?h2]
      · rfl
      case h1 =>
        intro i hi
        have hi' : (i : Int) < 32 := by omega
        have e4 : IntKind.wrap .i64 ((f : Int) * 32 + i) = (f : Int) * 32 + i := wrap_i64 (by omega) (by omega)
        have e5 : IntKind.wrap .i64 (4 * (i : Int)) = 4 * (i : Int) := wrap_i64 (by omega) (by omega)
        have e6 : IntKind.wrap .i64 (4 * (i : Int) + 1) = 4 * (i : Int) + 1 := wrap_i64 (by omega) (by omega)
        have e7 : IntKind.wrap .i64 (4 * (i : Int) + 2) = 4 * (i : Int) + 2 := wrap_i64 (by omega) (by omega)
        have e8 : IntKind.wrap .i64 (4 * (i : Int) + 3) = 4 * (i : Int) + 3 := wrap_i64 (by omega) (by omega)
        have b0 : 0 ≤ 4 * (i : Int) ∧ 4 * (i : Int) < ((128 : Nat) : Int) := by omega
        have b1 : 0 ≤ 4 * (i : Int) + 1 ∧ 4 * (i : Int) + 1 < ((128 : Nat) : Int) := by omega
        have b2 : 0 ≤ 4 * (i : Int) + 2 ∧ 4 * (i : Int) + 2 < ((128 : Nat) : Int) := by omega
        have b3 : 0 ≤ 4 * (i : Int) + 3 ∧ 4 * (i : Int) + 3 < ((128 : Nat) : Int) := by omega
        have b4 : 0 ≤ (f : Int) * 32 + (i : Int) ∧ (f : Int) * 32 + (i : Int) < ((setN m (32 * f) (wordOf s) i).length : Int) := by rw [setN_len]; omega
        simp only [hi', decide_true, cond_true, e4, e5, e6, e7, e8, b0, b1, b2, b3, and_self, if_true]
        rw [if_pos b4, wrap_i64 (n := (i : Int) + 1) (by omega) (by omega), setN_succ]
        have a1 : ((f : Int) * 32 + i).toNat = 32 * f + i := by omega
        have a2 : ((i + 1 : Nat) : Int) = (i : Int) + 1 := by omega
        simp only [put, a1, a2, wordOf]
      case h2 =>
        have : ¬ (((32 : Nat) : Int) < 32) := by decide
        simp only [this, decide_false, cond_false, setP]
    · have hs' : ¬ (s.size : Int) = 128 := by omega
      simp [h1, hf, hs, hs']
  · have h1 : ¬ (0 ≤ (f : Int) ∧ (f : Int) < k) := by omega
    simp [h1, hf]

theorem new_eq (k : Nat) (h1 : 1 ≤ k) (h2 : k ≤ 32) : vmfleetref1_New.f k = some (List.replicate (32 * k) 0) := by
  unfold vmfleetref1_New.f
  have g1 : ¬ (k : Int) < 1 := by omega
  have g2 : ¬ (k : Int) > 32 := by omega
  have e : IntKind.wrap .i64 ((k : Int) * 32) = (k : Int) * 32 := wrap_i64 (by omega) (by omega)
  have g3 : 0 ≤ (k : Int) * 32 ∧ (k : Int) * 32 ≤ (k : Int) * 32 ∧ (k : Int) * 32 * ((4 : Nat) : Int) ≤ 70368744177664 := by omega
  simp only [g1, g2, decide_false, cond_false, e, g3, and_self, if_true]
  congr 2
  omega

/-- Filling a memory with numbers. -/
theorem fill_ok (n : Int) (m0 : List Int) (hm : U32 m0) (hl : m0.length ≤ 1000000) : ∃ m, loop (Y := List Int ⊕ List Int) (fun (x1 : List Int × Int) =>
    bif decide (x1.2 < (x1.1.length : Int)) then
      (vmfleetmake_Mix.f n x1.2).bind fun r3 =>
      if 0 ≤ x1.2 ∧ x1.2 < (x1.1.length : Int) then
        some (.inl (put x1.1 x1.2 (IntKind.wrap .u32 (andI .i64 r3 (4294967295 : Int))), IntKind.wrap .i64 (x1.2 + 1)))
      else none
    else
      some (.inr (.inl x1.1))) (m0, (0 : Int)) = some (.inl m) ∧ m.length = m0.length ∧ U32 m := by
  have hl2 := loop_ind (step := fun (x1 : List Int × Int) =>
    bif decide (x1.2 < (x1.1.length : Int)) then
      (vmfleetmake_Mix.f n x1.2).bind fun r3 =>
      if 0 ≤ x1.2 ∧ x1.2 < (x1.1.length : Int) then
        some (.inl (put x1.1 x1.2 (IntKind.wrap .u32 (andI .i64 r3 (4294967295 : Int))), IntKind.wrap .i64 (x1.2 + 1)))
      else none
    else
      some (.inr (.inl x1.1))) (Q := fun y : List Int ⊕ List Int => ∃ m, y = .inl m ∧ m.length = m0.length ∧ U32 m) (I := fun x => 0 ≤ x.2 ∧ x.1.length = m0.length ∧ U32 x.1) (fun x => ((m0.length : Int) - x.2).toNat) (x := (m0, (0 : Int))) ⟨Int.le_refl 0, rfl, hm⟩ (fun x hI => by
      obtain ⟨m, i⟩ := x
      obtain ⟨i1, i2, i3⟩ := hI
      simp only at i1 i2 i3 ⊢
      by_cases hi : i < (m.length : Int)
      · left
        obtain ⟨r, hr⟩ := mix_ok n i
        have hb : 0 ≤ i ∧ i < (m.length : Int) := ⟨i1, hi⟩
        simp only [hi, decide_true, cond_true, hr, Option.bind_some, hb, and_self, if_true]
        rw [wrap_i64 (n := i + 1) (by omega) (by omega)]
        refine ⟨_, rfl, ⟨by simp only; omega, by simp [put, i2], ?_⟩, by simp only; omega⟩
        intro w hw
        rcases List.mem_or_eq_of_mem_set hw with hw | rfl
        · exact i3 w hw
        · exact wrap_u32_range _
      · right
        exact ⟨.inl m, by simp only [hi, decide_false, cond_false], m, rfl, i2, i3⟩)
  obtain ⟨y, hy, m, rfl, h1, h2⟩ := hl2
  exact ⟨m, hy, h1, h2⟩

theorem zeros_u32 (n : Nat) : U32 (List.replicate n 0) := by
  intro w hw
  rw [List.mem_replicate] at hw
  omega

end Go.Proofs.Ytapngmfecjhlfaa.Fn
