/- A page that is written reads as it was written, in plain Lean. -/
import Derived.Test.YteiepkkkphkncaaPureMem
set_option linter.unusedVariables false
set_option linter.unusedSimpArgs false
namespace Go.Proofs.Yteiepkkkphkncaa.Fn
open Go Lift

theorem or_add {x y : Int} (s : Nat) (hx0 : 0 ≤ x) (hx : x < 2 ^ s) (hy0 : 0 ≤ y) (hy : y * 2 ^ s + x ≤ 4294967295) : orI .u32 x (y * 2 ^ s) = x + y * 2 ^ s := by
  obtain ⟨a, rfl⟩ := Int.eq_ofNat_of_zero_le hx0
  obtain ⟨b, rfl⟩ := Int.eq_ofNat_of_zero_le hy0
  have hx' : a < 2 ^ s := by
    have : ((2 ^ s : Nat) : Int) = 2 ^ s := by rw [Int.natCast_pow]; rfl
    omega
  have e0 : ((b : Int) * 2 ^ s) = ((b * 2 ^ s : Nat) : Int) := by rw [Int.natCast_mul, Int.natCast_pow]; rfl
  have hy' : b * 2 ^ s + a ≤ 4294967295 := by rw [e0] at hy; omega
  have e1 : ((b : Int) * 2 ^ s) = ((b * 2 ^ s : Nat) : Int) := by rw [Int.natCast_mul, Int.natCast_pow]; rfl
  rw [e1]
  show IntKind.wrap .u32 ((BitVec.ofInt 32 (a : Int) ||| BitVec.ofInt 32 ((b * 2 ^ s : Nat) : Int)).toNat : Int) = _
  have ha : a ≤ 4294967295 := Nat.le_trans (Nat.le_add_left _ _) hy'
  have e2 : (BitVec.ofInt 32 (a : Int)).toNat = a := by
    rw [BitVec.toNat_ofInt]
    omega
  have e3 : (BitVec.ofInt 32 ((b * 2 ^ s : Nat) : Int)).toNat = b * 2 ^ s := by
    rw [BitVec.toNat_ofInt]
    generalize b * 2 ^ s = c at hy' ⊢
    omega
  rw [BitVec.toNat_or, e2, e3, Nat.or_comm, Nat.mul_comm b, ← Nat.two_pow_add_eq_or_of_lt hx']
  rw [Nat.mul_comm] at hy'
  generalize 2 ^ s * b = c at hy' ⊢
  rw [wrap_u32 (by omega) (by omega)]
  omega

theorem shl_eq {x : Int} (s : Nat) (hs : s ≤ 32) (h0 : 0 ≤ x) (h : x * 2 ^ s ≤ 4294967295) : shlI .u32 x s = x * 2 ^ s := by
  have e : min ((s : Int)).toNat (IntKind.bits .u32) = s := by simp [IntKind.bits]; omega
  unfold shlI
  rw [e]
  have : (0 : Int) ≤ x * 2 ^ s := Int.mul_nonneg h0 (by exact_mod_cast Nat.zero_le _)
  exact wrap_u32 this h

theorem word_bytes {b0 b1 b2 b3 : Int} (h0 : 0 ≤ b0 ∧ b0 ≤ 255) (h1 : 0 ≤ b1 ∧ b1 ≤ 255) (h2 : 0 ≤ b2 ∧ b2 ≤ 255) (h3 : 0 ≤ b3 ∧ b3 ≤ 255) :
    wordB (orI .u32 (orI .u32 (orI .u32 (IntKind.wrap .u32 b0) (shlI .u32 (IntKind.wrap .u32 b1) 8)) (shlI .u32 (IntKind.wrap .u32 b2) 16)) (shlI .u32 (IntKind.wrap .u32 b3) 24)) = [b0, b1, b2, b3] := by
  rw [wrap_u32 (n := b0) (by omega) (by omega), wrap_u32 (n := b1) (by omega) (by omega), wrap_u32 (n := b2) (by omega) (by omega), wrap_u32 (n := b3) (by omega) (by omega)]
  have s1 : shlI .u32 b1 8 = b1 * 2 ^ 8 := shl_eq 8 (by decide) h1.1 (by omega)
  have s2 : shlI .u32 b2 16 = b2 * 2 ^ 16 := shl_eq 16 (by decide) h2.1 (by omega)
  have s3 : shlI .u32 b3 24 = b3 * 2 ^ 24 := shl_eq 24 (by decide) h3.1 (by omega)
  rw [s1, s2, s3]
  rw [or_add 8 h0.1 (by omega) h1.1 (by omega)]
  rw [or_add 16 (by omega) (by omega) h2.1 (by omega)]
  rw [or_add 24 (by omega) (by omega) h3.1 (by omega)]
  have g8 : ∀ w : Int, shrI .u32 w 8 = w.fdiv 256 := fun w => by simp [shrI, IntKind.bits]
  have g16 : ∀ w : Int, shrI .u32 w 16 = w.fdiv 65536 := fun w => by simp [shrI, IntKind.bits]
  have g24 : ∀ w : Int, shrI .u32 w 24 = w.fdiv 16777216 := fun w => by simp [shrI, IntKind.bits]
  have f : ∀ (w d : Int), 0 ≤ d → w.fdiv d = w / d := fun w d hd => Int.fdiv_eq_ediv_of_nonneg w hd
  have w8 : ∀ w : Int, IntKind.wrap .u8 w = w % 256 := fun w => by simp [IntKind.wrap, IntKind.bits, IntKind.signed]
  simp only [wordB, g8, g16, g24, f _ 256 (by decide), f _ 65536 (by decide), f _ 16777216 (by decide), w8]
  have e0 : (b0 + b1 * 2 ^ 8 + b2 * 2 ^ 16 + b3 * 2 ^ 24) % 256 = b0 := by omega
  have e1 : (b0 + b1 * 2 ^ 8 + b2 * 2 ^ 16 + b3 * 2 ^ 24) / 256 % 256 = b1 := by omega
  have e2 : (b0 + b1 * 2 ^ 8 + b2 * 2 ^ 16 + b3 * 2 ^ 24) / 65536 % 256 = b2 := by omega
  have e3 : (b0 + b1 * 2 ^ 8 + b2 * 2 ^ 16 + b3 * 2 ^ 24) / 16777216 % 256 = b3 := by omega
  rw [e0, e1, e2, e3]

theorem fours {α : Type} (g : Nat → α) (n : Nat) : (List.range n).flatMap (fun i => [g (4 * i), g (4 * i + 1), g (4 * i + 2), g (4 * i + 3)]) = (List.range (4 * n)).map g := by
  induction n with
  | zero => rfl
  | succ n ih =>
    have e : List.range (4 * (n + 1)) = List.range (4 * n) ++ [4 * n, 4 * n + 1, 4 * n + 2, 4 * n + 3] := by
      rw [show 4 * (n + 1) = 4 * n + 1 + 1 + 1 + 1 by omega]
      simp only [List.range_succ, List.append_assoc, List.cons_append, List.nil_append]
    rw [List.range_succ, List.flatMap_append, ih, e, List.map_append]
    simp

theorem bytesOf_range (s : ByteArray) : bytesOf s = (List.range s.size).map fun i : Nat => bt s i := by
  refine List.ext_getElem (by rw [bytesOf, List.length_map, List.length_map, List.length_range, Array.length_toList]; rfl) fun i h1 h2 => ?_
  have h3 : i < s.data.size := by simpa [bytesOf] using h1
  simp only [bytesOf, List.getElem_map, Array.getElem_toList, List.getElem_range, bt, Int.toNat_natCast, Array.getD_eq_getD_getElem?, Array.getElem?_eq_getElem h3, Option.getD_some]

theorem strOf_bytesOf (s : ByteArray) : strOf (bytesOf s) = s := by
  apply ByteArray.ext
  simp only [strOf, bytesOf, List.map_map]
  apply Array.ext'
  simp only [List.toList_toArray]
  conv => rhs; rw [← List.map_id s.data.toList]
  refine List.map_congr_left fun b _ => ?_
  simp

theorem page_back {m : List Int} {k f : Nat} {s : ByteArray} (h : m.length = 32 * k) (hf : f < k) (hs : s.size = 128) : pageOf (setP m f s) f = s := by
  have e1 : ((setP m f s).drop (32 * f)).take 32 = (List.range 32).map (wordOf s) := by
    refine List.ext_getElem? fun j => ?_
    rw [List.getElem?_take]
    by_cases hj : j < 32
    · rw [if_pos hj, List.getElem?_drop]
      unfold setP
      rw [setN_get, if_pos (by omega)]
      have : 32 * f + j - 32 * f = j := by omega
      rw [this]
      simp [hj]
    · rw [if_neg hj]
      symm
      rw [List.getElem?_eq_none_iff]
      simp; omega
  unfold pageOf pageL
  rw [e1, List.flatMap_map]
  have e2 : ∀ i : Nat, wordB (wordOf s i) = [(fun j : Nat => bt s j) (4 * i), (fun j : Nat => bt s j) (4 * i + 1), (fun j : Nat => bt s j) (4 * i + 2), (fun j : Nat => bt s j) (4 * i + 3)] := by
    intro i
    unfold wordOf
    rw [word_bytes (bt_range _ _) (bt_range _ _) (bt_range _ _) (bt_range _ _)]
    simp
  have e3 : (List.range 32).flatMap (fun i => wordB (wordOf s i)) = (List.range (4 * 32)).map (fun j : Nat => bt s j) := by
    rw [← fours]
    congr 1
    funext i
    exact e2 i
  have e4 : (List.range (4 * 32)).map (fun j : Nat => bt s j) = bytesOf s := by rw [bytesOf_range, hs]
  rw [e3, e4, strOf_bytesOf]

end Go.Proofs.Yteiepkkkphkncaa.Fn
