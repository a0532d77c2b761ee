/- Bytes stored into the words of a page, one by one (chapter 1), in plain Lean. -/
import Derived.Test.YteiepkkkphkncaaPureMemBack
import Derived.Test.YteiepkkkphkncaaPureBits
set_option linter.unusedVariables false
set_option linter.unusedSimpArgs false
namespace Go.Proofs.Yteiepkkkphkncaa.Fn
open Go Lift

theorem bt_nat (s : ByteArray) (i : Int) : ∃ x : Nat, bt s i = (x : Int) ∧ x < 256 := ⟨_, rfl, by have := (s.data.getD i.toNat 0).toNat_lt; omega⟩

theorem byte_put {lo b hi x s : Nat} (hlo : lo < 2 ^ s) (hb : b < 256) (hx : x < 256) (hs : s ≤ 24) (hA : 2 ^ s * (256 * hi + b) + lo ≤ 4294967295) (hB : 2 ^ s * (256 * hi + x) + lo ≤ 4294967295) :
    orI .u32 (andNotI .u32 ((2 ^ s * (256 * hi + b) + lo : Nat) : Int) (shlI .u32 (255 : Int) (s : Int))) (shlI .u32 (andI .u32 (IntKind.wrap .u32 (x : Int)) (255 : Int)) (s : Int)) = ((2 ^ s * (256 * hi + x) + lo : Nat) : Int) := by
  have hp : 2 ^ s ≤ 2 ^ 24 := Nat.pow_le_pow_right (by decide) hs
  have hp' : 2 ^ s ≤ 16777216 := hp
  have hcast : ((2 ^ s : Nat) : Int) = (2 : Int) ^ s := by rw [Int.natCast_pow]; rfl
  have ha : andI .u32 (IntKind.wrap .u32 (x : Int)) (255 : Int) = (x : Int) := by
    rw [wrap_u32 (by omega) (by omega), show andI .u32 (x : Int) (255 : Int) = ((x &&& 255 : Nat) : Int) from and_nat (by omega) (by decide)]
    congr 1
    refine Nat.eq_of_testBit_eq fun j => ?_
    rw [Nat.testBit_and, show (255 : Nat).testBit j = decide (j < 8) from Nat.testBit_two_pow_sub_one 8 j]
    by_cases h2 : j < 8
    · rw [decide_eq_true h2, Bool.and_true]
    · rw [decide_eq_false h2, Bool.and_false]
      exact (Nat.testBit_lt_two_pow (Nat.lt_of_lt_of_le hx (show 256 ≤ 2 ^ j from Nat.le_trans (show 256 ≤ 2 ^ 8 by decide) (Nat.pow_le_pow_right (by decide) (by omega))))).symm
  have hm : shlI .u32 (255 : Int) (s : Int) = ((2 ^ s * 255 : Nat) : Int) := by
    have hle : 2 ^ s * 255 ≤ 4294967295 := by omega
    have e : (255 : Int) * 2 ^ s = ((2 ^ s * 255 : Nat) : Int) := by rw [← hcast]; omega
    rw [shl_eq s (by omega) (by decide) (by rw [e]; omega), e]
  have hy : shlI .u32 (x : Int) (s : Int) = ((2 ^ s * x : Nat) : Int) := by
    have hle : 2 ^ s * x ≤ 4294967295 := by
      have := Nat.mul_le_mul_left (2 ^ s) (show x ≤ 255 by omega)
      omega
    have e : (x : Int) * 2 ^ s = ((2 ^ s * x : Nat) : Int) := by rw [← hcast, Int.natCast_mul, Int.mul_comm]
    rw [shl_eq s (by omega) (by omega) (by rw [e]; omega), e]
  have hle : 2 ^ s * 255 ≤ 4294967295 := by omega
  have hle2 : 2 ^ s * x ≤ 4294967295 := by
    have := Nat.mul_le_mul_left (2 ^ s) (show x ≤ 255 by omega)
    omega
  obtain ⟨c, c1, c2, c3⟩ := andNot_nat hA hle
  rw [ha, hm, hy, c1, (or_nat c2 hle2).1]
  congr 1
  have tb : ∀ (y j : Nat), (2 ^ s * y + lo).testBit j = if j < s then lo.testBit j else y.testBit (j - s) := fun y j => Nat.testBit_two_pow_mul_add y hlo j
  have t0 : ∀ (y j : Nat), (2 ^ s * y).testBit j = if j < s then false else y.testBit (j - s) := fun y j => by
    have := Nat.testBit_two_pow_mul_add (i := s) y (Nat.two_pow_pos s) j
    rw [Nat.add_zero] at this
    rw [this, Nat.zero_testBit]
  have t8 : ∀ (z j : Nat), z < 256 → (256 * hi + z).testBit j = if j < 8 then z.testBit j else hi.testBit (j - 8) := fun z j hz => Nat.testBit_two_pow_mul_add (i := 8) hi hz j
  have t255 : ∀ j, (255 : Nat).testBit j = decide (j < 8) := fun j => Nat.testBit_two_pow_sub_one 8 j
  refine Nat.eq_of_testBit_eq fun j => ?_
  rw [Nat.testBit_or, c3, tb, tb, t0, t0]
  by_cases h1 : j < s
  · simp only [h1, if_true, Bool.not_false, Bool.and_true, Bool.or_false]
  · simp only [h1, if_false]
    rw [t8 _ _ hb, t8 _ _ hx, t255]
    by_cases h2 : j - s < 8
    · simp only [h2, if_true, decide_true, Bool.not_true, Bool.and_false, Bool.false_or]
    · have h3 : x.testBit (j - s) = false := Nat.testBit_lt_two_pow (Nat.lt_of_lt_of_le hx (show 256 ≤ 2 ^ (j - s) from Nat.le_trans (show 256 ≤ 2 ^ 8 by decide) (Nat.pow_le_pow_right (by decide) (by omega))))
      simp only [h2, if_false, decide_false, Bool.not_false, Bool.and_true, h3, Bool.or_false]

/-- The word of four bytes. -/
def wv (a b c d : Nat) : Nat := a + b * 256 + c * 65536 + d * 16777216

theorem wordOf_wv (s : ByteArray) (i : Nat) {a b c d : Nat} (ha : bt s (4 * (i : Int)) = a) (hb : bt s (4 * (i : Int) + 1) = b) (hc : bt s (4 * (i : Int) + 2) = c) (hd : bt s (4 * (i : Int) + 3) = d)
    (ha' : a < 256) (hb' : b < 256) (hc' : c < 256) (hd' : d < 256) : wordOf s i = ((wv a b c d : Nat) : Int) := by
  unfold wordOf wv
  rw [ha, hb, hc, hd, wrap_u32 (n := (a : Int)) (by omega) (by omega), wrap_u32 (n := (b : Int)) (by omega) (by omega), wrap_u32 (n := (c : Int)) (by omega) (by omega), wrap_u32 (n := (d : Int)) (by omega) (by omega)]
  have s1 : shlI .u32 (b : Int) 8 = (b : Int) * 2 ^ 8 := shl_eq 8 (by decide) (by omega) (by omega)
  have s2 : shlI .u32 (c : Int) 16 = (c : Int) * 2 ^ 16 := shl_eq 16 (by decide) (by omega) (by omega)
  have s3 : shlI .u32 (d : Int) 24 = (d : Int) * 2 ^ 24 := shl_eq 24 (by decide) (by omega) (by omega)
  rw [s1, s2, s3, or_add 8 (by omega) (by omega) (by omega) (by omega), or_add 16 (by omega) (by omega) (by omega) (by omega), or_add 24 (by omega) (by omega) (by omega) (by omega)]
  omega

/-- The words of a page's bytes. -/
def wF (B : Nat → Nat) (j : Nat) : Int := ((wv (B (4 * j)) (B (4 * j + 1)) (B (4 * j + 2)) (B (4 * j + 3)) : Nat) : Int)
def stF (m : List Int) (f : Nat) (B : Nat → Nat) : List Int := setN m (32 * f) (wF B) 32

theorem setN_ext (m : List Int) (b : Nat) {w w' : Nat → Int} {n : Nat} (h : ∀ i, i < n → w i = w' i) : setN m b w n = setN m b w' n := by
  induction n with
  | zero => rfl
  | succ n ih => rw [setN_succ, setN_succ, ih fun i hi => h i (by omega), h n (by omega)]

theorem stF_eq {m : List Int} {f : Nat} {B : Nat → Nat} {s : ByteArray} (h : ∀ k : Nat, k < 128 → bt s (k : Int) = (B k : Int)) : stF m f B = setP m f s := by
  unfold stF setP
  refine setN_ext m _ fun j hj => ?_
  have hb : ∀ k : Nat, k < 128 → B k < 256 := fun k hk => by
    obtain ⟨x, h1, h2⟩ := bt_nat s (k : Int)
    rw [h k hk] at h1
    omega
  unfold wF
  symm
  have e0 := h (4 * j) (by omega)
  have e1 := h (4 * j + 1) (by omega)
  have e2 := h (4 * j + 2) (by omega)
  have e3 := h (4 * j + 3) (by omega)
  have g0 : ((4 * j : Nat) : Int) = 4 * (j : Int) := by omega
  have g1 : ((4 * j + 1 : Nat) : Int) = 4 * (j : Int) + 1 := by omega
  have g2 : ((4 * j + 2 : Nat) : Int) = 4 * (j : Int) + 2 := by omega
  have g3 : ((4 * j + 3 : Nat) : Int) = 4 * (j : Int) + 3 := by omega
  rw [g0] at e0
  rw [g1] at e1
  rw [g2] at e2
  rw [g3] at e3
  exact wordOf_wv s j e0 e1 e2 e3 (hb _ (by omega)) (hb _ (by omega)) (hb _ (by omega)) (hb _ (by omega))

/-- One byte more. -/
theorem stF_step {m : List Int} {k f : Nat} (h : m.length = 32 * k) (hf : f < k) {B : Nat → Nat} (hB : ∀ i, B i < 256) {i x : Nat} (hi : i < 128) (hx : x < 256) :
    put (stF m f B) (((32 * f + i / 4 : Nat) : Int)) (orI .u32 (andNotI .u32 (nth (0 : Int) (stF m f B) (((32 * f + i / 4 : Nat) : Int))) (shlI .u32 (255 : Int) ((8 * (i % 4) : Nat) : Int))) (shlI .u32 (andI .u32 (IntKind.wrap .u32 (x : Int)) (255 : Int)) ((8 * (i % 4) : Nat) : Int)))
      = stF m f (fun j => if j = i then x else B j) := by
  have hget : nth (0 : Int) (stF m f B) (((32 * f + i / 4 : Nat) : Int)) = wF B (i / 4) := by
    unfold nth stF
    rw [Int.toNat_natCast, List.getD_eq_getElem?_getD, setN_get, if_pos (by omega)]
    rw [show 32 * f + i / 4 - 32 * f = i / 4 by omega]
    rfl
  have hword : orI .u32 (andNotI .u32 (wF B (i / 4)) (shlI .u32 (255 : Int) ((8 * (i % 4) : Nat) : Int))) (shlI .u32 (andI .u32 (IntKind.wrap .u32 (x : Int)) (255 : Int)) ((8 * (i % 4) : Nat) : Int)) = wF (fun j => if j = i then x else B j) (i / 4) := by
    have hm := Nat.mod_lt i (show 0 < 4 by decide)
    have b0 := hB (4 * (i / 4))
    have b1 := hB (4 * (i / 4) + 1)
    have b2 := hB (4 * (i / 4) + 2)
    have b3 := hB (4 * (i / 4) + 3)
    unfold wF
    dsimp only
    have hc : i % 4 = 0 ∨ i % 4 = 1 ∨ i % 4 = 2 ∨ i % 4 = 3 := by omega
    generalize B (4 * (i / 4)) = q0 at *
    generalize B (4 * (i / 4) + 1) = q1 at *
    generalize B (4 * (i / 4) + 2) = q2 at *
    generalize B (4 * (i / 4) + 3) = q3 at *
    rcases hc with hc | hc | hc | hc
    · rw [if_pos (by omega), if_neg (by omega), if_neg (by omega), if_neg (by omega), hc]
      have e : ∀ y, wv y q1 q2 q3 = 2 ^ 0 * (256 * (q1 + q2 * 256 + q3 * 65536) + y) + 0 := fun y => by unfold wv; omega
      rw [e, e]
      exact byte_put (s := 0) (by decide) b0 hx (by decide) (by omega) (by omega)
    · rw [if_neg (by omega), if_pos (by omega), if_neg (by omega), if_neg (by omega), hc]
      have e : ∀ y, wv q0 y q2 q3 = 2 ^ 8 * (256 * (q2 + q3 * 256) + y) + q0 := fun y => by unfold wv; omega
      rw [e, e]
      exact byte_put (s := 8) (by omega) b1 hx (by decide) (by omega) (by omega)
    · rw [if_neg (by omega), if_neg (by omega), if_pos (by omega), if_neg (by omega), hc]
      have e : ∀ y, wv q0 q1 y q3 = 2 ^ 16 * (256 * q3 + y) + (q0 + q1 * 256) := fun y => by unfold wv; omega
      rw [e, e]
      exact byte_put (s := 16) (by omega) b2 hx (by decide) (by omega) (by omega)
    · rw [if_neg (by omega), if_neg (by omega), if_neg (by omega), if_pos (by omega), hc]
      have e : ∀ y, wv q0 q1 q2 y = 2 ^ 24 * (256 * 0 + y) + (q0 + q1 * 256 + q2 * 65536) := fun y => by unfold wv; omega
      rw [e, e]
      exact byte_put (s := 24) (by omega) b3 hx (by decide) (by omega) (by omega)
  rw [hget, hword]
  refine List.ext_getElem? fun j => ?_
  unfold put stF
  rw [Int.toNat_natCast, List.getElem?_set, setN_get, setN_get, setN_len]
  by_cases hj : 32 * f + i / 4 = j
  · subst hj
    rw [if_pos rfl, if_pos (by omega), if_pos (by omega), show 32 * f + i / 4 - 32 * f = i / 4 by omega]
  · rw [if_neg hj]
    by_cases hr : 32 * f ≤ j ∧ j < 32 * f + 32 ∧ j < m.length
    · rw [if_pos hr, if_pos hr]
      unfold wF
      dsimp only
      rw [if_neg (by omega), if_neg (by omega), if_neg (by omega), if_neg (by omega)]
    · rw [if_neg hr, if_neg hr]

/-- A page's bytes. -/
theorem page_byte {m : List Int} {k f : Nat} (h : m.length = 32 * k) (hk : k ≤ 32) (hf : f < k) {j q : Nat} (hj : j < 32) (hq : q < 4) : bt (pageOf m f) ((4 * j + q : Nat) : Int) = ((m[32 * f + j]'(by omega)) / ((256 ^ q : Nat) : Int)) % 256 := by
  have hl := page_bounds h hk hf
  have hfl : pageL m f = (List.range (4 * 32)).map fun t : Nat => (wordB ((((m.drop (32 * f)).take 32))[t / 4]?.getD 0)).getD (t % 4) 0 := by
    rw [← fours]
    unfold pageL
    generalize (m.drop (32 * f)).take 32 = l at hl
    have : l = (List.range 32).map fun i : Nat => l[i]?.getD 0 := by
      refine List.ext_getElem? fun i => ?_
      rw [List.getElem?_map]
      by_cases hi : i < 32
      · rw [List.getElem?_range hi, Option.map_some, List.getElem?_eq_getElem (show i < l.length by omega)]; rfl
      · rw [List.getElem?_eq_none (by omega), List.getElem?_eq_none (by simp; omega)]; rfl
    conv => lhs; rw [this]
    rw [List.flatMap_map]
    congr 1
    funext i
    have a0 : 4 * i / 4 = i := by omega
    have a1 : (4 * i + 1) / 4 = i := by omega
    have a2 : (4 * i + 2) / 4 = i := by omega
    have a3 : (4 * i + 3) / 4 = i := by omega
    have c0 : 4 * i % 4 = 0 := by omega
    have c1 : (4 * i + 1) % 4 = 1 := by omega
    have c2 : (4 * i + 2) % 4 = 2 := by omega
    have c3 : (4 * i + 3) % 4 = 3 := by omega
    rw [a0, a1, a2, a3, c0, c1, c2, c3]
    rfl
  have hget : (pageL m f)[4 * j + q]? = some ((wordB (m[32 * f + j]'(by omega))).getD q 0) := by
    rw [hfl, List.getElem?_map, List.getElem?_range (by omega), Option.map_some, show (4 * j + q) / 4 = j by omega, show (4 * j + q) % 4 = q by omega, List.getElem?_take, if_pos hj, List.getElem?_drop, List.getElem?_eq_getElem (by omega)]
    rfl
  have hbt : bt (pageOf m f) ((4 * j + q : Nat) : Int) = (wordB (m[32 * f + j]'(by omega))).getD q 0 := by
    have hlen : 4 * j + q < (pageL m f).length := by rw [pageL_len h hk hf]; omega
    have h2 : bytesOf (pageOf m f) = pageL m f := bytesOf_strOf fun x hx => by
      unfold pageL at hx
      obtain ⟨w, _, hw⟩ := List.mem_flatMap.1 hx
      exact wordB_range w x hw
    have h3 : (bytesOf (pageOf m f))[4 * j + q]? = some (bt (pageOf m f) ((4 * j + q : Nat) : Int)) := by
      rw [bytesOf_range, List.getElem?_map, List.getElem?_range (by rw [pageOf_size h hk hf]; omega)]
      rfl
    rw [h2, hget] at h3
    exact (Option.some.inj h3).symm
  rw [hbt]
  generalize m[32 * f + j]'(by omega) = w
  have g8 : shrI .u32 w 8 = w.fdiv 256 := by simp [shrI, IntKind.bits]
  have g16 : shrI .u32 w 16 = w.fdiv 65536 := by simp [shrI, IntKind.bits]
  have g24 : shrI .u32 w 24 = w.fdiv 16777216 := by simp [shrI, IntKind.bits]
  have fd : ∀ (w d : Int), 0 ≤ d → w.fdiv d = w / d := fun w d hd => Int.fdiv_eq_ediv_of_nonneg w hd
  have w8 : ∀ w : Int, IntKind.wrap .u8 w = w % 256 := fun w => by simp [IntKind.wrap, IntKind.bits, IntKind.signed]
  simp only [wordB, g8, g16, g24, fd _ 256 (by decide), fd _ 65536 (by decide), fd _ 16777216 (by decide), w8]
  have hc : q = 0 ∨ q = 1 ∨ q = 2 ∨ q = 3 := by omega
  rcases hc with rfl | rfl | rfl | rfl
  · show w % 256 = w / 1 % 256
    rw [Int.ediv_one]
  · rfl
  · rfl
  · rfl

/-- The page's own bytes are the page. -/
theorem stF_self {m : List Int} {k f : Nat} (h : m.length = 32 * k) (hk : k ≤ 32) (hf : f < k) (hu : U32 m) : stF m f (fun i => (bt (pageOf m f) (i : Int)).toNat) = m := by
  refine List.ext_getElem? fun j => ?_
  unfold stF
  rw [setN_get]
  by_cases hr : 32 * f ≤ j ∧ j < 32 * f + 32 ∧ j < m.length
  · rw [if_pos hr]
    obtain ⟨t, rfl⟩ : ∃ t, j = 32 * f + t := ⟨j - 32 * f, by omega⟩
    rw [show 32 * f + t - 32 * f = t by omega]
    have ht : t < 32 := by omega
    have e0 := page_byte h hk hf (q := 0) ht (by decide)
    have e1 := page_byte h hk hf (q := 1) ht (by decide)
    have e2 := page_byte h hk hf (q := 2) ht (by decide)
    have e3 := page_byte h hk hf (q := 3) ht (by decide)
    rw [List.getElem?_eq_getElem (by omega)]
    have hw := hu _ (List.getElem_mem (show 32 * f + t < m.length by omega))
    generalize m[32 * f + t]'(by omega) = w at *
    congr 1
    unfold wF wv
    dsimp only
    simp only [Nat.add_zero] at e0
    rw [e0, e1, e2, e3]
    have p0 : ((256 ^ 0 : Nat) : Int) = 1 := rfl
    have p1 : ((256 ^ 1 : Nat) : Int) = 256 := rfl
    have p2 : ((256 ^ 2 : Nat) : Int) = 65536 := rfl
    have p3 : ((256 ^ 3 : Nat) : Int) = 16777216 := rfl
    rw [p0, p1, p2, p3]
    omega
  · rw [if_neg hr]

/-- The page with its first bytes replaced. -/
def mixF (p s : ByteArray) (i : Nat) : Nat → Nat := fun j => if j < i then (bt s (j : Int)).toNat else (bt p (j : Int)).toNat

theorem fill_loop {m : List Int} {k f : Nat} (h : m.length = 32 * k) (hk : k ≤ 32) (hf : f < k) (hu : U32 m) (s : ByteArray) (hs : s.size ≤ 128) {Z : Type} :
    loop (Y := (Unit × List Int) ⊕ Z) (fun (x1 : Int × List Int) =>
            bif decide (x1.1 < (s.size : Int)) then
              bif decide (x1.1 < 128) then
                let v2 := IntKind.wrap .u32 (IntKind.wrap .i64 ((IntKind.wrap .i64 ((IntKind.wrap .i64 (f : Int)) * 128)) + x1.1))
                if 0 ≤ x1.1 ∧ x1.1 < (s.size : Int) then
                  let v3 := IntKind.wrap .u32 (8 * (Int.tmod v2 (4 : Int)))
                  let v4 := IntKind.wrap .u32 (Int.tdiv v2 (4 : Int))
                  let v5 := IntKind.wrap .u32 (Int.tdiv v2 (4 : Int))
                  if 0 ≤ v5 ∧ v5 < (x1.2.length : Int) then
                    if 0 ≤ v3 then
                      if 0 ≤ v3 then
                        if 0 ≤ v4 ∧ v4 < (x1.2.length : Int) then
                          some (.inl (IntKind.wrap .i64 (x1.1 + 1), (put x1.2 v4 (orI .u32 (andNotI .u32 (nth (0 : Int) x1.2 v5) (shlI .u32 (255 : Int) v3)) (shlI .u32 (andI .u32 (IntKind.wrap .u32 (bt s x1.1)) (255 : Int)) v3)))))
                        else none
                      else none
                    else none
                  else none
                else none
              else
                some (.inr (.inl ((), x1.2)))
            else
              some (.inr (.inl ((), x1.2)))) ((0 : Int), m) = some (.inl ((), stF m f (mixF (pageOf m f) s s.size))) := by
  have hb : ∀ i j, mixF (pageOf m f) s i j < 256 := fun i j => by
    unfold mixF
    split
    · obtain ⟨x, h1, h2⟩ := bt_nat s (j : Int); rw [h1]; omega
    · obtain ⟨x, h1, h2⟩ := bt_nat (pageOf m f) (j : Int); rw [h1]; omega
  have h0 : (fun i : Nat => ((i : Int), stF m f (mixF (pageOf m f) s i))) 0 = ((0 : Int), m) := by
    have e : mixF (pageOf m f) s 0 = fun i : Nat => (bt (pageOf m f) (i : Int)).toNat := by funext j; simp [mixF]
    show (((0 : Nat) : Int), stF m f (mixF (pageOf m f) s 0)) = _
    rw [e, stF_self h hk hf hu]
    rfl
  rw [← h0]
  refine loop_at (fun i : Nat => ((i : Int), stF m f (mixF (pageOf m f) s i))) s.size (Sum.inl ((), stF m f (mixF (pageOf m f) s s.size))) (fun i hi => ?_) ?_
  · have c1 : (i : Int) < (s.size : Int) := by omega
    have c2 : (i : Int) < 128 := by omega
    have w0 : IntKind.wrap .i64 (f : Int) = (f : Int) := wrap_i64 (by omega) (by omega)
    have w1 : IntKind.wrap .i64 ((f : Int) * 128) = (f : Int) * 128 := wrap_i64 (by omega) (by omega)
    have w2 : IntKind.wrap .i64 ((f : Int) * 128 + (i : Int)) = (f : Int) * 128 + (i : Int) := wrap_i64 (by omega) (by omega)
    have w3 : IntKind.wrap .u32 ((f : Int) * 128 + (i : Int)) = ((f * 128 + i : Nat) : Int) := by rw [wrap_u32 (by omega) (by omega)]; omega
    have t1 : Int.tmod ((f * 128 + i : Nat) : Int) 4 = ((i % 4 : Nat) : Int) := by rw [Int.tmod_eq_emod_of_nonneg (by omega)]; omega
    have t2 : Int.tdiv ((f * 128 + i : Nat) : Int) 4 = ((32 * f + i / 4 : Nat) : Int) := by rw [Int.tdiv_eq_ediv_of_nonneg (by omega)]; omega
    have w4 : IntKind.wrap .u32 (8 * ((i % 4 : Nat) : Int)) = ((8 * (i % 4) : Nat) : Int) := by rw [wrap_u32 (by omega) (by omega)]; omega
    have w5 : IntKind.wrap .u32 ((32 * f + i / 4 : Nat) : Int) = ((32 * f + i / 4 : Nat) : Int) := wrap_u32 (by omega) (by omega)
    have w6 : IntKind.wrap .i64 ((i : Int) + 1) = ((i + 1 : Nat) : Int) := by rw [wrap_i64 (by omega) (by omega)]; omega
    have hlen : (stF m f (mixF (pageOf m f) s i)).length = m.length := setN_len _ _ _ _
    obtain ⟨x, hx1, hx2⟩ := bt_nat s (i : Int)
    have hstep := stF_step h hf (B := mixF (pageOf m f) s i) (hb i) (i := i) (x := x) (by omega) hx2
    have hmix : (fun j => if j = i then x else mixF (pageOf m f) s i j) = mixF (pageOf m f) s (i + 1) := by
      funext j
      unfold mixF
      by_cases hj : j = i
      · subst hj; rw [if_pos rfl, if_pos (by omega), hx1]; rfl
      · rw [if_neg hj]
        by_cases hj2 : j < i
        · rw [if_pos hj2, if_pos (by omega)]
        · rw [if_neg hj2, if_neg (by omega)]
    rw [hmix] at hstep
    generalize stF m f (mixF (pageOf m f) s i) = z at hstep hlen ⊢
    generalize stF m f (mixF (pageOf m f) s (i + 1)) = z' at hstep ⊢
    dsimp only
    rw [decide_eq_true c1, cond_true, decide_eq_true c2, cond_true, if_pos (by omega), w0, w1, w2, w3, t1, t2, w4, w5, hlen, if_pos (by omega), if_pos (by omega), if_pos (by omega), if_pos (by omega), w6, hx1, hstep]
  · have c1 : ¬ ((s.size : Int) < (s.size : Int)) := by omega
    generalize stF m f (mixF (pageOf m f) s s.size) = z
    simp only [c1, decide_false, cond_false]

theorem bt_append (a b : ByteArray) (i : Nat) : bt (a ++ b) (i : Int) = if i < a.size then bt a (i : Int) else bt b ((i - a.size : Nat) : Int) := by
  unfold bt
  rw [Int.toNat_natCast, Int.toNat_natCast, Array.getD_eq_getD_getElem?, ByteArray.data_append, Array.getElem?_append]
  by_cases h : i < a.size
  · rw [if_pos h, if_pos (show i < a.data.size from h), Array.getD_eq_getD_getElem?]
  · rw [if_neg h, if_neg (show ¬ i < a.data.size from h), Array.getD_eq_getD_getElem?]
    rfl

theorem bt_cut (p : ByteArray) {n t i : Nat} (hi : i < t - n) (ht : t ≤ p.size) : bt (cut p (n : Int) (t : Int)) (i : Int) = bt p ((n + i : Nat) : Int) := by
  unfold bt cut
  rw [Int.toNat_natCast, Int.toNat_natCast, Int.toNat_natCast, Int.toNat_natCast, Array.getD_eq_getD_getElem?, ByteArray.data_extract, Array.getElem?_extract, if_pos (by have : p.size = p.data.size := rfl; omega), Array.getD_eq_getD_getElem?]

theorem fill_page {m : List Int} {k f : Nat} (h : m.length = 32 * k) (hk : k ≤ 32) (hf : f < k) (s : ByteArray) (hs : s.size ≤ 128) : stF m f (mixF (pageOf m f) s s.size) = setP m f (s ++ cut (pageOf m f) s.size 128) := by
  refine stF_eq fun j hj => ?_
  rw [bt_append]
  unfold mixF
  by_cases hj2 : j < s.size
  · rw [if_pos hj2, if_pos hj2]
    obtain ⟨x, h1, _⟩ := bt_nat s (j : Int); rw [h1]; rfl
  · rw [if_neg hj2, if_neg hj2]
    have := bt_cut (pageOf m f) (n := s.size) (t := 128) (i := j - s.size) (by omega) (by rw [pageOf_size h hk hf]; exact Nat.le_refl _)
    rw [show s.size + (j - s.size) = j by omega] at this
    have e : cut (pageOf m f) (s.size : Int) 128 = cut (pageOf m f) (s.size : Int) ((128 : Nat) : Int) := rfl
    rw [e, this]
    obtain ⟨x, h1, _⟩ := bt_nat (pageOf m f) (j : Int); rw [h1]; rfl

theorem fill_whole {m : List Int} {f : Nat} (p s : ByteArray) (hs : s.size = 128) : stF m f (mixF p s s.size) = setP m f s := by
  refine stF_eq fun j hj => ?_
  unfold mixF
  rw [if_pos (by omega)]
  obtain ⟨x, h1, _⟩ := bt_nat s (j : Int); rw [h1]; rfl

end Go.Proofs.Yteiepkkkphkncaa.Fn
