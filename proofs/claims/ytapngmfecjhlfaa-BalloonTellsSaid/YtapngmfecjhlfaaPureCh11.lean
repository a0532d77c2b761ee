/- The balloon's functions (chapter 11), in plain Lean: what each computes. -/
import Derived.Test.YtapngmfecjhlfaaPureMemBack
import Derived.Test.YtapngmfecjhlfaaPureBits
set_option linter.unusedVariables false
set_option linter.unusedSimpArgs false
set_option maxRecDepth 100000
namespace Go.Proofs.Ytapngmfecjhlfaa.Fn
open Go Lift

def tabB : ByteArray := (⟨#[0, 1, 1, 2, 1, 2, 2, 3, 1, 2, 2, 3, 2, 3, 3, 4, 1, 2, 2, 3, 2, 3, 3, 4, 2, 3, 3, 4, 3, 4, 4, 5, 1, 2, 2, 3, 2, 3, 3, 4, 2, 3, 3, 4, 3, 4, 4, 5, 2, 3, 3, 4, 3, 4, 4, 5, 3, 4, 4, 5, 4, 5, 5, 6, 1, 2, 2, 3, 2, 3, 3, 4, 2, 3, 3, 4, 3, 4, 4, 5, 2, 3, 3, 4, 3, 4, 4, 5, 3, 4, 4, 5, 4, 5, 5, 6, 2, 3, 3, 4, 3, 4, 4, 5, 3, 4, 4, 5, 4, 5, 5, 6, 3, 4, 4, 5, 4, 5, 5, 6, 4, 5, 5, 6, 5, 6, 6, 7, 1, 2, 2, 3, 2, 3, 3, 4, 2, 3, 3, 4, 3, 4, 4, 5, 2, 3, 3, 4, 3, 4, 4, 5, 3, 4, 4, 5, 4, 5, 5, 6, 2, 3, 3, 4, 3, 4, 4, 5, 3, 4, 4, 5, 4, 5, 5, 6, 3, 4, 4, 5, 4, 5, 5, 6, 4, 5, 5, 6, 5, 6, 6, 7, 2, 3, 3, 4, 3, 4, 4, 5, 3, 4, 4, 5, 4, 5, 5, 6, 3, 4, 4, 5, 4, 5, 5, 6, 4, 5, 5, 6, 5, 6, 6, 7, 3, 4, 4, 5, 4, 5, 5, 6, 4, 5, 5, 6, 5, 6, 6, 7, 4, 5, 5, 6, 5, 6, 6, 7, 5, 6, 6, 7, 6, 7, 7, 8]⟩ : ByteArray)

theorem tab_all : ((List.range 256).all fun b => decide (bt tabB (b : Int) = ((popB b 8 : Nat) : Int))) = true := by kernel_rfl

theorem tab_eq {b : Nat} (h : b < 256) : bt tabB (b : Int) = ((popB b 8 : Nat) : Int) := by
  have := List.all_eq_true.1 tab_all b (List.mem_range.2 h)
  exact of_decide_eq_true this

theorem tab_size : (tabB.size : Int) = 256 := by kernel_rfl

theorem and_255 (a : Nat) : a &&& 255 < 256 ∧ ∀ i, i < 8 → (a &&& 255).testBit i = a.testBit i := by
  refine ⟨by have := Nat.and_le_right (n := a) (m := 255); omega, fun i hi => ?_⟩
  rw [Nat.testBit_and]
  have : (255 : Nat).testBit i = true := by
    have h : ∀ j : Fin 8, (255 : Nat).testBit j.val = true := by decide
    exact h ⟨i, hi⟩
  rw [this, Bool.and_true]

theorem ones_eq {a : Nat} (ha : a ≤ 4294967295) : math_bits_OnesCount32.f (a : Int) = some ((popB a 32 : Nat) : Int) := by
  have h24 : a >>> 24 < 256 := by rw [Nat.shiftRight_eq_div_pow]; omega
  have h16 : a >>> 16 ≤ 4294967295 := by rw [Nat.shiftRight_eq_div_pow]; omega
  have h8 : a >>> 8 ≤ 4294967295 := by rw [Nat.shiftRight_eq_div_pow]; omega
  have s24 : shrI .u32 (a : Int) 24 = ((a >>> 24 : Nat) : Int) := shr_nat (i := 24) (by decide)
  have s16 : andI .u32 (shrI .u32 (a : Int) 16) 255 = (((a >>> 16) &&& 255 : Nat) : Int) := by
    rw [show shrI .u32 (a : Int) 16 = ((a >>> 16 : Nat) : Int) from shr_nat (i := 16) (by decide)]
    exact and_nat h16 (by decide)
  have s8 : andI .u32 (shrI .u32 (a : Int) 8) 255 = (((a >>> 8) &&& 255 : Nat) : Int) := by
    rw [show shrI .u32 (a : Int) 8 = ((a >>> 8 : Nat) : Int) from shr_nat (i := 8) (by decide)]
    exact and_nat h8 (by decide)
  have s0 : andI .u32 (a : Int) 255 = ((a &&& 255 : Nat) : Int) := and_nat ha (by decide)
  have m16 := and_255 (a >>> 16)
  have m8 := and_255 (a >>> 8)
  have m0 := and_255 a
  have key : math_bits_OnesCount32.f (a : Int) = (if 0 ≤ ((a >>> 24 : Nat) : Int) ∧ ((a >>> 24 : Nat) : Int) < (tabB.size : Int) then
      if 0 ≤ (((a >>> 16) &&& 255 : Nat) : Int) ∧ (((a >>> 16) &&& 255 : Nat) : Int) < (tabB.size : Int) then
        if 0 ≤ (((a >>> 8) &&& 255 : Nat) : Int) ∧ (((a >>> 8) &&& 255 : Nat) : Int) < (tabB.size : Int) then
          if 0 ≤ ((a &&& 255 : Nat) : Int) ∧ ((a &&& 255 : Nat) : Int) < (tabB.size : Int) then
            some (IntKind.wrap .i64 (IntKind.wrap .u8 ((IntKind.wrap .u8 ((IntKind.wrap .u8 ((bt tabB ((a >>> 24 : Nat) : Int)) + (bt tabB (((a >>> 16) &&& 255 : Nat) : Int)))) + (bt tabB (((a >>> 8) &&& 255 : Nat) : Int)))) + (bt tabB ((a &&& 255 : Nat) : Int)))))
          else none else none else none else none) := by
    unfold math_bits_OnesCount32.f
    rw [s24, s16, s8, s0]
    rfl
  rw [key, tab_size, if_pos (by omega), if_pos (by omega), if_pos (by omega), if_pos (by omega), tab_eq h24, tab_eq m16.1, tab_eq m8.1, tab_eq m0.1]
  rw [popB_congr m16.2, popB_congr m8.2, popB_congr m0.2]
  have e : popB a 32 = popB a 8 + (popB (a >>> 8) 8 + (popB (a >>> 16) 8 + popB (a >>> 24) 8)) := by
    rw [show (32 : Nat) = 8 + 24 from rfl, popB_add, show (24 : Nat) = 8 + 16 from rfl, popB_add (a >>> 8), show (16 : Nat) = 8 + 8 from rfl, popB_add (a >>> 8 >>> 8), ← Nat.shiftRight_add, ← Nat.shiftRight_add]
  rw [e]
  have p1 := popB_le a 8
  have p2 := popB_le (a >>> 8) 8
  have p3 := popB_le (a >>> 16) 8
  have p4 := popB_le (a >>> 24) 8
  generalize popB a 8 = x1 at *
  generalize popB (a >>> 8) 8 = x2 at *
  generalize popB (a >>> 16) 8 = x3 at *
  generalize popB (a >>> 24) 8 = x4 at *
  rw [wrap_u8 (n := (x4 : Int) + (x3 : Int)) (by omega) (by omega), wrap_u8 (n := (x4 : Int) + (x3 : Int) + (x2 : Int)) (by omega) (by omega), wrap_u8 (n := (x4 : Int) + (x3 : Int) + (x2 : Int) + (x1 : Int)) (by omega) (by omega), wrap_i64 (by omega) (by omega)]
  congr 1
  omega

theorem count_eq {t : Int} {a : Nat} (ha : a ≤ 4294967295) : balloon_Count.f (t, (a : Int)) = some ((popB a 32 : Nat) : Int) := by
  unfold balloon_Count.f
  dsimp only
  rw [ones_eq ha]
  rfl

theorem loop_from {X Z : Type} {step : X → Option (X ⊕ Z)} (x0 : X) (enc : Nat → X) (n : Nat) (z : Z) (h0 : enc 0 = x0) (h1 : ∀ i, i < n → step (enc i) = some (.inl (enc (i + 1)))) (h2 : step (enc n) = some (.inr z)) : loop step x0 = some z := by
  rw [← h0]; exact loop_at enc n z h1 h2

theorem bind_of {α β : Type} {o : Option α} {a : α} {K : α → Option β} {r : Option β} (h : o = some a) (hk : K a = r) : o.bind K = r := by rw [h]; exact hk

/-! ### Words, pages, changes -/
theorem words11_ok (n p : Int) : ∃ m k, vmfleetlaw11_words.f n p = some m ∧ 1 ≤ k ∧ k ≤ 8 ∧ m.length = 32 * k ∧ U32 m := by
  unfold vmfleetlaw11_words.f
  obtain ⟨r, er, h1, h2⟩ := round_ok p 8 (by decide) (by decide)
  obtain ⟨q, rfl⟩ := Int.eq_ofNat_of_zero_le h1
  have e1 : IntKind.wrap .i64 (1 + (q : Int)) = ((q + 1 : Nat) : Int) := by rw [wrap_i64 (by omega) (by omega)]; omega
  rw [er]
  simp only [Option.bind_some, e1]
  rw [new_eq (q + 1) (by omega) (by omega)]
  simp only [Option.bind_some]
  obtain ⟨m, hm, hl, hu⟩ := fill_ok n (List.replicate (32 * (q + 1)) 0) (zeros_u32 _) (by simp; omega)
  rw [hm]
  exact ⟨m, q + 1, rfl, by omega, by omega, by rw [hl]; simp, hu⟩

/-- The word without a bit. -/
def clrB (a v : Nat) : Nat := (BitVec.ofInt 32 (a : Int) &&& ~~~ BitVec.ofInt 32 ((2 ^ v : Nat) : Int)).toNat

theorem clrB_eq {a v : Nat} (ha : a ≤ 4294967295) (hv : v < 32) : andNotI .u32 (a : Int) (shlI .u32 (1 : Int) (v : Int)) = (clrB a v : Int) ∧ clrB a v ≤ 4294967295 ∧ ∀ i, (clrB a v).testBit i = (a.testBit i && !decide (v = i)) := by
  obtain ⟨h1, h2⟩ := shl_one hv
  obtain ⟨c, c1, c2, c3⟩ := andNot_nat ha h2
  have e : c = clrB a v := by
    have h3 : andNotI .u32 (a : Int) ((2 ^ v : Nat) : Int) = (clrB a v : Int) := by
      show IntKind.wrap .u32 ((BitVec.ofInt 32 (a : Int) &&& ~~~ BitVec.ofInt 32 ((2 ^ v : Nat) : Int)).toNat : Int) = _
      have := (BitVec.ofInt 32 (a : Int) &&& ~~~ BitVec.ofInt 32 ((2 ^ v : Nat) : Int)).isLt
      exact wrap_u32 (Int.natCast_nonneg _) (by omega)
    rw [h3] at c1
    exact (Int.ofNat_inj.1 c1).symm
  subst e
  refine ⟨by rw [h1]; exact c1, c2, fun i => ?_⟩
  rw [c3, Nat.testBit_two_pow]

def zeroPage : ByteArray := strOf (List.replicate 128 (0 : Int))
theorem zeroPage_size : zeroPage.size = 128 := by unfold zeroPage; rw [strOf_size, List.length_replicate]

abbrev Bal := Int × Int

def balOut (t : Int) (g : Nat) (m : List Int) (k : Nat) (port : Int) (v : Nat) : Bal × List Int :=
  if 32 ≤ v then ((t, (g : Int)), m)
  else if port = 10 then (if v < k ∧ g.testBit v = false then ((t, ((g ||| 2 ^ v : Nat) : Int)), setP m v zeroPage) else ((t, (g : Int)), m))
  else if port = 11 then ((t, (clrB g v : Int)), m)
  else ((t, (g : Int)), m)

theorem balOut_eq {m : List Int} {k : Nat} (h : m.length = 32 * k) (hk : k ≤ 32) (t : Int) {g : Nat} (hg : g ≤ 4294967295) (port : Int) {v : Nat} (hv : v ≤ 4294967295) : balloon_Out.f (t, (g : Int)) m port (v : Int) = some (balOut t g m k port v) := by
  unfold balloon_Out.f balOut
  rw [clone32_eq m (by omega), Option.bind_some]
  by_cases c0 : 32 ≤ v
  · have : (v : Int) ≥ 32 := by omega
    rw [decide_eq_true this, if_pos c0]; rfl
  have c0' : ¬ (v : Int) ≥ 32 := by omega
  rw [decide_eq_false c0', cond_false, if_neg c0, if_pos (by omega), wrap_i64 (by omega) (by omega)]
  obtain ⟨h1, h2⟩ := shl_one (v := v) (by omega)
  by_cases c1 : port = 10
  · rw [decide_eq_true c1, cond_true, if_pos c1, show strOf (List.replicate 128 (0 : Int)) = zeroPage from rfl, setPage_eq h hk, Option.bind_some, h1]
    dsimp only
    rw [and_nat hg h2, (or_nat hg h2).1]
    generalize setP m v zeroPage = z
    by_cases c2 : v < k
    · rw [if_pos ⟨c2, zeroPage_size⟩]
      cases c3 : g.testBit v with
      | false =>
        have e : g &&& 2 ^ v = 0 := (and_pow g v).2 c3
        rw [e, if_pos ⟨c2, rfl⟩]
        rfl
      | true =>
        have e : ¬ ((g &&& 2 ^ v : Nat) : Int) = 0 := by
          intro hh
          have := (and_pow g v).1 (by omega)
          rw [c3] at this; cases this
        rw [decide_eq_false e, if_neg (fun hh => by cases hh.2)]
        rfl
    · rw [if_neg (fun hh => c2 hh.1), if_neg (fun hh => c2 hh.1)]
      rfl
  rw [decide_eq_false c1, cond_false, if_neg c1]
  by_cases c2 : port = 11
  · rw [decide_eq_true c2, cond_true, if_pos c2]
    dsimp only
    rw [(clrB_eq hg (by omega)).1]
  · rw [decide_eq_false c2, cond_false, if_neg c2]

theorem sameWords_self (a : List Int) (hl : a.length ≤ 1000000) : vmfleetref1_SameWords.f a a = some true := by
  unfold vmfleetref1_SameWords.f
  simp only [decide_true, Bool.not_true, cond_false]
  rw [loop_all a (fun _ => true) (.inr false) (.inl ()) ?h1 ?h2]
  · simp
  case h1 =>
    intro i x hx
    have hi := idx_lt hx
    have hb : 0 ≤ (i : Int) ∧ (i : Int) < a.length := ⟨by omega, hi⟩
    simp only [hi, decide_true, cond_true, hb, and_self, if_true, Bool.not_true, cond_false]
    rw [wrap_i64 (n := (i : Int) + 1) (by omega) (by omega)]
  case h2 => simp

theorem sameWords_some (a b : List Int) (hl : a.length = b.length) (h : a.length ≤ 1000000) : ∃ r, vmfleetref1_SameWords.f a b = some r := by
  unfold vmfleetref1_SameWords.f
  have e : (a.length : Int) = (b.length : Int) := by omega
  rw [decide_eq_true e, Bool.not_true, cond_false]
  have key := loop_ind (I := fun x : Int => 0 ≤ x ∧ x ≤ a.length) (Q := fun _ : (Unit) ⊕ (Bool) => True) (fun x => ((a.length : Int) - x).toNat) (x := (0 : Int)) ⟨Int.le_refl 0, by omega⟩ (step := (fun (x1 : Int) =>
      bif decide (x1 < (a.length : Int)) then
        if 0 ≤ x1 ∧ x1 < (a.length : Int) then
          if 0 ≤ x1 ∧ x1 < (b.length : Int) then
            bif !decide ((nth (0 : Int) a x1) = (nth (0 : Int) b x1)) then
              some (.inr (.inr false))
            else
              some (.inl (IntKind.wrap .i64 (x1 + 1)))
          else none
        else none
      else
        some (.inr (.inl ())))) ?h
  · obtain ⟨y, h1, _⟩ := key
    cases y with
    | inl u => exact ⟨true, bind_of h1 rfl⟩
    | inr r => exact ⟨r, bind_of h1 rfl⟩
  case h =>
    rintro x ⟨i1, i2⟩
    by_cases hi : x < (a.length : Int)
    · have b1 : 0 ≤ x ∧ x < (a.length : Int) := ⟨i1, hi⟩
      have b2 : 0 ≤ x ∧ x < (b.length : Int) := by omega
      rw [decide_eq_true hi, cond_true, if_pos b1, if_pos b2, wrap_i64 (by omega) (by omega)]
      cases decide (nth (0 : Int) a x = nth (0 : Int) b x) with
      | false => right; exact ⟨_, rfl, trivial⟩
      | true => left; exact ⟨_, rfl, ⟨by omega, by omega⟩, by omega⟩
    · right
      rw [decide_eq_false hi]
      exact ⟨_, rfl, trivial⟩

end Go.Proofs.Ytapngmfecjhlfaa.Fn
