/- Words as numbers and bits, in plain Lean. -/
import Derived.Test.YteiepkkkphkncaaLPure
set_option linter.unusedVariables false
set_option linter.unusedSimpArgs false
namespace Go.Proofs.Yteiepkkkphkncaa.Fn
open Go Lift

theorem ofInt32 {a : Nat} (h : a ≤ 4294967295) : (BitVec.ofInt 32 (a : Int)).toNat = a := by
  rw [BitVec.toNat_ofInt]; omega

theorem and_nat {a b : Nat} (ha : a ≤ 4294967295) (hb : b ≤ 4294967295) : andI .u32 (a : Int) (b : Int) = ((a &&& b : Nat) : Int) := by
  show IntKind.wrap .u32 ((BitVec.ofInt 32 (a : Int) &&& BitVec.ofInt 32 (b : Int)).toNat : Int) = _
  rw [BitVec.toNat_and, ofInt32 ha, ofInt32 hb]
  have := Nat.and_le_left (n := a) (m := b)
  exact wrap_u32 (by omega) (by omega)

theorem or_nat {a b : Nat} (ha : a ≤ 4294967295) (hb : b ≤ 4294967295) : orI .u32 (a : Int) (b : Int) = ((a ||| b : Nat) : Int) ∧ a ||| b ≤ 4294967295 := by
  have h : a ||| b < 2 ^ 32 := Nat.or_lt_two_pow (by omega) (by omega)
  refine ⟨?_, by omega⟩
  show IntKind.wrap .u32 ((BitVec.ofInt 32 (a : Int) ||| BitVec.ofInt 32 (b : Int)).toNat : Int) = _
  rw [BitVec.toNat_or, ofInt32 ha, ofInt32 hb]
  exact wrap_u32 (by omega) (by omega)

theorem andNot_nat {a b : Nat} (ha : a ≤ 4294967295) (hb : b ≤ 4294967295) : ∃ c : Nat, andNotI .u32 (a : Int) (b : Int) = (c : Int) ∧ c ≤ 4294967295 ∧ ∀ i, c.testBit i = (a.testBit i && !b.testBit i) := by
  have e : ∀ n : Nat, BitVec.ofInt 32 (n : Int) = BitVec.ofNat 32 n := fun n => BitVec.ofInt_natCast 32 n
  refine ⟨(BitVec.ofInt 32 (a : Int) &&& ~~~ BitVec.ofInt 32 (b : Int)).toNat, ?_, ?_, fun i => ?_⟩
  · show IntKind.wrap .u32 ((BitVec.ofInt 32 (a : Int) &&& ~~~ BitVec.ofInt 32 (b : Int)).toNat : Int) = _
    have := (BitVec.ofInt 32 (a : Int) &&& ~~~ BitVec.ofInt 32 (b : Int)).isLt
    exact wrap_u32 (by omega) (by omega)
  · have := (BitVec.ofInt 32 (a : Int) &&& ~~~ BitVec.ofInt 32 (b : Int)).isLt
    omega
  · rw [BitVec.testBit_toNat, BitVec.getLsbD_and, BitVec.getLsbD_not, e, e, BitVec.getLsbD_ofNat, BitVec.getLsbD_ofNat]
    by_cases hi : i < 32
    · simp [hi]
    · have : a.testBit i = false := Nat.testBit_lt_two_pow (Nat.lt_of_lt_of_le (show a < 2 ^ 32 by omega) (Nat.pow_le_pow_right (by decide) (by omega)))
      simp [hi, this]

theorem shr_nat {a i : Nat} (hi : i ≤ 32) : shrI .u32 (a : Int) (i : Int) = ((a >>> i : Nat) : Int) := by
  unfold shrI
  have e : min ((i : Int)).toNat (IntKind.bits .u32) = i := by simp [IntKind.bits]; omega
  rw [e, Nat.shiftRight_eq_div_pow, Int.fdiv_eq_ediv_of_nonneg _ (by have : (0 : Int) ≤ ((2 ^ i : Nat) : Int) := Int.natCast_nonneg _; rw [Int.natCast_pow] at this; exact this), Int.natCast_ediv, Int.natCast_pow]
  rfl

theorem shl_one {v : Nat} (hv : v < 32) : shlI .u32 (1 : Int) (v : Int) = ((2 ^ v : Nat) : Int) ∧ 2 ^ v ≤ 4294967295 := by
  have hp : 2 ^ v ≤ 2 ^ 31 := Nat.pow_le_pow_right (by decide) (by omega)
  refine ⟨?_, by omega⟩
  unfold shlI
  have e : min ((v : Int)).toNat (IntKind.bits .u32) = v := by simp [IntKind.bits]; omega
  have e2 : (1 : Int) * 2 ^ v = ((2 ^ v : Nat) : Int) := by rw [Int.one_mul, Int.natCast_pow]; rfl
  rw [e, e2]
  have h3 : 2 ^ v ≤ 4294967295 := Nat.le_trans hp (by decide)
  exact wrap_u32 (Int.natCast_nonneg _) (Int.ofNat_le.2 h3)

/-- The bits that are set, of the first ones. -/
def popB (a : Nat) : Nat → Nat
  | 0 => 0
  | k + 1 => popB a k + (a.testBit k).toNat

theorem popB_le (a : Nat) : ∀ k, popB a k ≤ k := by
  intro k
  induction k with
  | zero => exact Nat.le_refl _
  | succ k ih =>
    have : (a.testBit k).toNat ≤ 1 := by cases a.testBit k <;> decide
    simp only [popB]; omega

theorem popB_congr {a b : Nat} : ∀ {k : Nat}, (∀ i, i < k → a.testBit i = b.testBit i) → popB a k = popB b k := by
  intro k
  induction k with
  | zero => intro _; rfl
  | succ k ih => intro h; simp only [popB]; rw [ih fun i hi => h i (by omega), h k (by omega)]

theorem popB_add (a j : Nat) : ∀ k, popB a (j + k) = popB a j + popB (a >>> j) k := by
  intro k
  induction k with
  | zero => rfl
  | succ k ih =>
    show popB a (j + k) + (a.testBit (j + k)).toNat = popB a j + (popB (a >>> j) k + ((a >>> j).testBit k).toNat)
    rw [ih, Nat.testBit_shiftRight]
    omega

theorem bit_and_one (a i : Nat) : (a >>> i) &&& 1 = (a.testBit i).toNat := by
  rw [Nat.and_one_is_mod, Nat.toNat_testBit, Nat.shiftRight_eq_div_pow]

theorem and_pow (a v : Nat) : (a &&& 2 ^ v = 0) ↔ a.testBit v = false := by
  constructor
  · intro h
    have h2 : (a &&& 2 ^ v).testBit v = false := by rw [h, Nat.zero_testBit]
    rw [Nat.testBit_and, Nat.testBit_two_pow_self, Bool.and_true] at h2
    exact h2
  · intro h
    refine Nat.eq_of_testBit_eq fun i => ?_
    rw [Nat.testBit_and, Nat.testBit_two_pow, Nat.zero_testBit]
    by_cases hv : v = i
    · subst hv; rw [h]; rfl
    · rw [decide_eq_false hv, Bool.and_false]

theorem testBit_or_pow (a v i : Nat) : (a ||| 2 ^ v).testBit i = (a.testBit i || decide (v = i)) := by
  rw [Nat.testBit_or, Nat.testBit_two_pow]

theorem shr_zero_of {a k : Nat} (h : ∀ i, k ≤ i → a.testBit i = false) : a >>> k = 0 := by
  refine Nat.eq_of_testBit_eq fun i => ?_
  rw [Nat.testBit_shiftRight, Nat.zero_testBit]
  exact h _ (by omega)

theorem bit_high {a i : Nat} (h : a ≤ 4294967295) (hi : 32 ≤ i) : a.testBit i = false :=
  Nat.testBit_lt_two_pow (Nat.lt_of_lt_of_le (show a < 2 ^ 32 by omega) (Nat.pow_le_pow_right (by decide) hi))

end Go.Proofs.Yteiepkkkphkncaa.Fn
