/- 'Lift': laws of the words that the printed functions are made of: loops, lists, strings. -/
import Derived.Test.YtacmfiddaklkiaaLCode
set_option linter.unusedVariables false
set_option linter.unusedSimpArgs false
namespace Go.Proofs.Ytacmfiddaklkiaa.Lift
open Go

section
variable {X Y : Type} {step : X → Option (X ⊕ Y)}

theorem loopN_det : ∀ {n m : Nat} {x : X} {y z : Y}, loopN step n x = some y → loopN step m x = some z → y = z
  | 0, _, _, _, _, h, _ => by simp [loopN] at h
  | n + 1, 0, _, _, _, _, h => by simp [loopN] at h
  | n + 1, m + 1, x, y, z, h1, h2 => by
    simp only [loopN] at h1 h2
    split at h1
    · rename_i x' hx
      rw [hx] at h2
      exact loopN_det h1 h2
    · rename_i y' hx
      rw [hx] at h2
      simp only at h2
      cases h1; cases h2; rfl
    · cases h1

theorem loop_of_loopN {n : Nat} {x : X} {y : Y} (h : loopN step n x = some y) : loop step x = some y := by
  have hx : ∃ n y, loopN step n x = some y := ⟨n, y, h⟩
  cases hl : loop step x with
  | none =>
    unfold loop at hl
    rw [dif_pos hx] at hl
    cases hl
  | some z =>
    obtain ⟨k, hk⟩ := loop_some hl
    rw [loopN_det hk h]

/-- A loop, one round on. -/
theorem loop_eq (x : X) : loop step x = match step x with
    | some (.inl x') => loop step x'
    | some (.inr y) => some y
    | none => none := by
  cases hs : step x with
  | none =>
    cases hl : loop step x with
    | none => rfl
    | some y =>
      obtain ⟨k, hk⟩ := loop_some hl
      cases k with
      | zero => simp [loopN] at hk
      | succ k => simp only [loopN, hs] at hk; cases hk
  | some o =>
    cases o with
    | inr y => exact loop_of_loopN (n := 1) (by simp [loopN, hs])
    | inl x' =>
      simp only
      cases hl : loop step x' with
      | some y =>
        obtain ⟨k, hk⟩ := loop_some hl
        exact loop_of_loopN (n := k + 1) (by simp only [loopN, hs]; exact hk)
      | none =>
        cases hl2 : loop step x with
        | none => rfl
        | some y =>
          obtain ⟨k, hk⟩ := loop_some hl2
          cases k with
          | zero => simp [loopN] at hk
          | succ k =>
            simp only [loopN, hs] at hk
            rw [loop_of_loopN hk] at hl
            cases hl

/-- A loop ends, and well: an invariant and a measure. -/
theorem loop_ind {I : X → Prop} {Q : Y → Prop} (μ : X → Nat) {x : X} (h0 : I x) (h : ∀ x, I x → (∃ x', step x = some (.inl x') ∧ I x' ∧ μ x' < μ x) ∨ ∃ y, step x = some (.inr y) ∧ Q y) :
    ∃ y, loop step x = some y ∧ Q y := by
  have key : ∀ (n : Nat) (x : X), μ x = n → I x → ∃ y, loop step x = some y ∧ Q y := by
    intro n
    induction n using Nat.strongRecOn with
    | _ n ih =>
      intro x hn hx
      rcases h x hx with ⟨x', h1, h2, h3⟩ | ⟨y, h1, h2⟩
      · obtain ⟨y, k1, k2⟩ := ih (μ x') (by omega) x' rfl h2
        exact ⟨y, by rw [loop_eq, h1]; exact k1, k2⟩
      · exact ⟨y, by rw [loop_eq, h1], h2⟩
  exact key _ x rfl h0

end

/-! ### Numbers -/
theorem wrap_i64 {n : Int} (h1 : -9223372036854775808 ≤ n) (h2 : n ≤ 9223372036854775807) : IntKind.wrap .i64 n = n := by
  simp [IntKind.wrap, IntKind.bits, IntKind.signed]; omega
theorem wrap_u64 {n : Int} (h1 : 0 ≤ n) (h2 : n ≤ 18446744073709551615) : IntKind.wrap .u64 n = n := by
  simp [IntKind.wrap, IntKind.bits, IntKind.signed]; omega
theorem wrap_u32 {n : Int} (h1 : 0 ≤ n) (h2 : n ≤ 4294967295) : IntKind.wrap .u32 n = n := by
  simp [IntKind.wrap, IntKind.bits, IntKind.signed]; omega
theorem wrap_u8 {n : Int} (h1 : 0 ≤ n) (h2 : n ≤ 255) : IntKind.wrap .u8 n = n := by
  simp [IntKind.wrap, IntKind.bits, IntKind.signed]; omega
theorem wrap_u8_range (n : Int) : 0 ≤ IntKind.wrap .u8 n ∧ IntKind.wrap .u8 n ≤ 255 := by
  simp [IntKind.wrap, IntKind.bits, IntKind.signed]; omega
theorem wrap_u32_range (n : Int) : 0 ≤ IntKind.wrap .u32 n ∧ IntKind.wrap .u32 n ≤ 4294967295 := by
  simp [IntKind.wrap, IntKind.bits, IntKind.signed]; omega

/-! ### Strings -/
theorem bt_range (s : ByteArray) (i : Int) : 0 ≤ bt s i ∧ bt s i ≤ 255 := by
  unfold bt
  have := (s.data.getD i.toNat 0).toNat_lt
  omega

theorem size_zero {c : ByteArray} : c.size = 0 ↔ c = ⟨#[]⟩ := by
  constructor
  · intro h; cases c; simp [ByteArray.size] at h; simp [h]
  · rintro rfl; rfl

theorem bytes_cons {c : ByteArray} (h : 0 < c.size) : strOf [bt c 0] ++ cut c 1 c.size = c := by
  apply ByteArray.ext
  simp only [ByteArray.data_append, strOf, cut, ByteArray.data_extract]
  obtain ⟨⟨l⟩⟩ := c
  cases l with
  | nil => simp [ByteArray.size] at h
  | cons x l => simp [bt, ByteArray.size]

theorem mk_empty : (⟨#[]⟩ : ByteArray) = ByteArray.empty := rfl

@[simp] theorem strOf_size (xs : List Int) : (strOf xs).size = xs.length := by simp [strOf, ByteArray.size]

end Go.Proofs.Ytacmfiddaklkiaa.Lift
