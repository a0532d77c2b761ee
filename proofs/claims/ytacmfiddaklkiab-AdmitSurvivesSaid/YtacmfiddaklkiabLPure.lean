/- 'Lift': laws of the words that the printed functions are made of: loops, lists, strings. -/
import Derived.Test.YtacmfiddaklkiabLCode
set_option linter.unusedVariables false
set_option linter.unusedSimpArgs false
namespace Go.Proofs.Ytacmfiddaklkiab.Lift
open Go

section
variable {X Y : Type} {step : X → Option (X ⊕ Y)}

theorem loopN_det : ∀ {n m : Nat} {x : X} {y z : Y}, loopN step n x = some y → loopN step m x = some z → y = z
  | 0, _, _, _, _, h, _ => by simp [loopN] at h
  | n + 1, 0, _, _, _, _, h => by simp [loopN] at h
  | n + 1, m + 1, x, y, z, h1, h2 => by
    simp only [loopN] at h1 h2
    split at h1
    · rename_i x' hx
      rw [hx] at h2
      exact loopN_det h1 h2
    · rename_i y' hx
      rw [hx] at h2
      simp only at h2
      cases h1; cases h2; rfl
    · cases h1

theorem loop_of_loopN {n : Nat} {x : X} {y : Y} (h : loopN step n x = some y) : loop step x = some y := by
  have hx : ∃ n y, loopN step n x = some y := ⟨n, y, h⟩
  cases hl : loop step x with
  | none =>
    unfold loop at hl
    rw [dif_pos hx] at hl
    cases hl
  | some z =>
    obtain ⟨k, hk⟩ := loop_some hl
    rw [loopN_det hk h]

/-- A loop, one round on. -/
theorem loop_eq (x : X) : loop step x = match step x with
    | some (.inl x') => loop step x'
    | some (.inr y) => some y
    | none => none := by
  cases hs : step x with
  | none =>
    cases hl : loop step x with
    | none => rfl
    | some y =>
      obtain ⟨k, hk⟩ := loop_some hl
      cases k with
      | zero => simp [loopN] at hk
      | succ k => simp only [loopN, hs] at hk; cases hk
  | some o =>
    cases o with
    | inr y => exact loop_of_loopN (n := 1) (by simp [loopN, hs])
    | inl x' =>
      simp only
      cases hl : loop step x' with
      | some y =>
        obtain ⟨k, hk⟩ := loop_some hl
        exact loop_of_loopN (n := k + 1) (by simp only [loopN, hs]; exact hk)
      | none =>
        cases hl2 : loop step x with
        | none => rfl
        | some y =>
          obtain ⟨k, hk⟩ := loop_some hl2
          cases k with
          | zero => simp [loopN] at hk
          | succ k =>
            simp only [loopN, hs] at hk
            rw [loop_of_loopN hk] at hl
            cases hl

/-- A loop ends, and well: an invariant and a measure. -/
theorem loop_ind {I : X → Prop} {Q : Y → Prop} (μ : X → Nat) {x : X} (h0 : I x) (h : ∀ x, I x → (∃ x', step x = some (.inl x') ∧ I x' ∧ μ x' < μ x) ∨ ∃ y, step x = some (.inr y) ∧ Q y) :
    ∃ y, loop step x = some y ∧ Q y := by
  have key : ∀ (n : Nat) (x : X), μ x = n → I x → ∃ y, loop step x = some y ∧ Q y := by
    intro n
    induction n using Nat.strongRecOn with
    | _ n ih =>
      intro x hn hx
      rcases h x hx with ⟨x', h1, h2, h3⟩ | ⟨y, h1, h2⟩
      · obtain ⟨y, k1, k2⟩ := ih (μ x') (by omega) x' rfl h2
        exact ⟨y, by rw [loop_eq, h1]; exact k1, k2⟩
      · exact ⟨y, by rw [loop_eq, h1], h2⟩
  exact key _ x rfl h0

/-- A fold with a way out. -/
def foldE {S α Z : Type} (f : S → α → S ⊕ Z) (fin : S → Z) : S → List α → Z
  | s, [] => fin s
  | s, x :: l => match f s x with
    | .inl s' => foldE f fin s' l
    | .inr z => z

/-- A loop over the indices of a list is a fold. -/
theorem loop_list {X Z S α : Type} {step : X → Option (X ⊕ Z)} (enc : S → Int → X) (l : List α) (f : S → α → S ⊕ Z) (fin : S → Z) (s0 : S) (I : S → Nat → Prop) (h0 : I s0 0)
    (h1 : ∀ (i : Nat) x s, l[i]? = some x → I s i → step (enc s i) = some (match f s x with | .inl s' => .inl (enc s' ((i : Int) + 1)) | .inr z => .inr z) ∧ ∀ s', f s x = .inl s' → I s' (i + 1))
    (h2 : ∀ s, I s l.length → step (enc s l.length) = some (.inr (fin s))) : loop step (enc s0 0) = some (foldE f fin s0 l) := by
  have key : ∀ (n k : Nat) (s : S), l.length - k = n → k ≤ l.length → I s k → loop step (enc s k) = some (foldE f fin s (l.drop k)) := by
    intro n
    induction n with
    | zero =>
      intro k s hn hk hI
      have hk' : k = l.length := by omega
      subst hk'
      rw [loop_eq, h2 s hI]
      simp [foldE]
    | succ n ih =>
      intro k s hn hk hI
      have hlt : k < l.length := by omega
      obtain ⟨e1, e2⟩ := h1 k l[k] s (List.getElem?_eq_getElem hlt) hI
      rw [loop_eq, e1, List.drop_eq_getElem_cons hlt]
      simp only [foldE]
      cases hf : f s l[k] with
      | inr z => rfl
      | inl s' =>
        have := ih (k + 1) s' (by omega) (by omega) (e2 s' hf)
        simp only
        rw [← this]
        rfl
  have := key l.length 0 s0 rfl (Nat.zero_le _) h0
  simpa using this

theorem foldE_all' {Z α : Type} {p : α → Bool} {bad good : Z} (l : List α) : foldE (S := Unit) (fun _ x => if p x = true then .inl () else .inr bad) (fun _ => good) () l = if l.all p = true then good else bad := by
  induction l with
  | nil => rfl
  | cons x l ih =>
    simp only [foldE, List.all_cons]
    by_cases hp : p x = true
    · simp only [hp, if_true, Bool.true_and]; exact ih
    · simp [hp]

/-- A loop that looks for an element that fails. -/
theorem loop_all {Z α : Type} {step : Int → Option (Int ⊕ Z)} (l : List α) (p : α → Bool) (bad good : Z) (h1 : ∀ (i : Nat) x, l[i]? = some x → step i = some (if p x = true then .inl ((i : Int) + 1) else .inr bad))
    (h2 : step l.length = some (.inr good)) : loop step 0 = some (if l.all p = true then good else bad) := by
  have := loop_list (step := step) (S := Unit) (fun _ i => i) l (fun _ x => if p x = true then .inl () else .inr bad) (fun _ => good) () (fun _ _ => True) trivial
    (fun i x s hx _ => ⟨by rw [h1 i x hx]; by_cases hp : p x = true <;> simp [hp], fun _ _ => trivial⟩) (fun _ _ => h2)
  rw [this, foldE_all']

/-- A loop whose states are known. -/
theorem loop_at {X Z : Type} {step : X → Option (X ⊕ Z)} (enc : Nat → X) (n : Nat) (z : Z) (h1 : ∀ i, i < n → step (enc i) = some (.inl (enc (i + 1)))) (h2 : step (enc n) = some (.inr z)) : loop step (enc 0) = some z := by
  have key : ∀ k i, n - i = k → i ≤ n → loop step (enc i) = some z := by
    intro k
    induction k with
    | zero =>
      intro i hk hi
      have : i = n := by omega
      subst this
      rw [loop_eq, h2]
    | succ k ih =>
      intro i hk hi
      rw [loop_eq, h1 i (by omega)]
      exact ih (i + 1) (by omega) (by omega)
  exact key n 0 (by omega) (Nat.zero_le _)

end

/-! ### Loops with fuel: for closed terms -/
def loopF {X Y : Type} (fuel : Nat) (step : X → Option (X ⊕ Y)) (x : X) : Option Y := loopN step fuel x

/-- What the one yields, the other yields. -/
def Le {α : Type} (a b : Option α) : Prop := ∀ y, a = some y → b = some y

theorem Le.none {α : Type} (a : Option α) : Le none a := fun _ h => by cases h
theorem Le.refl {α : Type} (a : Option α) : Le a a := fun _ h => h
theorem Le.bind {α β : Type} {a a' : Option α} {f f' : α → Option β} (h : Le a a') (k : ∀ x, Le (f x) (f' x)) : Le (a.bind f) (a'.bind f') := by
  intro y hy
  obtain ⟨x, hx, hy⟩ := Option.bind_eq_some_iff.1 hy
  exact Option.bind_eq_some_iff.2 ⟨x, h x hx, k x y hy⟩
theorem Le.cond {α : Type} {c : Bool} {a a' b b' : Option α} (h : Le a a') (k : Le b b') : Le (bif c then a else b) (bif c then a' else b') := by
  cases c
  · exact k
  · exact h
theorem Le.ite {α : Type} {c : Prop} [Decidable c] {a a' b b' : Option α} (h : Le a a') (k : Le b b') : Le (if c then a else b) (if c then a' else b') := by
  split
  · exact h
  · exact k
theorem Le.both {α : Type} {a a' b b' : Option α} (h : Le a a') (k : Le b b') : Le (Lift.both a b) (Lift.both a' b') := by
  intro y hy
  obtain ⟨h1, h2⟩ := both_some hy
  have e1 := h y h1
  have e2 := k y h2
  simp [Lift.both, e1, e2]
/-- The same where it can be worked out. -/
def bothD {ρ : Type} [DecidableEq ρ] (a b : Option ρ) : Option ρ := if a = b then a else none
theorem Le.bothD {α : Type} [DecidableEq α] {a a' b b' : Option α} (h : Le a a') (k : Le b b') : Le (Lift.bothD a b) (Lift.both a' b') := by
  intro y hy
  unfold Lift.bothD at hy
  split at hy
  · rename_i e
    subst e
    unfold Lift.both
    rw [h y hy, k y hy, if_pos rfl]
  · cases hy
theorem Le.loop {X Y : Type} {fuel : Nat} {s s' : X → Option (X ⊕ Y)} (h : ∀ x, Le (s x) (s' x)) (x : X) : Le (loopF fuel s x) (Lift.loop s' x) := by
  have key : ∀ (n : Nat) (x : X) (y : Y), loopN s n x = some y → loopN s' n x = some y := by
    intro n
    induction n with
    | zero => intro x y h; simp [loopN] at h
    | succ n ih =>
      intro x y hy
      simp only [loopN] at hy ⊢
      cases hs : s x with
      | none => rw [hs] at hy; cases hy
      | some o =>
        rw [hs] at hy
        rw [h x o hs]
        cases o with
        | inl x' => exact ih x' y hy
        | inr z => exact hy
  intro y hy
  exact loop_of_loopN (key fuel x y hy)

/-! ### Lists -/
theorem snoc_ind {α : Type} {P : List α → Prop} (h0 : P []) (h1 : ∀ l x, P l → P (l ++ [x])) : ∀ l, P l := by
  intro l
  rw [← List.reverse_reverse l]
  induction l.reverse with
  | nil => exact h0
  | cons x r ih => rw [List.reverse_cons]; exact h1 _ _ ih
theorem getD_get {α : Type} {l : List α} {i : Nat} {d : α} (h : i < l.length) : l.getD i d = l[i] := by
  simp [List.getD_eq_getElem?_getD, h]
theorem sum_perm {l k : List Int} (h : l.Perm k) : l.sum = k.sum := by
  induction h with
  | nil => rfl
  | cons x _ ih => simp [ih]
  | swap x y l => simp only [List.sum_cons]; omega
  | trans _ _ ih1 ih2 => exact ih1.trans ih2
theorem getD_snoc {α : Type} {l : List α} {i : Nat} {x d : α} (h : i < l.length) : (l ++ [x]).getD i d = l.getD i d := by
  simp [List.getD_eq_getElem?_getD, List.getElem?_append_left h]
theorem idx_lt {α : Type} {l : List α} {i : Nat} {x : α} (h : l[i]? = some x) : (i : Int) < l.length := by
  have := (List.getElem?_eq_some_iff.1 h).1
  omega
theorem nth_some {α : Type} {d : α} {l : List α} {i : Nat} {x : α} (h : l[i]? = some x) : nth d l i = x := by
  simp [nth, List.getD_eq_getElem?_getD, h]
theorem slc_take {α : Type} (l : List α) (i : Nat) : slc l 0 i = l.take i := by simp [slc]
theorem slc_drop {α : Type} (l : List α) (i : Nat) : slc l i l.length = l.drop i := by simp [slc]

theorem eqD_self {α : Type} (i : DecidableEq α) (x : α) : eqD i x x = true := by simp [eqD]

/-! ### Numbers -/
theorem wrap_i64 {n : Int} (h1 : -9223372036854775808 ≤ n) (h2 : n ≤ 9223372036854775807) : IntKind.wrap .i64 n = n := by
  simp [IntKind.wrap, IntKind.bits, IntKind.signed]; omega
theorem wrap_u64 {n : Int} (h1 : 0 ≤ n) (h2 : n ≤ 18446744073709551615) : IntKind.wrap .u64 n = n := by
  simp [IntKind.wrap, IntKind.bits, IntKind.signed]; omega
theorem wrap_u32 {n : Int} (h1 : 0 ≤ n) (h2 : n ≤ 4294967295) : IntKind.wrap .u32 n = n := by
  simp [IntKind.wrap, IntKind.bits, IntKind.signed]; omega
theorem wrap_u8 {n : Int} (h1 : 0 ≤ n) (h2 : n ≤ 255) : IntKind.wrap .u8 n = n := by
  simp [IntKind.wrap, IntKind.bits, IntKind.signed]; omega
theorem wrap_u8_range (n : Int) : 0 ≤ IntKind.wrap .u8 n ∧ IntKind.wrap .u8 n ≤ 255 := by
  simp [IntKind.wrap, IntKind.bits, IntKind.signed]; omega
theorem wrap_u32_range (n : Int) : 0 ≤ IntKind.wrap .u32 n ∧ IntKind.wrap .u32 n ≤ 4294967295 := by
  simp [IntKind.wrap, IntKind.bits, IntKind.signed]; omega

theorem and_range {x m : Int} (h0 : 0 ≤ m) (h1 : m ≤ 9223372036854775807) : 0 ≤ andI .i64 x m ∧ andI .i64 x m ≤ m := by
  have h2 : (BitVec.ofInt 64 x &&& BitVec.ofInt 64 m).toNat ≤ m.toNat := by
    rw [BitVec.toNat_and]
    refine Nat.le_trans Nat.and_le_right ?_
    rw [BitVec.toNat_ofInt]
    have : m % ((2 ^ 64 : Nat) : Int) = m := Int.emod_eq_of_lt h0 (by omega)
    rw [this]
    exact Nat.le_refl _
  have h3 : andI .i64 x m = ((BitVec.ofInt 64 x &&& BitVec.ofInt 64 m).toNat : Int) := by
    show IntKind.wrap .i64 ((BitVec.ofInt 64 x &&& BitVec.ofInt 64 m).toNat : Int) = _
    exact wrap_i64 (by omega) (by omega)
  rw [h3]
  omega

/-! ### Strings -/
theorem bt_range (s : ByteArray) (i : Int) : 0 ≤ bt s i ∧ bt s i ≤ 255 := by
  unfold bt
  have := (s.data.getD i.toNat 0).toNat_lt
  omega

theorem size_zero {c : ByteArray} : c.size = 0 ↔ c = ⟨#[]⟩ := by
  constructor
  · intro h; cases c; simp [ByteArray.size] at h; simp [h]
  · rintro rfl; rfl

theorem bytes_cons {c : ByteArray} (h : 0 < c.size) : strOf [bt c 0] ++ cut c 1 c.size = c := by
  apply ByteArray.ext
  simp only [ByteArray.data_append, strOf, cut, ByteArray.data_extract]
  obtain ⟨⟨l⟩⟩ := c
  cases l with
  | nil => simp [ByteArray.size] at h
  | cons x l => simp [bt, ByteArray.size]

theorem mk_empty : (⟨#[]⟩ : ByteArray) = ByteArray.empty := rfl

@[simp] theorem strOf_size (xs : List Int) : (strOf xs).size = xs.length := by simp [strOf, ByteArray.size]

end Go.Proofs.Ytacmfiddaklkiab.Lift
