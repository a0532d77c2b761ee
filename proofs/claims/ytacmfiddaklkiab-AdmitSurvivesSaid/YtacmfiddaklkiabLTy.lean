/- 'Lift': the types of a loaded program, checked against Ty. -/
import Derived.Test.YtacmfiddaklkiabLInv
namespace Go.Proofs.Ytacmfiddaklkiab.Lift
open Go Go.RowKit

def iterO {α : Type} (f : α → Option α) : Nat → α → Option α
  | 0, x => some x
  | n + 1, x => (f x).bind (iterO f n)

/-- Zero cells of a type at the front of cells. -/
def zeroChk : Ty → List Value → Option (List Value)
  | .bool, vs => match vs with | .bool false :: r => some r | _ => none
  | .int k, vs => match vs with | .int k' 0 :: r => if k = k' then some r else none | _ => none
  | .str, vs => match vs with | .string s :: r => (match s.data.toList with | [] => some r | _ => none) | _ => none
  | .sl _, vs => match vs with | .slice none 0 0 :: r => some r | _ => none
  | .own _, _ => none
  | .arr n e, vs => iterO (zeroChk e) n vs
  | .st t, vs => zeroChk t vs
  | .unit, vs => some vs
  | .pair a b, vs => (zeroChk a vs).bind (zeroChk b)

def infoChk (P : Program) (τ : Ty) (t : TypeId) : Bool :=
  match P.info? t with
  | some i => Nat.beq i.size τ.size && Nat.blt 0 τ.size && !P.stoodInHeld t && !P.eqGuardType P.depth t &&
    (match i.zero with
     | some (.agg cs) => τ.agg && (match zeroChk τ cs.toList with | some [] => true | _ => false)
     | some z => !τ.agg && (match zeroChk τ [z] with | some [] => true | _ => false)
     | none => false)
  | none => false

def tyChk (P : Program) : Nat → Ty → TypeId ⊕ (List Field × Nat) → Bool
  | 0, _, _ => false
  | n + 1, τ, .inl t => infoChk P τ t && (match τ, P.underlying t with
      | .bool, some .bool => true
      | .int k, some (.int k') => decide (k = k')
      | .str, some .string => true
      | .sl e, some (.slice te) => tyChk P n e (.inl te)
      | .arr m e, some (.array m' te) => Nat.beq m m' && tyChk P n e (.inl te)
      | .st c, some (.struct fs) => tyChk P n c (.inr (fs.toList, 0))
      | _, _ => false)
  | n + 1, .pair a b, .inr (f :: fs, off) => Nat.beq f.offset off && !(f.name == "_") && tyChk P n a (.inl f.type) && tyChk P n b (.inr (fs, off + a.size))
  | n + 1, τ, .inr ([f], off) => Nat.beq f.offset off && !(f.name == "_") && tyChk P n τ (.inl f.type)
  | _ + 1, _, _ => false

def TyOk (P : Program) (τ : Ty) (t : TypeId) : Prop := ∃ n, tyChk P n τ (.inl t) = true
def FldOk (P : Program) (c : Ty) (fs : List Field) (off : Nat) : Prop := ∃ n, tyChk P n c (.inr (fs, off)) = true

structure Info (P : Program) (τ : Ty) (t : TypeId) (i : TypeInfo) : Prop where
  info : P.info? t = some i
  size : i.size = τ.size
  pos : 0 < τ.size
  held : P.stoodInHeld t = false
  guard : P.eqGuardType P.depth t = false
  zero : ∃ z, i.zero = some z ∧ (τ.agg = true → ∃ cs, z = .agg cs ∧ zeroChk τ cs.toList = some []) ∧ (τ.agg = false → zeroChk τ [z] = some [] ∧ z.cells = #[z])

theorem TyOk.info {P : Program} {τ : Ty} {t : TypeId} (h : TyOk P τ t) : ∃ i, Info P τ t i := by
  obtain ⟨n, h⟩ := h
  cases n with
  | zero => simp [tyChk] at h
  | succ n =>
    simp only [tyChk, Bool.and_eq_true] at h
    obtain ⟨h, _⟩ := h
    unfold infoChk at h
    split at h
    · rename_i i hi
      simp only [Bool.and_eq_true, Bool.not_eq_true'] at h
      obtain ⟨⟨⟨⟨h1, h2⟩, h3⟩, h4⟩, h5⟩ := h
      refine ⟨i, hi, Nat.eq_of_beq_eq_true h1, by have := h2; simp [Nat.blt] at this; omega, h3, h4, ?_⟩
      split at h5
      · rename_i cs hz
        simp only [Bool.and_eq_true] at h5
        refine ⟨_, hz, fun _ => ⟨cs, rfl, ?_⟩, (fun hf => by rw [h5.1] at hf; cases hf)⟩
        have := h5.2
        split at this <;> simp_all
      · rename_i z hna hz
        simp only [Bool.and_eq_true, Bool.not_eq_true'] at h5
        refine ⟨z, hz, (fun hf => by rw [h5.1] at hf; cases hf), fun _ => ⟨?_, ?_⟩⟩
        · have := h5.2
          split at this <;> simp_all
        · cases z <;> first | rfl | exact absurd rfl (hna _)
      · cases h5
    · cases h

section
variable {P : Program} {t : TypeId}
theorem TyOk.bool (h : TyOk P .bool t) : P.underlying t = some .bool := by
  obtain ⟨n, h⟩ := h; cases n <;> simp only [tyChk, Bool.and_eq_true] at h <;> first | (cases h; done) | skip
  have := h.2; split at this <;> simp_all
theorem TyOk.int {k : IntKind} (h : TyOk P (.int k) t) : P.underlying t = some (.int k) := by
  obtain ⟨n, h⟩ := h; cases n <;> simp only [tyChk, Bool.and_eq_true] at h <;> first | (cases h; done) | skip
  have := h.2; split at this <;> simp_all
theorem TyOk.str (h : TyOk P .str t) : P.underlying t = some .string := by
  obtain ⟨n, h⟩ := h; cases n <;> simp only [tyChk, Bool.and_eq_true] at h <;> first | (cases h; done) | skip
  have := h.2; split at this <;> simp_all
theorem TyOk.sl {e : Ty} (h : TyOk P (.sl e) t) : ∃ te, P.underlying t = some (.slice te) ∧ TyOk P e te := by
  obtain ⟨n, h⟩ := h; cases n <;> simp only [tyChk, Bool.and_eq_true] at h <;> first | (cases h; done) | skip
  rename_i n
  have := h.2
  split at this <;> simp_all
  exact ⟨n, this⟩
theorem TyOk.arr {m : Nat} {e : Ty} (h : TyOk P (.arr m e) t) : ∃ te, P.underlying t = some (.array m te) ∧ TyOk P e te := by
  obtain ⟨n, h⟩ := h; cases n <;> simp only [tyChk, Bool.and_eq_true] at h <;> first | (cases h; done) | skip
  rename_i n
  have := h.2
  split at this <;> simp_all
  exact ⟨n, this.2⟩
theorem TyOk.st {c : Ty} (h : TyOk P (.st c) t) : ∃ fs, P.underlying t = some (.struct fs) ∧ FldOk P c fs.toList 0 := by
  obtain ⟨n, h⟩ := h; cases n <;> simp only [tyChk, Bool.and_eq_true] at h <;> first | (cases h; done) | skip
  rename_i n
  have := h.2
  split at this <;> simp_all
  exact ⟨n, this⟩
theorem TyOk.not_own {e : Ty} (h : TyOk P (.own e) t) : False := by
  obtain ⟨n, h⟩ := h; cases n <;> simp only [tyChk, Bool.and_eq_true] at h <;> first | (cases h; done) | skip
  exact absurd h.2 (by simp)
theorem TyOk.not_unit (h : TyOk P .unit t) : False := by
  obtain ⟨n, h⟩ := h; cases n <;> simp only [tyChk, Bool.and_eq_true] at h <;> first | (cases h; done) | skip
  exact absurd h.2 (by simp)
theorem TyOk.not_pair {a b : Ty} (h : TyOk P (.pair a b) t) : False := by
  obtain ⟨n, h⟩ := h; cases n <;> simp only [tyChk, Bool.and_eq_true] at h <;> first | (cases h; done) | skip
  exact absurd h.2 (by simp)

/-- A field: its place, its type. -/
theorem FldOk.at {c : Ty} : ∀ {fs : List Field} {off j o : Nat} {φ : Ty}, FldOk P c fs off → fieldAt c j off = some (o, φ) → ∃ f, fs[j]? = some f ∧ f.offset = o ∧ TyOk P φ f.type := by
  have base : ∀ (c : Ty), (∀ a b, c ≠ .pair a b) → ∀ {fs : List Field} {off j o : Nat} {φ : Ty}, FldOk P c fs off → fieldAt c j off = some (o, φ) → ∃ f, fs[j]? = some f ∧ f.offset = o ∧ TyOk P φ f.type := by
    intro c hc fs off j o φ h hj
    obtain ⟨n, h⟩ := h
    have hu : c ≠ .unit := by
      rintro rfl
      cases n with
      | zero => simp [tyChk] at h
      | succ n =>
        match fs, h with
        | [f], h =>
          simp only [tyChk, Bool.and_eq_true] at h
          exact TyOk.not_unit ⟨n, h.2⟩
    cases j with
    | succ j => cases c <;> simp [fieldAt] at hj; exact absurd rfl (hc _ _)
    | zero =>
      have hj' : o = off ∧ φ = c := by
        cases c <;> simp [fieldAt] at hj <;> first | exact absurd rfl hu | exact absurd rfl (hc _ _) | exact ⟨hj.1.symm, hj.2.symm⟩
      obtain ⟨rfl, rfl⟩ := hj'
      cases n with
      | zero => simp [tyChk] at h
      | succ n =>
        match fs, h with
        | [], h => cases φ <;> simp [tyChk] at h
        | [f], h =>
          have h' : (Nat.beq f.offset o && !(f.name == "_") && tyChk P n φ (.inl f.type)) = true := by
            cases φ <;> first | exact h | exact absurd rfl (hc _ _)
          simp only [Bool.and_eq_true] at h'
          exact ⟨f, rfl, Nat.eq_of_beq_eq_true h'.1.1, n, h'.2⟩
        | f :: g :: r, h => cases φ <;> first | (simp [tyChk] at h; done) | exact absurd rfl (hc _ _)
  induction c with
  | pair a b _ ihb =>
    intro fs off j o φ h hj
    obtain ⟨n, h⟩ := h
    cases n with
    | zero => simp [tyChk] at h
    | succ n =>
      match fs, h with
      | [], h => simp [tyChk] at h
      | f :: fs, h =>
        simp only [tyChk, Bool.and_eq_true] at h
        obtain ⟨⟨⟨h1, h2⟩, h3⟩, h4⟩ := h
        cases j with
        | zero =>
          simp [fieldAt] at hj
          obtain ⟨rfl, rfl⟩ := hj
          exact ⟨f, rfl, Nat.eq_of_beq_eq_true h1, n, h3⟩
        | succ j =>
          simp only [fieldAt] at hj
          obtain ⟨g, hg, hr⟩ := ihb ⟨n, h4⟩ hj
          exact ⟨g, by simpa using hg, hr⟩
  | bool => exact fun h hj => base .bool (by simp) h hj
  | int k => exact fun h hj => base (.int k) (by simp) h hj
  | str => exact fun h hj => base .str (by simp) h hj
  | sl e _ => exact fun h hj => base (.sl e) (by simp) h hj
  | own e _ => exact fun h hj => base (.own e) (by simp) h hj
  | arr m e _ => exact fun h hj => base (.arr m e) (by simp) h hj
  | st t _ => exact fun h hj => base (.st t) (by simp) h hj
  | unit => exact fun h hj => base .unit (by simp) h hj
end

theorem iterO_enc {e : Ty} {w : World} {A : Nat → Prop} (ih : ∀ {vs r : List Value}, zeroChk e vs = some r → ∃ us, vs = us ++ r ∧ Enc w A e e.dflt us) :
    ∀ (n : Nat) {vs r : List Value}, iterO (zeroChk e) n vs = some r → ∃ us, vs = us ++ r ∧ Enc w A (.arr n e) (List.replicate n e.dflt) us
  | 0, vs, r, h => by cases h; exact ⟨[], rfl, by simp [Enc]⟩
  | n + 1, vs, r, h => by
    simp only [iterO] at h
    obtain ⟨m, h1, h2⟩ := Option.bind_eq_some_iff.1 h
    obtain ⟨us, rfl, e1⟩ := ih h1
    obtain ⟨ts, rfl, e2⟩ := iterO_enc ih n h2
    refine ⟨us ++ ts, by simp, ?_⟩
    have l1 := e1.length
    have l2 := e2.length
    simp only [Enc] at e2 ⊢
    refine ⟨by simp, by simp [l1, e2.2.1, Nat.add_mul, Nat.add_comm], fun i x hx => ?_⟩
    cases i with
    | zero =>
      simp [List.replicate_succ] at hx
      subst hx
      simpa [← l1] using e1
    | succ i =>
      have hx' : (List.replicate n e.dflt)[i]? = some x := by simpa [List.replicate_succ] using hx
      have := e2.2.2 i x hx'
      rw [show (i + 1) * e.size = us.length + i * e.size by rw [l1, Nat.add_mul]; omega, List.drop_length_add_append]
      exact this

/-- Zero cells hold the default. -/
theorem zeroChk_enc {w : World} {A : Nat → Prop} : ∀ {τ : Ty} {vs r : List Value}, zeroChk τ vs = some r → ∃ us, vs = us ++ r ∧ Enc w A τ τ.dflt us := by
  intro τ
  induction τ with
  | bool => intro vs r h; simp only [zeroChk] at h; split at h <;> simp_all; subst h; exact ⟨[_], rfl, rfl⟩
  | int k => intro vs r h; simp only [zeroChk] at h; split at h <;> simp_all; obtain ⟨rfl, rfl⟩ := h; exact ⟨[_], rfl, rfl⟩
  | str =>
    intro vs r h
    simp only [zeroChk] at h
    split at h
    · rename_i s r'
      split at h
      · rename_i hs
        cases h
        refine ⟨[_], rfl, ?_⟩
        have : s = ⟨#[]⟩ := by
          obtain ⟨⟨l⟩⟩ := s
          simp at hs
          subst hs; rfl
        subst this; rfl
      · cases h
    · cases h
  | sl e _ => intro vs r h; simp only [zeroChk] at h; split at h <;> simp_all; subst h; exact ⟨[_], rfl, .inl ⟨rfl, rfl⟩⟩
  | own e _ => intro vs r h; simp [zeroChk] at h
  | arr n e ih => intro vs r h; exact iterO_enc ih n h
  | st t ih => intro vs r h; exact ih (vs := vs) h
  | unit => intro vs r h; simp [zeroChk] at h; subst h; exact ⟨[], rfl, rfl⟩
  | pair a b iha ihb =>
    intro vs r h
    simp only [zeroChk] at h
    obtain ⟨m, h1, h2⟩ := Option.bind_eq_some_iff.1 h
    obtain ⟨us, rfl, e1⟩ := iha h1
    obtain ⟨ts, rfl, e2⟩ := ihb h2
    exact ⟨us ++ ts, by simp, us, ts, rfl, e1, e2⟩

theorem zeroChk_rel {w : World} {A : Nat → Prop} {ι : Inj} : ∀ {τ : Ty} {vs r : List Value}, zeroChk τ vs = some r → ∃ us, vs = us ++ r ∧ RelC w A ι (zeroC τ) us := by
  intro τ
  induction τ with
  | bool => intro vs r h; obtain ⟨us, e, h⟩ := zeroChk_enc (w := w) (A := A) h; exact ⟨us, e, us, [], by simp, h, rfl⟩
  | int k => intro vs r h; obtain ⟨us, e, h⟩ := zeroChk_enc (w := w) (A := A) h; exact ⟨us, e, us, [], by simp, h, rfl⟩
  | str => intro vs r h; obtain ⟨us, e, h⟩ := zeroChk_enc (w := w) (A := A) h; exact ⟨us, e, us, [], by simp, h, rfl⟩
  | sl e _ => intro vs r h; simp only [zeroChk] at h; split at h <;> simp_all; subst h; exact ⟨[_], rfl, [_], [], rfl, rfl, rfl⟩
  | own e _ => intro vs r h; simp [zeroChk] at h
  | arr n e _ => intro vs r h; obtain ⟨us, e', h⟩ := zeroChk_enc (τ := .arr n e) (w := w) (A := A) h; exact ⟨us, e', us, [], by simp, h, rfl⟩
  | st t ih => intro vs r h; exact ih (vs := vs) h
  | unit => intro vs r h; simp [zeroChk] at h; subst h; exact ⟨[], rfl, rfl⟩
  | pair a b iha ihb =>
    intro vs r h
    simp only [zeroChk] at h
    obtain ⟨m, h1, h2⟩ := Option.bind_eq_some_iff.1 h
    obtain ⟨us, rfl, e1⟩ := iha h1
    obtain ⟨ts, rfl, e2⟩ := ihb h2
    exact ⟨us ++ ts, by simp, e1.append e2⟩

end Go.Proofs.Ytacmfiddaklkiab.Lift
