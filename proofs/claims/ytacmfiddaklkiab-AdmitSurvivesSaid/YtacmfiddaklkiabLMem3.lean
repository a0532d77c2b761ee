/- 'Lift': rows that grow: append, copy. -/
import Derived.Test.YtacmfiddaklkiabLMem2
import Derived.Deep.AppendSrc
set_option linter.unusedVariables false
set_option linter.unusedSimpArgs false
namespace Go.Proofs.Ytacmfiddaklkiab.Lift
open Go Go.RowKit

section
variable {P : Program} {S : Nat → Prop} {w0 w : World} {ι : Inj} {T : Tab} {nm : Nat} {o : Oper} {a : Act} {N : Nat → Prop} {ρ : Type} {r : ρ} {E : Env}

/-! ### Rows of cells -/
theorem enc_append {A : Nat → Prop} {e : Ty} {n m : Nat} {xs ys : List e.den} {us ts : List Value} (h : Enc w A (.arr n e) xs us) (k : Enc w A (.arr m e) ys ts) : Enc w A (.arr (n + m) e) (xs ++ ys) (us ++ ts) := by
  simp only [Enc] at h k ⊢
  obtain ⟨h1, h2, h3⟩ := h
  obtain ⟨k1, k2, k3⟩ := k
  refine ⟨by simp [h1, k1], by simp [h2, k2, Nat.add_mul], fun i x hx => ?_⟩
  by_cases hi : i < n
  · rw [List.getElem?_append_left (by omega)] at hx
    have hle : i * e.size + e.size ≤ us.length := by
      have := Nat.mul_le_mul_right e.size (show i + 1 ≤ n from hi)
      rw [Nat.succ_mul] at this; omega
    rw [List.drop_append_of_le_length (by omega), List.take_append_of_le_length (by simp; omega)]
    exact h3 i x hx
  · rw [List.getElem?_append_right (by omega)] at hx
    have := k3 (i - n) x (by rw [← h1]; exact hx)
    have hie : i * e.size = us.length + (i - n) * e.size := by
      rw [h2, ← Nat.add_mul]; congr 1; omega
    rw [hie, List.drop_length_add_append]
    exact this

theorem enc_single {A : Nat → Prop} {e : Ty} {x : e.den} {us : List Value} (h : Enc w A e x us) : Enc w A (.arr 1 e) [x] us := by
  simp only [Enc]
  refine ⟨rfl, by simp [h.length], fun i y hy => ?_⟩
  cases i with
  | succ i => simp at hy
  | zero =>
    simp at hy; subst hy
    rw [Nat.zero_mul, List.drop_zero, List.take_of_length_le (by rw [h.length]; exact Nat.le_refl _)]
    exact h

theorem enc_nil {A : Nat → Prop} {e : Ty} : Enc w A (.arr 0 e) [] [] := by simp [Enc]

theorem Cells.append {b p : Nat} {us ts : List Value} (h : Cells w b p us) (k : Cells w b (p + us.length) ts) : Cells w b p (us ++ ts) := by
  intro j v hj
  by_cases hl : j < us.length
  · rw [List.getElem?_append_left hl] at hj; exact h j v hj
  · rw [List.getElem?_append_right (by omega)] at hj
    have := k _ v hj
    rwa [show p + us.length + (j - us.length) = p + j by omega] at this

theorem rows_of {A : Nat → Prop} {e : Ty} {b : Nat} : ∀ {xs : List e.den} {p : Nat}, (∀ i x, xs[i]? = some x → ∃ us, Enc w A e x us ∧ Cells w b (p + i * e.size) us) → ∃ us, Enc w A (.arr xs.length e) xs us ∧ Cells w b p us
  | [], p, _ => ⟨[], enc_nil, fun j v h => by simp at h⟩
  | x :: xs, p, h => by
    obtain ⟨us, h1, h2⟩ := h 0 x rfl
    obtain ⟨ts, k1, k2⟩ := rows_of (xs := xs) (p := p + e.size) fun i y hy => by
      obtain ⟨vs, q1, q2⟩ := h (i + 1) y (by simpa using hy)
      exact ⟨vs, q1, by rw [Nat.succ_mul] at q2; rwa [show p + e.size + i * e.size = p + (i * e.size + e.size) by omega]⟩
    refine ⟨us ++ ts, ?_, ?_⟩
    · have := enc_append (enc_single h1) k1
      rw [show (x :: xs).length = 1 + xs.length by simp; omega]
      exact this
    · refine Cells.append (by simpa using h2) ?_
      rw [h1.length]; exact k2

theorem rows_at {A : Nat → Prop} {e : Ty} {n b p : Nat} {xs : List e.den} {us : List Value} {w' : World} (h : Enc w A (.arr n e) xs us) (hc : Cells w' b p us) :
    ∀ i x, xs[i]? = some x → ∃ vs, Enc w A e x vs ∧ Cells w' b (p + i * e.size) vs := by
  simp only [Enc] at h
  intro i x hx
  exact ⟨_, h.2.2 i x hx, hc.sub _ _⟩

theorem enc_take {A : Nat → Prop} {e : Ty} {n m : Nat} {xs : List e.den} {us : List Value} (h : Enc w A (.arr n e) xs us) (hm : m ≤ n) : Enc w A (.arr m e) (xs.take m) (us.take (m * e.size)) := by
  simp only [Enc] at h ⊢
  obtain ⟨h1, h2, h3⟩ := h
  have hmn := Nat.mul_le_mul_right e.size hm
  refine ⟨by simp; omega, by simp; omega, fun i x hx => ?_⟩
  rw [List.getElem?_take] at hx
  split at hx
  · rename_i hi
    have hie : i * e.size + e.size ≤ m * e.size := by
      have := Nat.mul_le_mul_right e.size (show i + 1 ≤ m from hi)
      rw [Nat.succ_mul] at this; exact this
    rw [List.drop_take, List.take_take, Nat.min_eq_left (by omega)]
    exact h3 i x hx
  · cases hx

/-! ### What is appended -/
/-- The value is a slice (or a string) that yields the elements xs. -/
structure SrcOk (P : Program) (w : World) (A : Nat → Prop) (e : Ty) (xs : List e.den) (v : Value) (us : List Value) : Prop where
  enc : Enc w A (.arr xs.length e) xs us
  len : ∀ w' : World, (Builtin.lenOf v).run P w' = .ok xs.length w'
  get : ∀ n, n ≤ xs.length → ∀ w' : World, w'.heap = w.heap → (Builtin.firstCells e.size n v).run P w' = .ok (us.take (n * e.size)).toArray w'

theorem src_slice {A : Nat → Prop} {e : Ty} {xs : List e.den} {b p c : Nat} (h : ∀ i x, xs[i]? = some x → ∃ us, Enc w A e x us ∧ Cells w b (p + i * e.size) us) :
    ∃ us, SrcOk P w A e xs (.slice (some ⟨b, p, none⟩) xs.length c) us ∧ Cells w b p us := by
  obtain ⟨us, h1, h2⟩ := rows_of h
  refine ⟨us, ⟨h1, fun _ => rfl, fun n hn w' hw' => ?_⟩, h2⟩
  have hl := h1.length
  simp only [Ty.size] at hl
  have hmn := Nat.mul_le_mul_right e.size hn
  refine run_firstCells_some w' e.size n ⟨b, p, none⟩ xs.length c _ (by simp; omega) fun j v hj => ?_
  rw [List.getElem?_take] at hj
  split at hj
  · rw [addAt]
    have := h2 j v hj
    rw [World.cell?_of_block (w := w) (w' := w') (a := ⟨b, p + j, none⟩) (by rw [hw'])]
    exact this
  · cases hj

theorem src_nil {A : Nat → Prop} {e : Ty} {c : Nat} : SrcOk P w A e [] (.slice none 0 c) [] :=
  ⟨enc_nil, fun _ => rfl, fun n hn w' _ => by simp at hn; subst hn; simpa using run_firstCells_none (P := P) w' e.size 0 0 c⟩

theorem row_src {A : Nat → Prop} {e : Ty} {xs : List e.den} {l : Loc} (h : ArrOk w A e xs l) : ∃ us, SrcOk P w A e xs (.slice (base l) l.len l.cap) us := by
  obtain ⟨h1, h2, h3, ⟨hb, rfl, hc⟩ | ⟨b, vs, el, fz, hb, hh, _, hs, hx⟩⟩ := h
  · simp only [List.length_nil] at h1
    rw [base, hb, h1]
    exact ⟨_, src_nil⟩
  · rw [base, hb, h1]
    obtain ⟨us, hu, _⟩ := src_slice (P := P) (p := 0) (c := l.cap) fun i x hi => by
      obtain ⟨us, q1, q2⟩ := hx i x hi
      exact ⟨us, q1, by simpa using q2⟩
    exact ⟨us, hu⟩

theorem content_src (I : Inv S w0 ι T w) {e : Ty} {lf : Leaf} {xs : List e.den} {v : Value} (h : content T e lf = some xs) (r : RelL w (Av S ι) ι lf [v]) : ∃ us, SrcOk P w (Av S ι) e xs v us := by
  cases lf <;> simp only [content] at h <;> try (cases h; done)
  case sl e' zs =>
    obtain ⟨rfl, rfl⟩ := castL_some h
    simp only [RelL, Enc] at r
    rcases r with ⟨rfl, r⟩ | ⟨b, p, c, r, _, _, _, hx⟩
    · rw [List.singleton_inj.1 r]; exact ⟨_, src_nil⟩
    · rw [List.singleton_inj.1 r]
      obtain ⟨us, hu, _⟩ := src_slice (P := P) (c := c) hx
      exact ⟨us, hu⟩
  case nils => cases h; simp only [RelL] at r; rw [List.singleton_inj.1 r]; exact ⟨_, src_nil⟩
  case own n =>
    split at h
    · rename_i b' e' ys hT
      obtain ⟨rfl, rfl⟩ := castL_some h
      obtain ⟨l, hl, ho⟩ := I.ent n _ hT
      simp only [RelL] at r
      rw [List.singleton_inj.1 (r.2.2 l hl)]
      exact row_src ho
    · cases h
  case view n lo hi =>
    split at h
    · rename_i b' e' ys hT
      obtain ⟨zs, hz, rfl⟩ := Option.map_eq_some_iff.1 h
      obtain ⟨rfl, rfl⟩ := castL_some hz
      obtain ⟨l, hl, ho⟩ := I.ent n _ hT
      simp only [RelL] at r
      obtain ⟨h0, h1, h2, h3⟩ := r.2.2 l hl
      obtain ⟨k1, k2, k3, k4⟩ := ho
      have hlen := slc_length zs lo hi h0 h1 (by rw [k1] at h2; exact h2)
      rcases h3 with ⟨hb, hv⟩ | ⟨b, p, c, hb, hv, hc, ho⟩
      · rcases k4 with ⟨_, rfl, _⟩ | ⟨b, _, _, _, hb', _⟩
        · rw [List.singleton_inj.1 hv]
          rw [show slc ([] : List e'.den) lo hi = [] by simp [slc]]
          exact ⟨_, src_nil⟩
        · rw [hb] at hb'; cases hb'
      · rcases k4 with ⟨hb', _⟩ | ⟨b', vs', el, fz, hb', hh, _, hs, hx⟩
        · rw [hb] at hb'; cases hb'
        · rw [hb] at hb'
          cases hb'
          rw [List.singleton_inj.1 hv, ← hlen]
          obtain ⟨us, hu, _⟩ := src_slice (P := P) (w := w) (A := Av S ι) (b := b) (p := p) (c := c) (xs := slc zs lo hi) fun i x hi' => by
            have hx' := slc_get zs lo hi i x hi'
            obtain ⟨us, q1, q2⟩ := hx _ x hx'
            have hil : i < (slc zs lo hi).length := (List.getElem?_eq_some_iff.1 hi').1
            have hlt : lo < hi := by omega
            refine ⟨us, q1, ?_⟩
            rw [ho hlt, k2, ← Nat.add_mul]
            exact q2
          exact ⟨us, hu⟩
    · cases h

theorem enc_bytes {A : Nat → Prop} (s : ByteArray) : Enc w A (.arr (bytesOf s).length (.int .u8)) (bytesOf s) (byteCells s) := by
  simp only [Enc, Ty.size]
  refine ⟨trivial, by simp [bytesOf, byteCells], fun i x hx => ?_⟩
  simp only [bytesOf, List.getElem?_map] at hx
  obtain ⟨y, hy, rfl⟩ := Option.map_eq_some_iff.1 hx
  apply List.ext_getElem?
  intro j
  rw [List.getElem?_take, List.getElem?_drop]
  cases j with
  | zero => simp [byteCells, hy]
  | succ j => simp

theorem bytesOf_length (s : ByteArray) : (bytesOf s).length = s.size := by
  unfold bytesOf
  rw [List.length_map, Array.length_toList]
  rfl

theorem src_string {A : Nat → Prop} (s : ByteArray) : SrcOk P w A (.int .u8) (bytesOf s) (.string s) (byteCells s) := by
  refine ⟨enc_bytes s, fun _ => by rw [bytesOf_length]; rfl, fun n hn w' _ => ?_⟩
  have hn' : n ≤ s.data.toList.length := by simpa [bytesOf] using hn
  simp [Builtin.firstCells, byteCells, Ty.size]
  apply Array.ext'
  simp [list_extract]

theorem source_src (I : Inv S w0 ι T w) {e : Ty} {x : Val} {xs : List e.den} {v : Value} (h : source T e x = some xs) (r : RelV w (Av S ι) ι x v) : ∃ us, SrcOk P w (Av S ι) e xs v us := by
  unfold source at h
  split at h
  · rename_i s
    obtain ⟨he, rfl⟩ := castL_some h
    subst he
    rw [rel_str r]
    exact ⟨_, src_string s⟩
  · exact content_src I h (RelC.leaf r)
  · cases h

theorem SrcOk.src {A : Nat → Prop} {e : Ty} {xs : List e.den} {v : Value} {us : List Value} (h : SrcOk P w A e xs v us) {t2 : TypeId} (hk : (∃ e', P.underlying t2 = some (.slice e')) ∨ P.underlying t2 = some .string) :
    Src P e.size t2 v xs.length us w := by
  have hl := h.enc.length
  simp only [Ty.size] at hl
  have ht : us.take (xs.length * e.size) = us := List.take_of_length_le (by omega)
  exact ⟨hk, h.len, by simpa [ht] using h.get xs.length (Nat.le_refl _) w rfl, by simpa [ht] using h.get xs.length (Nat.le_refl _) w.drew rfl, hl, h.enc.one⟩

theorem seq_kind (hE : TysOk P E) {t2 : TypeId} (h : Ty.seq (E.ty t2) = true) : (∃ e', P.underlying t2 = some (.slice e')) ∨ P.underlying t2 = some .string := by
  cases ht : E.ty t2 with
  | none => rw [ht] at h; cases h
  | some τ =>
    rw [ht] at h
    cases τ <;> try (cases h; done)
    · exact .inr (hE.at ht).str
    · obtain ⟨te, hu, _⟩ := (hE.at ht).sl
      exact .inl ⟨te, hu⟩

/-! ### Names change hands -/
theorem Inv.drop (I : Inv S w0 ι T w) (n : Nat) : Inv S w0 (fun m => if m = n then none else ι m) (upd T [(n, none)]) w ∧ Turn w w (Av S ι) (Av S fun m => if m = n then none else ι m) := by
  have ht : Turn w w (Av S ι) (Av S fun m => if m = n then none else ι m) := Turn.less w fun b hb => by
    rcases hb with hb | ⟨m, l, hm, hb⟩
    · exact .inl hb
    · by_cases hmn : m = n
      · simp [hmn] at hm
      · simp [hmn] at hm; exact .inr ⟨m, l, hm, hb⟩
  refine ⟨I.step (Below.refl _ _) ht (fun m l b hm hb => ?_) (fun m m' l l' b hm hm' hb hb' => ?_) (fun m p hp => ?_) (fun m l hm => ?_), ht⟩
  · by_cases hmn : m = n
    · simp [hmn] at hm
    · simp [hmn] at hm; exact I.fresh m l b hm hb
  · by_cases hmn : m = n
    · simp [hmn] at hm
    · by_cases hmn' : m' = n
      · simp [hmn'] at hm'
      · simp [hmn] at hm; simp [hmn'] at hm'
        exact I.inj m m' l l' b hm hm' hb hb'
  · by_cases hmn : m = n
    · subst hmn; simp only [upd, lk, Nat.beq_refl] at hp; cases hp
    · have e1 : Nat.beq n m = false := by cases hb : Nat.beq n m; rfl; exact absurd (Nat.eq_of_beq_eq_true hb).symm hmn
      simp only [upd, lk, e1] at hp
      refine .inl ⟨p, hp, rfl, by simp [hmn], fun q _ => ?_, fun _ _ _ _ => rfl⟩
      by_cases hq : q = n
      · exact .inr (by simp [hq])
      · exact .inl (by simp [hq])
  · by_cases hmn : m = n
    · simp [hmn] at hm
    · simp [hmn] at hm
      simp only [upd, lk]
      have : Nat.beq n m = false := by cases hb : Nat.beq n m; rfl; exact absurd (Nat.eq_of_beq_eq_true hb).symm hmn
      rw [this]
      exact I.dom m l hm

theorem upd_two {n : Nat} {p : Bool × Entry} {e : Entry} (hn : T n = some p) (hnm : T nm = none) : upd (upd T [(n, none)]) [(nm, some e)] = upd T [(n, none), (nm, some e)] := by
  have hne : ¬ n = nm := fun h => by subst h; rw [hn] at hnm; cases hnm
  funext m
  simp only [upd, lk]
  cases h1 : Nat.beq nm m <;> cases h2 : Nat.beq n m <;> simp
  exact hne ((Nat.eq_of_beq_eq_true h2).trans (Nat.eq_of_beq_eq_true h1).symm)

/-- A row goes on under a new name, in the same block. -/
theorem Inv.swap {w' : World} (I : Inv S w0 ι T w) {n : Nat} {l l' : Loc} {e : Entry} {fl : Bool} {e0 : Entry} (hT : T n = some (fl, e0)) (hl : ι n = some l) (hnm : T nm = none) (hfr : ∀ m p, T m = some p → ∀ q ∈ entNames p.2, q ≠ nm) (hbl : l'.blk = l.blk)
    (hw : (∀ k, l.blk ≠ some k → w'.heap[k]? = w.heap[k]?) ∧ w'.heap.size = w.heap.size ∧ w'.os = w.os ∧ w'.tape = w.tape ∧ w'.output = w.output)
    (he : ∀ ι' : Inj, ι' nm = some l' → Turn w w' (Av S ι) (Av S ι') → EntOk w' (Av S ι') ι' nm e) :
    ∃ ι' : Inj, ι' nm = some l' ∧ (∀ m, ι' m = ι m ∨ ι' m = none ∨ m = nm) ∧ Inv S w0 ι' (upd T [(n, none), (nm, some e)]) w' ∧ Turn w w' (Av S ι) (Av S ι') := by
  obtain ⟨h1, h2, h3, h4, h5⟩ := hw
  have hne : ¬ n = nm := fun h => by subst h; rw [hT] at hnm; cases hnm
  have hιn : ι nm = none := by
    cases h : ι nm with
    | none => rfl
    | some l' => have := I.dom nm l' h; rw [hnm] at this; cases this
  have ht : Turn w w' (Av S ι) (Av S fun m => if m = nm then some l' else if m = n then none else ι m) := by
    refine ⟨by omega, fun k hk hA => h1 k fun hkb => hA (.inr ⟨n, l, hl, hkb⟩), fun k hk hA => ?_⟩
    rcases hA with hA | ⟨m, q, hm, hb⟩
    · exact .inl hA
    · by_cases hmn : m = nm
      · simp [hmn] at hm; subst hm; exact .inr ⟨n, l, hl, by rw [← hbl]; exact hb⟩
      · by_cases hm2 : m = n
        · subst hm2; simp [hne] at hm
        · simp [hmn, hm2] at hm; exact .inr ⟨m, q, hm, hb⟩
  refine ⟨fun m => if m = nm then some l' else if m = n then none else ι m, by simp, fun m => ?_, I.step ⟨h3, h4, h5, by omega, fun k hk => h1 k fun hkb => ?_⟩ ht (fun m q b hm hb => ?_) (fun m m' q q' b hm hm' hb hb' => ?_) (fun m p hp => ?_) (fun m q hm => ?_), ht⟩
  · by_cases hmn : m = nm
    · exact .inr (.inr hmn)
    · by_cases hm2 : m = n
      · exact .inr (.inl (by simp [hmn, hm2, hne]))
      · exact .inl (by simp [hmn, hm2])
  · have := (I.fresh n l k hl hkb).1; omega
  · rw [h2]
    by_cases hmn : m = nm
    · simp [hmn] at hm; subst hm; exact I.fresh n l b hl (by rw [← hbl]; exact hb)
    · by_cases hm2 : m = n
      · subst hm2; simp [hne] at hm
      · simp [hmn, hm2] at hm; exact I.fresh m q b hm hb
  · by_cases hmn : m = nm <;> by_cases hmn' : m' = nm
    · rw [hmn, hmn']
    · simp [hmn] at hm; subst hm
      by_cases hm2 : m' = n
      · subst hm2; simp [hne] at hm'
      · simp [hmn', hm2] at hm'
        exact absurd (I.inj n m' l q' b hl hm' (by rw [← hbl]; exact hb) hb').symm hm2
    · simp [hmn'] at hm'; subst hm'
      by_cases hm2 : m = n
      · subst hm2; simp [hne] at hm
      · simp [hmn, hm2] at hm
        exact absurd (I.inj n m l q b hl hm (by rw [← hbl]; exact hb') hb).symm hm2
    · by_cases hm2 : m = n
      · subst hm2; simp [hne] at hm
      · by_cases hm3 : m' = n
        · subst hm3; simp [hne] at hm'
        · simp [hmn, hm2] at hm; simp [hmn', hm3] at hm'
          exact I.inj m m' q q' b hm hm' hb hb'
  · by_cases hm2 : m = n
    · subst hm2; simp only [upd, lk, Nat.beq_refl] at hp; cases hp
    · have e1 : Nat.beq n m = false := by cases hb : Nat.beq n m; rfl; exact absurd (Nat.eq_of_beq_eq_true hb).symm hm2
      by_cases hmn : m = nm
      · subst hmn
        simp only [upd, lk, e1, Nat.beq_refl, Option.some.injEq] at hp
        subst hp
        exact .inr (he _ (by simp) ht)
      · have e2 : Nat.beq nm m = false := by cases hb : Nat.beq nm m; rfl; exact absurd (Nat.eq_of_beq_eq_true hb).symm hmn
        simp only [upd, lk, e1, e2] at hp
        refine .inl ⟨p, hp, rfl, by simp [hmn, hm2], fun q hq => ?_, fun l2 b hl2 hb2 => h1 b fun hkb => hm2 (I.inj m n l2 l b hl2 hl hb2 hkb)⟩
        have hqn := hfr m p hp q hq
        by_cases hq2 : q = n
        · exact .inr (by subst hq2; simp [hqn])
        · exact .inl (by simp [hqn, hq2])
  · simp only [upd, lk]
    by_cases hm2 : m = n
    · subst hm2; simp [hne] at hm
    · have e1 : Nat.beq n m = false := by cases hb : Nat.beq n m; rfl; exact absurd (Nat.eq_of_beq_eq_true hb).symm hm2
      by_cases hmn : m = nm
      · subst hmn; simp [e1, Nat.beq_refl]
      · have e2 : Nat.beq nm m = false := by cases hb : Nat.beq nm m; rfl; exact absurd (Nat.eq_of_beq_eq_true hb).symm hmn
        simp [hmn, hm2] at hm
        simp only [e1, e2]
        exact I.dom m q hm

end
end Go.Proofs.Ytacmfiddaklkiab.Lift
