/- 'Lift': operations that make or write memory. -/
import Derived.Test.YtacmfiddaklkiabLOp6
set_option linter.unusedVariables false
set_option linter.unusedSimpArgs false
namespace Go.Proofs.Ytacmfiddaklkiab.Lift
open Go Go.RowKit

section
variable {P : Program} {S : Nat → Prop} {w0 w : World} {ι : Inj} {T : Tab} {nm : Nat} {o : Oper} {a : Act} {N : Nat → Prop} {ρ : Type} {r : ρ} {E : Env}

theorem ArrOk.turn {w w' : World} {A A' : Nat → Prop} {e : Ty} {xs : List e.den} {l : Loc} (h : ArrOk w A e xs l) (t : Turn w w' A A') (hk : ∀ b, l.blk = some b → w'.heap[b]? = w.heap[b]?) : ArrOk w' A' e xs l := by
  obtain ⟨k1, k2, k3, k4⟩ := h
  refine ⟨k1, k2, k3, ?_⟩
  rcases k4 with k4 | ⟨b, vs', el, fz, hb, hh, hf, hs, hx⟩
  · exact .inl k4
  · have he := hk b hb
    refine .inr ⟨b, vs', el, fz, hb, by rw [he, hh], hf, hs, fun i x hi => ?_⟩
    obtain ⟨us', q1, q2⟩ := hx i x hi
    exact ⟨us', q1.turn t, q2.turn he⟩

theorem EntOk.turn {w w' : World} {A A' : Nat → Prop} {ι ι' : Inj} {n : Nat} {e : Entry} (h : EntOk w A ι n e) (t : Turn w w' A A') (hn : ι' n = ι n) (hm : ∀ m ∈ entNames e, ι' m = ι m ∨ ι' m = none)
    (hk : ∀ l b, ι n = some l → l.blk = some b → w'.heap[b]? = w.heap[b]?) : EntOk w' A' ι' n e := by
  cases e with
  | box cs =>
    obtain ⟨l, b, vs, el, fz, hl, hb, hh, hf, hc⟩ := h
    exact ⟨l, b, vs, el, fz, by rw [hn, hl], hb, by rw [hk l b hl hb, hh], hf, hc.turn t hm⟩
  | arr e xs =>
    obtain ⟨l, hl, ho⟩ := h
    exact ⟨l, by rw [hn, hl], ho.turn t fun b hb => hk l b hl hb⟩

theorem Inv.step {T' : Tab} {ι' : Inj} {w' : World} (I : Inv S w0 ι T w) (hb : Below w0.heap.size w w') (ht : Turn w w' (Av S ι) (Av S ι'))
    (fresh : ∀ n l b, ι' n = some l → l.blk = some b → w0.heap.size ≤ b ∧ b < w'.heap.size)
    (inj : ∀ n m l l' b, ι' n = some l → ι' m = some l' → l.blk = some b → l'.blk = some b → n = m)
    (ent : ∀ n p, T' n = some p → (∃ q, T n = some q ∧ q.2 = p.2 ∧ ι' n = ι n ∧ (∀ m ∈ entNames p.2, ι' m = ι m ∨ ι' m = none) ∧ (∀ l b, ι n = some l → l.blk = some b → w'.heap[b]? = w.heap[b]?)) ∨ EntOk w' (Av S ι') ι' n p.2)
    (dom : ∀ n l, ι' n = some l → (T' n).isSome = true) : Inv S w0 ι' T' w' := by
  refine ⟨I.below.trans hb, I.low, fresh, inj, fun n p hp => ?_, dom⟩
  rcases ent n p hp with ⟨q, h1, h2, h3, h4, h5⟩ | h
  · rw [← h2]
    exact (I.ent n q h1).turn ht h3 (by rw [h2]; exact h4) h5
  · exact h

/-- One entry is written; its block alone has turned. -/
theorem Inv.write {w' : World} (I : Inv S w0 ι T w) {n b : Nat} {l : Loc} {e : Entry} {fl : Bool} {e0 : Entry} (hT : T n = some (fl, e0)) (hl : ι n = some l) (hb : l.blk = some b)
    (hw : (∀ k, k ≠ b → w'.heap[k]? = w.heap[k]?) ∧ w'.heap.size = w.heap.size ∧ w'.os = w.os ∧ w'.tape = w.tape ∧ w'.output = w.output) (he : EntOk w' (Av S ι) ι n e) :
    Inv S w0 ι (upd T [(n, some e)]) w' ∧ Turn w w' (Av S ι) (Av S ι) := by
  obtain ⟨h1, h2, h3, h4, h5⟩ := hw
  have hge := (I.fresh n l b hl hb).1
  have ht : Turn w w' (Av S ι) (Av S ι) := ⟨by omega, fun k hk hA => h1 k fun hkb => hA (.inr ⟨n, l, hl, by rw [hkb]; exact hb⟩), fun _ _ h => h⟩
  refine ⟨I.step ⟨h3, h4, h5, by omega, fun k hk => h1 k (by omega)⟩ ht (fun m l' b' hm hb' => by have := I.fresh m l' b' hm hb'; omega) I.inj (fun m p hp => ?_) (fun m l' hm => ?_), ht⟩
  · simp only [upd, lk] at hp
    by_cases hmn : m = n
    · subst hmn
      rw [show Nat.beq m m = true from Nat.beq_refl m] at hp
      simp only [Option.some.injEq] at hp
      subst hp
      exact .inr he
    · have : Nat.beq n m = false := by cases hb : Nat.beq n m; rfl; exact absurd (Nat.eq_of_beq_eq_true hb).symm hmn
      rw [this] at hp
      refine .inl ⟨p, hp, rfl, rfl, fun _ _ => .inl rfl, fun l' b' hl' hb' => h1 b' fun hbb => hmn (I.inj m n l' l b hl' hl (by rw [← hbb]; exact hb') hb)⟩
  · simp only [upd, lk]
    cases hb : Nat.beq n m
    · exact I.dom m l' hm
    · rfl

/-- A block is new; some draws may have been made. -/
theorem Inv.alloc {w' : World} (I : Inv S w0 ι T w) {l : Loc} {e : Entry} {ob : Obj} (hnm : T nm = none) (hfr : ∀ m p, T m = some p → ∀ q ∈ entNames p.2, q ≠ nm) (hb : l.blk = some w.heap.size)
    (hw : w'.heap = w.heap.push ob ∧ w'.os = w.os ∧ w'.tape = w.tape ∧ w'.output = w.output)
    (he : ∀ ι' : Inj, ι' nm = some l → (∀ m, m ≠ nm → ι' m = ι m) → Turn w w' (Av S ι) (Av S ι') → EntOk w' (Av S ι') ι' nm e) :
    ∃ ι' : Inj, ι' nm = some l ∧ (∀ m, m ≠ nm → ι' m = ι m) ∧ Inv S w0 ι' (upd T [(nm, some e)]) w' ∧ Turn w w' (Av S ι) (Av S ι') := by
  obtain ⟨h1, h2, h3, h4⟩ := hw
  have hιn : ι nm = none := by
    cases h : ι nm with
    | none => rfl
    | some l' => have := I.dom nm l' h; rw [hnm] at this; cases this
  have hsz : w'.heap.size = w.heap.size + 1 := by rw [h1]; simp
  have hold : ∀ k, k < w.heap.size → w'.heap[k]? = w.heap[k]? := fun k hk => by rw [h1, Array.getElem?_push, if_neg (by omega)]
  refine ⟨fun m => if m = nm then some l else ι m, by simp, fun m hm => by simp [hm], ?_⟩
  have ht : Turn w w' (Av S ι) (Av S fun m => if m = nm then some l else ι m) := by
    refine ⟨by omega, fun k hk _ => hold k hk, fun k hk hA => ?_⟩
    rcases hA with hA | ⟨m, l', hm, hb'⟩
    · exact .inl hA
    · by_cases hmn : m = nm
      · simp [hmn] at hm
        subst hm
        rw [hb] at hb'
        cases hb'
        omega
      · simp [hmn] at hm
        exact .inr ⟨m, l', hm, hb'⟩
  have hle : w0.heap.size ≤ w.heap.size := I.below.size
  refine ⟨I.step ⟨h2, h3, h4, by omega, fun k hk => hold k (by omega)⟩ ht (fun m l' b' hm hb' => ?_) (fun m m' l1 l2 b' hm hm' hb1 hb2 => ?_) (fun m p hp => ?_) (fun m l' hm => ?_), ht⟩
  · by_cases hmn : m = nm
    · simp [hmn] at hm
      subst hm
      rw [hb] at hb'
      cases hb'
      omega
    · simp [hmn] at hm
      have := I.fresh m l' b' hm hb'
      omega
  · by_cases hmn : m = nm <;> by_cases hmn' : m' = nm
    · rw [hmn, hmn']
    · simp [hmn] at hm; simp [hmn'] at hm'
      subst hm
      rw [hb] at hb1; cases hb1
      have := I.fresh m' l2 _ hm' hb2
      omega
    · simp [hmn] at hm; simp [hmn'] at hm'
      subst hm'
      rw [hb] at hb2; cases hb2
      have := I.fresh m l1 _ hm hb1
      omega
    · simp [hmn] at hm; simp [hmn'] at hm'
      exact I.inj m m' l1 l2 b' hm hm' hb1 hb2
  · simp only [upd, lk] at hp
    by_cases hmn : m = nm
    · subst hmn
      rw [show Nat.beq m m = true from Nat.beq_refl m] at hp
      simp only [Option.some.injEq] at hp
      subst hp
      exact .inr (he _ (by simp) (fun m hm => by simp [hm]) ht)
    · have : Nat.beq nm m = false := by cases hb : Nat.beq nm m; rfl; exact absurd (Nat.eq_of_beq_eq_true hb).symm hmn
      rw [this] at hp
      refine .inl ⟨p, hp, rfl, by simp [hmn], fun q hq => .inl (by simp [hfr m p hp q hq]), fun l' b' hl' hb' => hold b' (I.fresh m l' b' hl' hb').2⟩
  · simp only [upd, lk]
    cases hb : Nat.beq nm m
    · have hmn : ¬ m = nm := fun h => by rw [h, Nat.beq_refl] at hb; cases hb
      simp [hmn] at hm
      exact I.dom m l' hm
    · rfl

theorem val_cells {A : Nat → Prop} {ag : Bool} {cs : List Leaf} {v : Value} (h : RelV w A ι (.v ag cs) v) (hok : cs.all Leaf.ok = true) : RelC w A ι cs v.cells.toList := by
  cases ag with
  | true => obtain ⟨vs, rfl, hr⟩ := h; exact hr
  | false =>
    have hr : RelC w A ι cs [v] := h
    have h1 := RelC.one hr hok v (by simp)
    have : v.cells = #[v] := by cases v <;> first | rfl | (simp [Value.oneCell'] at h1)
    rw [this]
    exact hr

/-- A new variable. -/
theorem good_new (I : Inv S w0 ι T w) (hnm : ∀ n, In16 nm n → T n = none) (hfr : ∀ m p, T m = some p → ∀ q ∈ entNames p.2, ¬ In16 nm q) {cs : List Leaf} {vs : Array Value} {el : TypeId} {K : Val → List (Nat × Option Entry) → Option ρ}
    (h : K (.v false [.ptr nm 0]) [(nm, some (.box cs))] = some r) (hrun : (execOp a.eval o).run P w = .ok (.value (.pointer (some ⟨w.heap.size, 0, none⟩))) { w with heap := w.heap.push (.cells vs el) })
    (hr : RelC w (Av S ι) ι cs vs.toList) (hN : ∀ n ∈ namesV cs, N n) (hNnm : ∀ n, N n → ¬ In16 nm n) : Good P S w0 ι T w nm o a N K r := by
  have hin : In16 nm nm := ⟨Nat.le_refl _, by omega⟩
  refine ⟨_, _, h, fun next Q hn => ?_, ⟨by intro n hn; simp [namesOf, namesV] at hn; subst hn; exact .inr hin, ?_⟩, fun p hp => by simp at hp; subst hp; exact .inl hin⟩
  · show o.upon P a next Q ((execOp a.eval o).run P w)
    rw [hrun]
    obtain ⟨ι', hι, hι', I', ht⟩ := I.alloc (l := ⟨some w.heap.size, 0, 0, 0⟩) (e := .box cs) (ob := .cells vs el) (w' := { w with heap := w.heap.push (.cells vs el) }) (hnm nm hin)
      (fun m p hp q hq hqn => hfr m p hp q hq (by rw [hqn]; exact hin)) rfl ⟨rfl, rfl, rfl, rfl⟩
      (fun ι' h1 h2 ht => ⟨_, w.heap.size, vs, el, (0, 0), h1, rfl, by simp, fun q _ hq => by simp at hq, hr.turn ht fun m hm => .inl (h2 m fun hmn => hNnm m (hN m hm) (by rw [hmn]; exact hin))⟩)
    refine hn _ _ ι' I' ht (fun n => ?_) (rel1 ⟨rfl, by simp [Value.oneCell'], fun l hl => ?_⟩)
    · by_cases hnn : n = nm
      · exact .inr (.inr (by rw [hnn]; exact hin))
      · exact .inl (hι' n hnn)
    · rw [hι] at hl; cases hl
      exact ⟨_, rfl, rfl⟩
  · intro p hp
    simp at hp
    subst hp
    exact ⟨.inr hin, fun e he n hn => by cases he; exact .inl (hN n hn)⟩

theorem good_alloc (hE : TysOk P E) (I : Inv S w0 ι T w) (hnm : ∀ n, In16 nm n → T n = none) (hfr : ∀ m p, T m = some p → ∀ q ∈ entNames p.2, ¬ In16 nm q) (hNnm : ∀ n, N n → ¬ In16 nm n)
    {t : TypeId} {τ : Ty} {K : Val → List (Nat × Option Entry) → Option ρ} (hop : o.op = .alloc t) (ht : E.ty t = some τ) (h : K (.v false [.ptr nm 0]) [(nm, some (.box (zeroC τ)))] = some r) : Good P S w0 ι T w nm o a N K r := by
  obtain ⟨i, hi⟩ := (hE.at ht).info
  obtain ⟨z, hz, h1, h2⟩ := hi.zero
  have hr : RelC w (Av S ι) ι (zeroC τ) z.cells.toList := by
    cases ha : τ.agg with
    | true =>
      obtain ⟨cs, rfl, hc⟩ := h1 ha
      obtain ⟨us, e, hr⟩ := zeroChk_rel (w := w) (A := Av S ι) (ι := ι) hc
      rw [List.append_nil] at e
      show RelC w (Av S ι) ι (zeroC τ) cs.toList
      rw [e]; exact hr
    | false =>
      obtain ⟨hc, hcz⟩ := h2 ha
      obtain ⟨us, e, hr⟩ := zeroChk_rel (w := w) (A := Av S ι) (ι := ι) hc
      rw [List.append_nil] at e
      rw [hcz]
      show RelC w (Av S ι) ι (zeroC τ) [z]
      rw [e]; exact hr
  refine good_new I hnm hfr h (vs := z.cells) (el := t) ?_ hr (by rw [names_zeroC]; simp) hNnm
  simp only [execOp, hop, Instr.alloc]
  simp [zeroValue, typeInfo, hi.info, hz, newVar, newRow]

theorem good_box (hE : TysOk P E) (I : Inv S w0 ι T w) (hnm : ∀ n, In16 nm n → T n = none) (hfr : ∀ m p, T m = some p → ∀ q ∈ entNames p.2, ¬ In16 nm q) (hNnm : ∀ n, N n → ¬ In16 nm n)
    {t : TypeId} {x : Operand} {ev : Operand → Val} {ag : Bool} {cs : List Leaf} {K : Val → List (Nat × Option Entry) → Option ρ} (hop : o.op = .box t x) (ex : ev x = .v ag cs) (hok : cs.all Leaf.ok = true)
    (hx : RelV w (Av S ι) ι (ev x) (a.eval x)) (hN : ∀ n ∈ namesOf (ev x), N n) (h : K (.v false [.ptr nm 0]) [(nm, some (.box cs))] = some r) : Good P S w0 ι T w nm o a N K r := by
  rw [ex] at hx hN
  refine good_new I hnm hfr h (vs := (a.eval x).cells) (el := t) ?_ (val_cells hx hok) hN hNnm
  simp only [execOp, hop, Instr.box]
  simp [newVar, newRow]

theorem setCells_heap (b : Nat) : ∀ (us : List Value) (off : Nat) (w : World) {vs : Array Value} {el : TypeId} {fz : Nat × Nat}, w.heap[b]? = some (.cells vs el fz) → off + us.length ≤ vs.size →
    (w.setCells b off us).heap[b]? = some (.cells (vs.toList.take off ++ (us ++ vs.toList.drop (off + us.length))).toArray el fz) ∧
    (∀ k, k ≠ b → (w.setCells b off us).heap[k]? = w.heap[k]?) ∧ (w.setCells b off us).heap.size = w.heap.size ∧ (w.setCells b off us).os = w.os ∧ (w.setCells b off us).tape = w.tape ∧ (w.setCells b off us).output = w.output
  | [], off, w, vs, el, fz, h, _ => ⟨by simp [World.setCells, h], fun _ _ => rfl, rfl, rfl, rfl, rfl⟩
  | u :: us, off, w, vs, el, fz, h, hl => by
    have hlt : off < vs.size := by simp at hl; omega
    have h1 : (w.setCell ⟨b, off, none⟩ u).heap[b]? = some (.cells (vs.setIfInBounds off u) el fz) := by
      simp [World.setCell, Array.getElem?_modify, h]
    obtain ⟨k1, k2, k3, k4, k5, k6⟩ := setCells_heap b us (off + 1) (w.setCell ⟨b, off, none⟩ u) h1 (by simp at hl ⊢; omega)
    refine ⟨?_, ?_, ?_, ?_, ?_, ?_⟩
    · rw [World.setCells, k1]
      congr 2
      apply Array.ext'
      simp only [List.toList_toArray, Array.toList_setIfInBounds, List.length_cons]
      rw [List.take_add_one, List.getElem?_set_self (by simpa using hlt), List.take_set_of_le (Nat.le_refl _), List.drop_set_of_lt (by omega), show off + 1 + us.length = off + (us.length + 1) by omega]
      simp
    · intro k hk
      rw [World.setCells, k2 k hk]
      exact Below.heap_setCell _ _ _ _ hk
    · rw [World.setCells, k3]; simp [World.setCell]
    · rw [World.setCells, k4]; rfl
    · rw [World.setCells, k5]; rfl
    · rw [World.setCells, k6]; rfl

end
end Go.Proofs.Ytacmfiddaklkiab.Lift
