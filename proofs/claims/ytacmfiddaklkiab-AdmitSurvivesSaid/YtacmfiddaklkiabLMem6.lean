/- 'Lift': literals. -/
import Derived.Test.YtacmfiddaklkiabLMem5
import Derived.Great.BuildSlice
set_option linter.unusedVariables false
set_option linter.unusedSimpArgs false
namespace Go.Proofs.Ytacmfiddaklkiab.Lift
open Go Go.RowKit

section
variable {P : Program} {S : Nat → Prop} {w0 w : World} {ι : Inj} {T : Tab} {nm : Nat} {o : Oper} {a : Act} {N : Nat → Prop} {ρ : Type} {r : ρ} {E : Env}

theorem fill_put (off : Nat) (us cells : Array Value) (h : off + us.size ≤ cells.size) :
    (us.zipIdx.foldl (fun cs (x : Value × Nat) => cs.setIfInBounds (off + x.2) x.1) cells).toList = cells.toList.take off ++ (us.toList ++ cells.toList.drop (off + us.toList.length)) := by
  obtain ⟨g1, g2⟩ := Great.foldl_set off us.toList 0 cells
  rw [← Array.foldl_toList, Array.toList_zipIdx]
  apply List.ext_getElem?
  intro p
  rw [splice_get _ _ _ _ (by simpa using h), Array.getElem?_toList, g2 p]
  simp only [Nat.add_zero, Array.length_toList, Array.getElem?_toList]
  by_cases h1 : p < off
  · rw [if_neg (by omega), if_pos h1]
  · rw [if_neg h1]
    by_cases h2 : p < off + us.size
    · rw [if_pos ⟨by omega, h2, by omega⟩, if_pos h2]
    · rw [if_neg (by omega), if_neg h2]

/-! ### Structs -/
theorem fields_places (hE : TysOk P E) : ∀ {c : Ty} {fs : List Field} {off : Nat}, FldOk P c fs off → ∃ pl, fs.mapM (fun f => (P.info? f.type).map fun i => (f.offset, i.size)) = some pl ∧ ∀ j o φ, fieldAt c j off = some (o, φ) → pl[j]? = some (o, φ.size) := by
  have key : ∀ (fs : List Field) (n : Nat) (c : Ty) (off : Nat), tyChk P n c (.inr (fs, off)) = true → ∀ f ∈ fs, (P.info? f.type).isSome = true := by
    intro fs
    induction fs with
    | nil => intro n c off h f hf; cases hf
    | cons g fs ih =>
      intro n c off h f hf
      cases n with
      | zero => simp [tyChk] at h
      | succ n =>
        have hg : ∀ φ, tyChk P n φ (.inl g.type) = true → (P.info? g.type).isSome = true := by
          intro φ hφ
          obtain ⟨i, hi⟩ := TyOk.info ⟨n, hφ⟩
          rw [hi.info]; rfl
        cases c with
        | pair x y =>
          simp only [tyChk, Bool.and_eq_true] at h
          rcases List.mem_cons.1 hf with rfl | hf
          · exact hg _ h.1.2
          · exact ih n y _ h.2 f hf
        | _ =>
          cases fs with
          | cons g' r => simp [tyChk] at h
          | nil =>
            simp only [tyChk, Bool.and_eq_true] at h
            rcases List.mem_cons.1 hf with rfl | hf
            · exact hg _ h.2
            · cases hf
  intro c fs off h
  have hall : ∀ f ∈ fs, (P.info? f.type).isSome = true := by obtain ⟨n, h⟩ := h; exact key fs n c off h
  have hm : ∀ (l : List Field), (∀ f ∈ l, (P.info? f.type).isSome = true) → ∃ pl, l.mapM (fun f => (P.info? f.type).map fun i => (f.offset, i.size)) = some pl ∧
      ∀ (j : Nat) (f : Field) (i : TypeInfo), l[j]? = some f → P.info? f.type = some i → pl[j]? = some (f.offset, i.size) := by
    intro l
    induction l with
    | nil => intro _; exact ⟨[], rfl, by simp⟩
    | cons f l ih =>
      intro hl
      obtain ⟨i, hi⟩ := Option.isSome_iff_exists.1 (hl f (by simp))
      obtain ⟨pl, hp, hq⟩ := ih fun g hg => hl g (by simp [hg])
      refine ⟨(f.offset, i.size) :: pl, by simp [List.mapM_cons, hi, hp], fun j g k hg hk => ?_⟩
      cases j with
      | zero => simp at hg; subst hg; rw [hi] at hk; cases hk; rfl
      | succ j => simpa using hq j g k (by simpa using hg) hk
  obtain ⟨pl, hp, hq⟩ := hm fs hall
  refine ⟨pl, hp, fun j q φ hj => ?_⟩
  obtain ⟨f, hf, ho, ht⟩ := h.at hj
  obtain ⟨i, hi⟩ := ht.info
  have := hq j f i hf hi.info
  rw [this, ho, hi.size]

theorem fillC_run {pl : Array (Nat × Nat)} {c : Ty} (hpl : ∀ j q φ, fieldAt c j 0 = some (q, φ) → pl[j]? = some (q, φ.size)) {ev : Operand → Val} {A : Nat → Prop} : ∀ {ps : List (Nat × Operand)} {cs cs' : List Leaf} {cells : Array Value},
    (∀ p ∈ ps, RelV w A ι (ev p.2) (a.eval p.2)) → (∀ p ∈ ps, ∀ n ∈ namesOf (ev p.2), N n) → RelC w A ι cs cells.toList → (∀ n ∈ namesV cs, N n) → fillC c (ps.map fun p => (p.1, ev p.2)) cs = some cs' →
    ∃ cells', Instr.fill (pl[·]?) cells (ps.map fun p => (p.1, a.eval p.2)) = some cells' ∧ RelC w A ι cs' cells'.toList ∧ ∀ n ∈ namesV cs', N n
  | [], cs, cs', cells, _, _, hr, hn, h => by cases h; exact ⟨cells, rfl, hr, hn⟩
  | p :: ps, cs, cs', cells, hx, hN, hr, hn, h => by
    simp only [List.map_cons, fillC] at h
    split at h
    case h_2 => cases h
    rename_i q φ ag new hf e
    split at h
    case h_2 => cases h
    rename_i hchk
    simp only [Bool.and_eq_true] at hchk
    split at h
    case h_2 => cases h
    rename_i cs1 hset
    have hxv := hx p (by simp)
    have hNv := hN p (by simp)
    rw [e] at hxv hNv
    have hc := val_cells hxv hchk.2
    have hw := Nat.eq_of_beq_eq_true hchk.1
    have hlen : (a.eval p.2).cells.size = φ.size := by have := hc.length; rw [hw] at this; simpa using this
    have hle : q + φ.size ≤ cells.size := by have := setC_le hset; have h2 := hr.length; simp at h2; omega
    have hput := fill_put q (a.eval p.2).cells cells (by omega)
    have hr1 := hr.set hc hset
    rw [← hlen, ← Array.length_toList, ← hput] at hr1
    obtain ⟨cells', h1, h2, h3⟩ := fillC_run hpl (ps := ps) (fun p hp => hx p (by simp [hp])) (fun p hp => hN p (by simp [hp])) hr1 (fun n hn' => (names_set hset n hn').elim (hn n) (hNv n)) h
    refine ⟨cells', ?_, h2, h3⟩
    simp only [List.map_cons, Instr.fill]
    rw [hpl _ _ _ hf]
    simp only
    rw [if_neg (by simp [hlen]; omega)]
    exact h1

/-! ### Elements -/
theorem asc_mem {α : Type} {m : Nat} : ∀ {l : List (Nat × α)} {lo : Nat}, ascending m l lo = true → ∀ p ∈ l, lo ≤ p.1 ∧ p.1 < m ∧ lk l p.1 = some p.2
  | [], _, _, p, hp => by cases hp
  | q :: l, lo, h, p, hp => by
    obtain ⟨j, x⟩ := q
    simp only [ascending, Bool.and_eq_true] at h
    have h1 := Nat.le_of_ble_eq_true h.1.1
    have h2 : j < m := by have := h.1.2; simp [Nat.blt] at this; omega
    rcases List.mem_cons.1 hp with rfl | hp
    · exact ⟨h1, h2, by simp [lk, Nat.beq_refl]⟩
    · obtain ⟨k1, k2, k3⟩ := asc_mem h.2 p hp
      have : Nat.beq j p.1 = false := by cases hb : Nat.beq j p.1; rfl; have := Nat.eq_of_beq_eq_true hb; omega
      exact ⟨by omega, k2, by simp [lk, this, k3]⟩

theorem asc_low {α : Type} {m : Nat} : ∀ {l : List (Nat × α)} {lo j : Nat}, ascending m l lo = true → j < lo → lk l j = none
  | [], _, _, _, _ => rfl
  | q :: l, lo, j, h, hj => by
    obtain ⟨k, x⟩ := q
    simp only [ascending, Bool.and_eq_true] at h
    have h1 := Nat.le_of_ble_eq_true h.1.1
    have : Nat.beq k j = false := by cases hb : Nat.beq k j; rfl; have := Nat.eq_of_beq_eq_true hb; omega
    simp only [lk, this]
    exact asc_low h.2 (by omega)

theorem asc_map {α β : Type} {m : Nat} (f : α → β) : ∀ (l : List (Nat × α)) (lo : Nat), ascending m (l.map fun p => (p.1, f p.2)) lo = ascending m l lo
  | [], _ => rfl
  | q :: l, lo => by simp only [List.map_cons, ascending, asc_map f l]

theorem lk_map {α β : Type} (f : α → β) : ∀ (l : List (Nat × α)) (n : Nat), lk (l.map fun p => (p.1, f p.2)) n = (lk l n).map f
  | [], _ => rfl
  | q :: l, n => by
    simp only [List.map_cons, lk]
    split
    · rfl
    · exact lk_map f l n

theorem fill_rows {s n : Nat} : ∀ {ps : List (Nat × Value)} {lo : Nat} {cells : Array Value}, cells.size = n * s → (∀ p ∈ ps, p.2.cells.size = s) → ascending n ps lo = true →
    ∃ r, Instr.fill (fun i => some (i * s, s)) cells ps = some r ∧ r.size = cells.size ∧ ∀ j, j < n → (r.toList.drop (j * s)).take s = match lk ps j with | some v => v.cells.toList | none => (cells.toList.drop (j * s)).take s
  | [], lo, cells, hs, _, _ => ⟨cells, rfl, rfl, fun j hj => rfl⟩
  | (i, v) :: ps, lo, cells, hs, hv, h => by
    simp only [ascending, Bool.and_eq_true] at h
    have h1 := Nat.le_of_ble_eq_true h.1.1
    have h2 : i < n := by have := h.1.2; simp [Nat.blt] at this; omega
    have hvs := hv _ (by simp : (i, v) ∈ (i, v) :: ps)
    simp only at hvs
    have hmul := Nat.mul_le_mul_right s (show i + 1 ≤ n from h2)
    rw [Nat.succ_mul] at hmul
    have hput := fill_put (i * s) v.cells cells (by omega)
    have hsz : (v.cells.zipIdx.foldl (fun cs (x : Value × Nat) => cs.setIfInBounds (i * s + x.2) x.1) cells).size = cells.size := by
      have := congrArg List.length hput
      rw [splice_length (by simp; omega)] at this
      simpa using this
    obtain ⟨r, k1, k2, k3⟩ := fill_rows (ps := ps) (lo := i + 1) (cells := v.cells.zipIdx.foldl (fun cs (x : Value × Nat) => cs.setIfInBounds (i * s + x.2) x.1) cells) (by rw [hsz, hs]) (fun p hp => hv p (by simp [hp])) h.2
    refine ⟨r, ?_, by rw [k2, hsz], fun j hj => ?_⟩
    · simp only [Instr.fill]
      rw [if_neg (by simp [hvs]; omega)]
      exact k1
    · rw [k3 j hj]
      have hl : v.cells.toList.length = s := by simpa using hvs
      by_cases hij : j = i
      · subst hij
        rw [asc_low h.2 (Nat.lt_succ_self j)]
        simp only [lk, Nat.beq_refl]
        rw [hput]
        have := splice_same (L := cells.toList) (us := v.cells.toList) (sz := s) (i := j) (inner := 0) (by omega) (by simp; omega)
        simp only [Nat.add_zero] at this
        rw [this]
        simp [hl]
      · have : Nat.beq i j = false := by cases hb : Nat.beq i j; rfl; exact absurd (Nat.eq_of_beq_eq_true hb).symm hij
        simp only [lk, this]
        split
        · rfl
        · rw [hput]
          have := splice_other (L := cells.toList) (us := v.cells.toList) (sz := s) (i := i) (j := j) (inner := 0) hij (by omega) (by simp; omega)
          simp only [Nat.add_zero] at this
          exact this

theorem elems_spec {e : Ty} {vals : List (Nat × Val)} : ∀ {n j : Nat} {xs : List e.den}, elems T e vals n j = some xs → xs.length = n ∧
    ∀ i, i < n → ∃ x, xs[i]? = some x ∧ ((lk vals (j + i) = none ∧ x = e.dflt) ∨ ∃ ag cs, lk vals (j + i) = some (.v ag cs) ∧ ownNames cs = [] ∧ ofCs T e cs = some x)
  | 0, j, xs, h => by cases h; exact ⟨rfl, fun i hi => by omega⟩
  | n + 1, j, xs, h => by
    simp only [elems] at h
    have step : ∀ {x : e.den} {ys : List e.den}, elems T e vals n (j + 1) = some ys → ((lk vals j = none ∧ x = e.dflt) ∨ ∃ ag cs, lk vals j = some (.v ag cs) ∧ ownNames cs = [] ∧ ofCs T e cs = some x) →
        (x :: ys).length = n + 1 ∧ ∀ i, i < n + 1 → ∃ x', (x :: ys)[i]? = some x' ∧ ((lk vals (j + i) = none ∧ x' = e.dflt) ∨ ∃ ag cs, lk vals (j + i) = some (.v ag cs) ∧ ownNames cs = [] ∧ ofCs T e cs = some x') := by
      intro x ys hy hx
      obtain ⟨h1, h2⟩ := elems_spec hy
      refine ⟨by simp [h1], fun i hi => ?_⟩
      cases i with
      | zero => exact ⟨x, rfl, hx⟩
      | succ i =>
        obtain ⟨x', k1, k2⟩ := h2 i (by omega)
        refine ⟨x', by simpa using k1, ?_⟩
        rwa [show j + (i + 1) = j + 1 + i by omega]
    split at h
    · rename_i hl
      obtain ⟨ys, hy, rfl⟩ := Option.map_eq_some_iff.1 h
      exact step hy (.inl ⟨hl, rfl⟩)
    · rename_i ag cs hl
      split at h
      · rename_i ho
        obtain ⟨x, hx, h⟩ := Option.bind_eq_some_iff.1 h
        obtain ⟨ys, hy, rfl⟩ := Option.map_eq_some_iff.1 h
        exact step hy (.inr ⟨ag, cs, hl, ho, hx⟩)
      · cases h
    · cases h

theorem TyOk.plain : ∀ {τ : Ty} {t : TypeId}, TyOk P τ t → τ.plain = true := by
  have key : ∀ (n : Nat) (τ : Ty) (x : TypeId ⊕ (List Field × Nat)), tyChk P n τ x = true → τ.plain = true := by
    intro n
    induction n with
    | zero => intro τ x h; simp [tyChk] at h
    | succ n ih =>
      intro τ x h
      cases x with
      | inl t =>
        simp only [tyChk, Bool.and_eq_true] at h
        have h := h.2
        split at h <;> try (first | rfl | cases h)
        · have := ih _ _ h; exact this
        · simp only [Bool.and_eq_true] at h; have := ih _ _ h.2; exact this
        · have := ih _ _ h; exact this
      | inr p =>
        obtain ⟨fs, off⟩ := p
        cases fs with
        | nil => cases τ <;> simp [tyChk] at h
        | cons f fs =>
          cases τ with
          | pair x y =>
            simp only [tyChk, Bool.and_eq_true] at h
            simp only [Ty.plain, Bool.and_eq_true]
            exact ⟨ih _ _ h.1.2, ih _ _ h.2⟩
          | _ =>
            cases fs with
            | cons g r => simp [tyChk] at h
            | nil =>
              simp only [tyChk, Bool.and_eq_true] at h
              exact ih _ _ h.2
  intro τ t ⟨n, h⟩
  exact key n τ _ h

theorem val_enc (I : Inv S w0 ι T w) {e : Ty} {ag : Bool} {cs : List Leaf} {x : e.den} {v : Value} (h : ofCs T e cs = some x) (hr : RelV w (Av S ι) ι (.v ag cs) v) (hp : e.plain = true) (ho : ownNames cs = []) : Enc w (Av S ι) e x v.cells.toList := by
  cases ag with
  | true =>
    obtain ⟨vs, rfl, hr⟩ := hr
    exact ofCs_enc I (fun _ h => h) h hr hp (by rw [ho]; simp)
  | false =>
    have hr : RelC w (Av S ι) ι cs [v] := hr
    have he := ofCs_enc I (fun _ h => h) h hr hp (by rw [ho]; simp)
    have h1 := he.one v (by simp)
    have : v.cells = #[v] := by cases v <;> first | rfl | (simp [Value.oneCell'] at h1)
    rw [this]
    exact he

theorem elems_run (I : Inv S w0 ι T w) {ev : Operand → Val} {e : Ty} (hp : e.plain = true) {ps : List (Nat × Operand)} {n : Nat} {xs : List e.den} {cells : Array Value}
    (hx : ∀ p ∈ ps, RelV w (Av S ι) ι (ev p.2) (a.eval p.2)) (hc : Enc w (Av S ι) (.arr n e) (List.replicate n e.dflt) cells.toList) (hasc : ascending n (ps.map fun p => (p.1, ev p.2)) 0 = true)
    (h : elems T e (ps.map fun p => (p.1, ev p.2)) n 0 = some xs) :
    ∃ cells', Instr.fill (fun i => some (i * e.size, e.size)) cells (ps.map fun p => (p.1, a.eval p.2)) = some cells' ∧ Enc w (Av S ι) (.arr n e) xs cells'.toList := by
  obtain ⟨h1, h2⟩ := elems_spec h
  have hasc0 := hasc
  rw [asc_map ev] at hasc0
  have hlen := hc.length
  simp only [Ty.size, Array.length_toList] at hlen
  have hpart : ∀ j v, lk (ps.map fun p => (p.1, a.eval p.2)) j = some v → j < n → ∃ x, xs[j]? = some x ∧ Enc w (Av S ι) e x v.cells.toList := by
    intro j v hv hj
    rw [lk_map a.eval] at hv
    obtain ⟨y, hy, rfl⟩ := Option.map_eq_some_iff.1 hv
    obtain ⟨x, k1, k2⟩ := h2 j hj
    rw [Nat.zero_add, lk_map ev, hy] at k2
    simp only [Option.map_some] at k2
    rcases k2 with ⟨k2, _⟩ | ⟨ag, cs, k2, k3, k4⟩
    · cases k2
    · simp only [Option.some.injEq] at k2
      have hm : (j, y) ∈ ps := by
        clear k4 k3 k2 k1 hv h2 h1 h hasc hx
        induction ps with
        | nil => cases hy
        | cons q ps ih =>
          obtain ⟨i, z⟩ := q
          simp only [lk] at hy
          split at hy
          · rename_i hb; cases hy; rw [Nat.eq_of_beq_eq_true hb]; simp
          · refine List.mem_cons_of_mem _ (ih ?_ hy)
            simp only [ascending, Bool.and_eq_true] at hasc0
            have : ∀ (l : List (Nat × Operand)) (p q : Nat), p ≤ q → ascending n l q = true → ascending n l p = true := by
              intro l p q hpq hl
              cases l with
              | nil => rfl
              | cons u l =>
                simp only [ascending, Bool.and_eq_true] at hl ⊢
                have := Nat.le_of_ble_eq_true hl.1.1
                exact ⟨⟨Nat.ble_eq_true_of_le (by omega), hl.1.2⟩, hl.2⟩
            exact this _ _ _ (Nat.zero_le _) hasc0.2
      have hxv := hx _ hm
      simp only at hxv
      rw [k2] at hxv
      exact ⟨x, k1, val_enc I k4 hxv hp k3⟩
  obtain ⟨r, k1, k2, k3⟩ := fill_rows (s := e.size) (n := n) (ps := ps.map fun p => (p.1, a.eval p.2)) (lo := 0) (cells := cells) hlen (fun p hp' => by
    obtain ⟨q1, q2, q3⟩ := asc_mem (by rw [asc_map a.eval]; exact hasc0) p hp'
    obtain ⟨x, _, he⟩ := hpart _ _ q3 q2
    have := he.length
    simpa using this) (by rw [asc_map a.eval]; exact hasc0)
  refine ⟨r, k1, ?_⟩
  simp only [Enc] at hc ⊢
  refine ⟨h1, by simp [k2, hlen], fun j x hj => ?_⟩
  have hjn : j < n := by have := (List.getElem?_eq_some_iff.1 hj).1; omega
  rw [k3 j hjn]
  cases hl : lk (ps.map fun p => (p.1, a.eval p.2)) j with
  | some v =>
    obtain ⟨x', q1, q2⟩ := hpart j v hl hjn
    rw [hj] at q1; cases q1
    exact q2
  | none =>
    obtain ⟨x', q1, q2⟩ := h2 j hjn
    rw [hj] at q1; cases q1
    rw [lk_map a.eval] at hl
    have hl0 : lk ps j = none := by simpa using hl
    rw [Nat.zero_add, lk_map ev, hl0] at q2
    rcases q2 with ⟨_, rfl⟩ | ⟨_, _, q2, _⟩
    · exact hc.2.2 j _ (by simp [hjn])
    · cases q2

theorem good_build (hE : TysOk P E) (I : Inv S w0 ι T w) {ev : Operand → Val} {t : TypeId} {ps : Array (Nat × Operand)} {nm' : Nat} {K : Val → List (Nat × Option Entry) → Option ρ} (hop : o.op = .build t ps)
    (hx : ∀ p ∈ ps.toList, RelV w (Av S ι) ι (ev p.2) (a.eval p.2)) (hN : ∀ p ∈ ps.toList, ∀ n ∈ namesOf (ev p.2), N n) (h : opK E T nm' ev (.build t ps) K = some r) : Good P S w0 ι T w nm o a N K r := by
  have run : ∀ cells, P.built t (ps.toList.map fun p => (p.1, a.eval p.2)) = some cells → (execOp a.eval o).run P w = .ok (.value (.agg cells)) w := by
    intro cells hc
    have hm : (ps.map fun (i, x) => (i, a.eval x)).toList = ps.toList.map fun p => (p.1, a.eval p.2) := by simp
    simp only [execOp, hop]
    simp only [Sem.run_bind, run_build w t _ cells (by rw [hm]; exact hc), Result.andThen_ok]
    rfl
  simp only [opK] at h
  split at h
  · rename_i c ht
    split at h
    case h_2 => cases h
    rename_i cs hf
    obtain ⟨fs, hu, hfl⟩ := (hE.at ht).st
    obtain ⟨i, hi⟩ := (hE.at ht).info
    obtain ⟨pl, hp1, hp2⟩ := fields_places hE hfl
    obtain ⟨z, hz, hz1, _⟩ := hi.zero
    obtain ⟨cells0, rfl, hc0⟩ := hz1 rfl
    obtain ⟨us, e0, hr0⟩ := zeroChk_rel (w := w) (A := Av S ι) (ι := ι) hc0
    rw [List.append_nil] at e0
    rw [← e0] at hr0
    have hz0 : zeroC (.st c) = zeroC c := rfl
    rw [hz0] at hr0
    obtain ⟨cells, k1, k2, k3⟩ := fillC_run (N := N) (pl := pl.toArray) (c := c) (ev := ev) (fun j q φ hj => by simpa using hp2 j q φ hj) hx hN hr0 (by rw [names_zeroC]; simp) hf
    refine good_value I h (run cells ?_) ⟨cells, rfl, k2⟩ fun n hn => .inl (k3 n hn)
    unfold Program.built
    rw [hi.info, hu]
    simp only [hz, hp1]
    exact k1
  · rename_i n e ht
    split at h
    case h_2 => cases h
    rename_i xs hasc hel
    obtain ⟨te, hu, hte⟩ := (hE.at ht).arr
    obtain ⟨i, hi⟩ := (hE.at ht).info
    obtain ⟨ie, hie⟩ := hte.info
    obtain ⟨z, hz, hz0⟩ := hi.zeroE (w := w) (A := Av S ι)
    obtain ⟨cells, k1, k2⟩ := elems_run I hte.plain (ps := ps.toList) hx hz0 hasc hel
    refine good_value I h (run cells ?_) ⟨cells, rfl, cells.toList, [], by simp, k2, rfl⟩ (by simp [namesOf, namesV])
    unfold Program.built
    rw [hi.info, hu]
    simp only [hz, hie.info, hie.size]
    exact k1
  · cases h

theorem lstOf_spec {vals : List (Nat × Val)} : ∀ {n j : Nat} {ls : List Leaf}, lstOf vals n j = some ls → ls.length = n ∧ ∀ i, i < n → ∃ l, ls[i]? = some l ∧ lk vals (j + i) = some (.v false [l]) ∧ l.ok = true ∧ l.width = 1
  | 0, j, ls, h => by cases h; exact ⟨rfl, fun i hi => by omega⟩
  | n + 1, j, ls, h => by
    simp only [lstOf] at h
    split at h
    case h_2 => cases h
    rename_i l hl
    split at h
    case h_2 => cases h
    rename_i hc
    simp only [Bool.and_eq_true] at hc
    obtain ⟨ys, hy, rfl⟩ := Option.map_eq_some_iff.1 h
    obtain ⟨k1, k2⟩ := lstOf_spec hy
    refine ⟨by simp [k1], fun i hi => ?_⟩
    cases i with
    | zero => exact ⟨l, rfl, hl, hc.1, Nat.eq_of_beq_eq_true hc.2⟩
    | succ i =>
      obtain ⟨l', q1, q2⟩ := k2 i (by omega)
      exact ⟨l', by simpa using q1, by rw [show j + (i + 1) = j + 1 + i by omega]; exact q2⟩

/-- A slice literal of rows and slices: a new block that nobody writes. -/
theorem good_lst (hE : TysOk P E) (I : Inv S w0 ι T w) {ev : Operand → Val} {t : TypeId} {n : Nat} {ps : Array (Nat × Operand)} {e : Ty} {ls : List Leaf} {K : Val → List (Nat × Option Entry) → Option ρ} (hop : o.op = .buildSlice t n ps)
    (hx : ∀ p ∈ ps.toList, RelV w (Av S ι) ι (ev p.2) (a.eval p.2)) (hN : ∀ p ∈ ps.toList, ∀ m ∈ namesOf (ev p.2), N m) (ht : E.ty t = some (.sl e)) (hasc : ascending n (ps.toList.map fun p => (p.1, ev p.2)) 0 = true)
    (h1 : e.size = 1) (hsmall : n ≤ 16777216) (hls : lstOf (ps.toList.map fun p => (p.1, ev p.2)) n 0 = some ls) (h : K (.lst ls) [] = some r) : Good P S w0 ι T w nm o a N K r := by
  obtain ⟨hlen, hspec⟩ := lstOf_spec hls
  obtain ⟨te, hu, hte⟩ := (hE.at ht).sl
  obtain ⟨i, hi⟩ := hte.info
  obtain ⟨z, hz, hz0⟩ := hi.zeroE (w := w) (A := Av S ι)
  have hm : (ps.map fun (i, x) => (i, a.eval x)).toList = ps.toList.map fun p => (p.1, a.eval p.2) := by simp
  have hsz := size_madeCells z.cells (n * e.size)
  have hasc0 := hasc
  rw [asc_map ev] at hasc0
  have hcell : ∀ j v, j < n → lk (ps.toList.map fun p => (p.1, a.eval p.2)) j = some v → ∃ l, ls[j]? = some l ∧ RelL w (Av S ι) ι l [v] ∧ v.cells.toList = [v] := by
    intro j v hj hv
    rw [lk_map a.eval] at hv
    obtain ⟨y, hy, rfl⟩ := Option.map_eq_some_iff.1 hv
    obtain ⟨l, k1, k2, k3, k4⟩ := hspec j hj
    rw [Nat.zero_add, lk_map ev, hy] at k2
    simp only [Option.map_some, Option.some.injEq] at k2
    have hm : ∃ q ∈ ps.toList, q.2 = y := by
      clear k2 k1 hspec hlen hls hasc hasc0 hx hN hsz hm
      generalize ps.toList = l' at hy
      induction l' with
      | nil => cases hy
      | cons q l' ih =>
        obtain ⟨i', z'⟩ := q
        simp only [lk] at hy
        split at hy
        · cases hy; exact ⟨_, List.mem_cons_self, rfl⟩
        · obtain ⟨q, hq, e⟩ := ih hy; exact ⟨q, List.mem_cons_of_mem _ hq, e⟩
    obtain ⟨q, hq, rfl⟩ := hm
    have hr := hx q hq
    rw [k2] at hr
    have hr' : RelL w (Av S ι) ι l [a.eval q.2] := RelC.leaf hr
    refine ⟨l, k1, hr', ?_⟩
    have := hr'.one k3 _ (List.mem_singleton.2 rfl)
    cases hv : a.eval q.2 <;> rw [hv] at this <;> simp_all [Value.cells, Value.oneCell']
  obtain ⟨cells, k1, k2, k3⟩ := fill_rows (s := e.size) (n := n) (ps := ps.toList.map fun p => (p.1, a.eval p.2)) (lo := 0) (cells := madeCells z.cells (n * e.size)) (by rw [hsz]) (fun p hp' => by
    obtain ⟨q1, q2, q3⟩ := asc_mem (by rw [asc_map a.eval]; exact hasc0) p hp'
    obtain ⟨l, _, _, hc⟩ := hcell _ _ q2 q3
    rw [h1, ← Array.length_toList, hc]; rfl) (by rw [asc_map a.eval]; exact hasc0)
  have hr : (Instr.buildSlice t n (ps.map fun (i, x) => (i, a.eval x))).run P w = .ok (.slice (some ⟨w.heap.size, 0, none⟩) n n) (w.alloc (.cells cells te)) := by
    by_cases h0 : n * e.size = 0
    · have k1' := k1
      rw [h0] at k1'
      have hmc : madeCells z.cells 0 = #[] := by simp [madeCells]
      rw [hmc] at k1'
      rw [← hi.size] at h0 k1'
      have hm' : Array.map (fun (x : Nat × Operand) => (x.fst, a.eval x.snd)) ps = (ps.toList.map fun p => (p.1, a.eval p.2)).toArray := by apply Array.ext'; simp
      simp [Instr.buildSlice, run_underlying hu, sizeOf, typeInfo, hi.info, h0, Array.range_zero', k1', newRow]
    · refine run_buildSlice w t te n _ cells i z hu hi.info hz (by rw [hi.size, h1]; omega) (by rw [hi.size]; exact h0) ?_
      rw [hm, hi.size]
      exact k1
  have hbel : Below w0.heap.size w (w.alloc (.cells cells te)) := Below.alloc (Below.refl _ _) I.below.size _
  have hsize : (w.alloc (.cells cells te)).heap.size = w.heap.size + 1 := by simp
  have hturn : Turn w (w.alloc (.cells cells te)) (Av S ι) (Av S ι) := ⟨by omega, fun b hb _ => Below.heap_alloc _ _ _ hb, fun _ _ h => h⟩
  have I' : Inv S w0 ι T (w.alloc (.cells cells te)) := I.step hbel hturn (fun m l b hm hb => by have := I.fresh m l b hm hb; omega) I.inj
    (fun m p hp => .inl ⟨p, hp, rfl, rfl, fun _ _ => .inl rfl, fun l b hl hb => Below.heap_alloc _ _ _ (I.fresh m l b hl hb).2⟩) I.dom
  have hnA : ¬ Av S ι w.heap.size := fun hA => by
    rcases hA with hA | ⟨m, l, hm, hb⟩
    · have := I.low _ hA; have := I.below.size; omega
    · have := (I.fresh m l _ hm hb).2; omega
  refine ⟨_, [], h, fun next Q hn => ?_, ⟨fun m hm => ?_, by simp⟩, by simp [Wr]⟩
  · show o.upon P a next Q ((execOp a.eval o).run P w)
    have he : (execOp a.eval o).run P w = .ok (.value (.slice (some ⟨w.heap.size, 0, none⟩) n n)) (w.alloc (.cells cells te)) := by
      simp only [execOp, hop]
      simp only [Sem.run_bind, hr, Result.andThen_ok]
      rfl
    rw [he]
    refine hn _ _ ι (by rw [upd_nil]; exact I') hturn (fun _ => .inl rfl) ⟨w.heap.size, n, by rw [hlen], by omega, hnA, by omega, fun j l hj => ?_⟩
    have hjn : j < n := by have := (List.getElem?_eq_some_iff.1 hj).1; omega
    have hw := k3 j hjn
    obtain ⟨l', q1, q2, _, _⟩ := hspec j hjn
    rw [hj] at q1
    cases q1
    rw [Nat.zero_add, lk_map ev] at q2
    cases hy : lk ps.toList j with
    | none => rw [hy] at q2; cases q2
    | some y =>
      have hl : lk (ps.toList.map fun p => (p.1, a.eval p.2)) j = some (a.eval y) := by rw [lk_map a.eval, hy]; rfl
      obtain ⟨l', r1, r2, r3⟩ := hcell j _ hjn hl
      rw [hj] at r1
      cases r1
      rw [hl] at hw
      simp only [r3, h1, Nat.mul_one] at hw
      refine ⟨a.eval y, r2.turn hturn (fun _ _ => .inl rfl), ?_⟩
      have hh0 : (w.alloc (.cells cells te)).heap = w.heap.push (.cells cells te (0, 0)) := rfl
      have hh : (w.alloc (.cells cells te)).heap[w.heap.size]? = some (.cells cells te (0, 0)) := by rw [hh0]; simp
      have := cells_of_heap hh j 1
      rw [hw] at this
      exact this
  · have key : ∀ (ls : List Leaf), m ∈ namesV ls → ∃ l ∈ ls, m ∈ leafNames l := by
      intro ls
      induction ls with
      | nil => intro h; cases h
      | cons x ls ih =>
        intro h
        rw [namesV_cons] at h
        rcases List.mem_append.1 h with h | h
        · exact ⟨x, List.mem_cons_self, h⟩
        · obtain ⟨l, h1, h2⟩ := ih h; exact ⟨l, List.mem_cons_of_mem _ h1, h2⟩
    obtain ⟨l, hl, hml⟩ := key ls hm
    obtain ⟨j, hj⟩ := List.mem_iff_getElem?.1 hl
    have hjn : j < n := by have := (List.getElem?_eq_some_iff.1 hj).1; omega
    obtain ⟨l', q1, q2, _, _⟩ := hspec j hjn
    rw [hj] at q1
    cases q1
    rw [Nat.zero_add, lk_map ev] at q2
    obtain ⟨y, hy, he⟩ := Option.map_eq_some_iff.1 q2
    have hm2 : ∃ q ∈ ps.toList, q.2 = y := by
      clear he q2 hj hl hspec hlen hls hasc hasc0 hx hN hsz hm k1 k2 k3 hr hcell h
      generalize ps.toList = l' at hy
      induction l' with
      | nil => cases hy
      | cons q l' ih =>
        obtain ⟨i', z'⟩ := q
        simp only [lk] at hy
        split at hy
        · cases hy; exact ⟨_, List.mem_cons_self, rfl⟩
        · obtain ⟨q, hq, e⟩ := ih hy; exact ⟨q, List.mem_cons_of_mem _ hq, e⟩
    obtain ⟨q, hq, rfl⟩ := hm2
    refine .inl (hN q hq m ?_)
    rw [he]
    simp only [namesOf]
    rw [namesV_cons]
    exact List.mem_append_left _ hml

theorem good_buildSlice (hE : TysOk P E) (I : Inv S w0 ι T w) (hnm : ∀ n, In16 nm n → T n = none) (hfr : ∀ m p, T m = some p → ∀ q ∈ entNames p.2, ¬ In16 nm q) {ev : Operand → Val} {t : TypeId} {n : Nat} {ps : Array (Nat × Operand)} {K : Val → List (Nat × Option Entry) → Option ρ} (hop : o.op = .buildSlice t n ps)
    (hx : ∀ p ∈ ps.toList, RelV w (Av S ι) ι (ev p.2) (a.eval p.2)) (hN : ∀ p ∈ ps.toList, ∀ m ∈ namesOf (ev p.2), N m) (h : opK E T nm ev (.buildSlice t n ps) K = some r) : Good P S w0 ι T w nm o a N K r := by
  have hin : In16 nm nm := ⟨Nat.le_refl _, by omega⟩
  simp only [opK] at h
  split at h
  case h_2 => cases h
  rename_i e ht
  split at h
  case h_3 => cases h
  case h_2 =>
    rename_i hasc hel
    split at h
    case h_2 => cases h
    rename_i ls hc hls
    simp only [Bool.and_eq_true] at hc
    exact good_lst hE I hop hx hN ht hasc (Nat.eq_of_beq_eq_true hc.1) (Nat.le_of_ble_eq_true hc.2) hls h
  rename_i xs hasc hel
  split at h
  case h_2 => cases h
  rename_i hsmall
  have hsmall := Nat.le_of_ble_eq_true hsmall
  obtain ⟨te, hu, hte⟩ := (hE.at ht).sl
  obtain ⟨i, hi⟩ := hte.info
  obtain ⟨z, hz, hz0⟩ := hi.zeroE (w := w) (A := Av S ι)
  have hm : (ps.map fun (i, x) => (i, a.eval x)).toList = ps.toList.map fun p => (p.1, a.eval p.2) := by simp
  have hzc := enc_made hz0 n n (Nat.le_refl _)
  have hsz := size_madeCells z.cells (n * e.size)
  rw [List.take_of_length_le (by rw [Array.length_toList, hsz]; exact Nat.le_refl _)] at hzc
  obtain ⟨cells, k1, k2⟩ := elems_run I hte.plain (ps := ps.toList) hx hzc hasc hel
  have hxl : xs.length = n := (elems_spec hel).1
  have hcl := k2.length
  simp only [Ty.size] at hcl
  have hr : (Instr.buildSlice t n (ps.map fun (i, x) => (i, a.eval x))).run P w = .ok (.slice (some ⟨w.heap.size, 0, none⟩) n n) (w.alloc (.cells cells te)) := by
    by_cases h0 : n * e.size = 0
    · have k1' := k1
      rw [h0] at k1'
      have hmc : madeCells z.cells 0 = #[] := by simp [madeCells]
      rw [hmc] at k1'
      rw [← hi.size] at h0 k1'
      have hm' : Array.map (fun (x : Nat × Operand) => (x.fst, a.eval x.snd)) ps = (ps.toList.map fun p => (p.1, a.eval p.2)).toArray := by apply Array.ext'; simp
      simp [Instr.buildSlice, run_underlying hu, sizeOf, typeInfo, hi.info, h0, Array.range_zero', k1', newRow]
    · refine run_buildSlice w t te n _ cells i z hu hi.info hz (by rw [hi.size]; omega) (by rw [hi.size]; exact h0) ?_
      rw [hm, hi.size]
      exact k1
  refine good_row I (hnm nm hin) hfr (xs := xs) (cap := n) (us := cells.toList) (w' := w.alloc (.cells cells te)) (cs := cells) (el := te) (fz := (0, 0)) ?_ ⟨rfl, rfl, rfl, rfl⟩ (fun q _ hq => by simp at hq) (by simpa using hcl) (by omega) (by rw [hxl]; exact k2) List.take_length h
  simp only [execOp, hop]
  simp only [Sem.run_bind, hr, Result.andThen_ok, hxl]
  rfl

end
end Go.Proofs.Ytacmfiddaklkiab.Lift
