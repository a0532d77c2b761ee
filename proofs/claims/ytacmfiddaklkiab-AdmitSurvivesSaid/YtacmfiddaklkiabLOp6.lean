/- 'Lift': indexes, slices, fields, literals. -/
import Derived.Test.YtacmfiddaklkiabLOp5
set_option linter.unusedVariables false
namespace Go.Proofs.Ytacmfiddaklkiab.Lift
open Go Go.RowKit

section
variable {P : Program} {S : Nat → Prop} {w0 w : World} {ι : Inj} {T : Tab} {nm : Nat} {o : Oper} {a : Act} {N : Nat → Prop} {ρ : Type} {r : ρ} {E : Env}

theorem rel_agg_arr {A : Nat → Prop} {n : Nat} {e : Ty} {xs : List e.den} {v : Value} (h : RelV w A ι (.v true [.arrv n e xs]) v) : ∃ vs : Array Value, v = .agg vs ∧ Enc w A (.arr n e) xs vs.toList := by
  obtain ⟨vs, hv, us, ts, he, h1, h2⟩ := h
  simp only [RelC] at h2
  subst h2
  rw [List.append_nil] at he
  exact ⟨vs, hv, by rw [he]; exact h1⟩

theorem good_index (hE : TysOk P E) (I : Inv S w0 ι T w) {ev : Operand → Val} {t : TypeId} {x y : Operand} {K : Val → List (Nat × Option Entry) → Option ρ} (hop : o.op = .index t x y)
    (hx : RelV w (Av S ι) ι (ev x) (a.eval x)) (hy : RelV w (Av S ι) ι (ev y) (a.eval y))
    (h : indexK E t (ev x) (ev y) (fun v => K v []) = some r) : Good P S w0 ι T w nm o a N K r := by
  unfold indexK at h
  split at h
  · rename_i s ht ex
    have hu := (hE.at ht).str
    obtain ⟨k, j, ey, h0, h1, h⟩ := rangeK_some h
    rw [ex] at hx; rw [ey] at hy
    have hx := rel_str hx
    have hy := rel_int hy
    refine good_value I h (v' := .int .u8 (bt s j)) ?_ (rel1 rfl) (names1 rfl)
    have hj : j.toNat < s.size := by omega
    have hj' : j.toNat < s.data.size := hj
    have e1 : s[j.toNat]? = some s[j.toNat] := by simp [hj]
    have e2 : bt s j = ((s[j.toNat]).toNat : Int) := by
      simp only [bt, Array.getD, hj', dif_pos]
      rfl
    simp only [execOp, hop, hx, hy, Instr.index, asIntOf]
    simp [run_underlying hu, h0, e1, e2]
  · rename_i m e' n e xs ht ex
    obtain ⟨te, hu, hte⟩ := (hE.at ht).arr
    split at h
    case h_2 => cases h
    rename_i hchk
    simp only [Bool.and_eq_true] at hchk
    have hm := Nat.eq_of_beq_eq_true hchk.1
    have hee := Ty.eq_of_beq hchk.2
    subst hm; subst hee
    obtain ⟨k, j, ey, h0, h1, hk⟩ := rangeK_some h
    rw [ex] at hx; rw [ey] at hy
    have hyv := rel_int hy
    obtain ⟨vs, hxv, he⟩ := rel_agg_arr hx
    simp only [Enc] at he
    have hx' := nth_get (d := e'.dflt) h0 (by rw [he.1]; exact h1)
    have hel := he.2.2 _ _ hx'
    refine good_value I hk (v' := mkV e' ((vs.toList.drop (j.toNat * e'.size)).take e'.size)) ?_ (rel_mkV hte (RelC.toC hel) hel.length) (by intro q hq; simp [namesOf, toV, names_toC] at hq)
    simp only [execOp, hop, hxv, hyv, Instr.index, asIntOf]
    simp [run_underlying hu, h0, h1, hte.sizeOf, run_part hte hel]
  · cases h

theorem run_sliceBound {y : Nat} {code : BoundsCode} {k : IntKind} {i : Int} (h0 : 0 ≤ i) (h1 : i ≤ y) : (Instr.sliceBound (.int k i) y code).run P w = .ok i.toNat w := by
  simp [Instr.sliceBound, asIntOf, h0, h1]

/-- Bounds that fit. -/
theorem run_bounds {isS : Bool} {len cap l h : Nat} {lo hi : Option Value} (hlo : (lo = none ∧ l = 0) ∨ ∃ k i, lo = some (.int k i) ∧ 0 ≤ i ∧ i.toNat = l) (hhi : (hi = none ∧ h = len) ∨ ∃ k i, hi = some (.int k i) ∧ 0 ≤ i ∧ i.toNat = h)
    (hl : l ≤ h) (hc : h ≤ cap) : (Instr.sliceBounds isS len cap lo hi none).run P w = .ok (l, h, cap) w := by
  have sb : ∀ (k : IntKind) (i : Int) (y : Nat) (code : BoundsCode), 0 ≤ i → i ≤ y → (Instr.sliceBound (.int k i) y code).run P w = .ok i.toNat w := fun k i y code h0 h1 => run_sliceBound h0 h1
  rcases hlo with ⟨rfl, rfl⟩ | ⟨k, i, rfl, hi0, rfl⟩ <;> rcases hhi with ⟨rfl, rfl⟩ | ⟨k', j, rfl, hj0, rfl⟩
  · simp [Instr.sliceBounds]
  · simp [Instr.sliceBounds, sb k' j cap (if isS then .sliceAcap else .sliceAlen) hj0 (by omega)]
  · simp [Instr.sliceBounds, sb k i h .sliceB hi0 (by omega)]
  · simp [Instr.sliceBounds, sb k' j cap (if isS then .sliceAcap else .sliceAlen) hj0 (by omega), sb k i j.toNat .sliceB hi0 (by omega)]

/-- The bounds of a slice expression, as the evaluator takes them. -/
def Bd (lo hi : Option Val) (n : Int) (l h : Int) : Prop :=
  (lo = none ∧ l = 0 ∨ ∃ k, lo = some (.v false [.int k l])) ∧ (hi = none ∧ h = n ∨ ∃ k, hi = some (.v false [.int k h])) ∧ 0 ≤ l ∧ l ≤ h ∧ h ≤ n

theorem bounds_val {A : Nat → Prop} {ev : Operand → Val} {lo hi : Option Operand} {n : Nat} {cap : Nat} {l h : Int} (hb : Bd (lo.map ev) (hi.map ev) n l h) (hc : n ≤ cap)
    (hlo : ∀ x, lo = some x → RelV w A ι (ev x) (a.eval x)) (hhi : ∀ x, hi = some x → RelV w A ι (ev x) (a.eval x)) (isS : Bool) :
    (Instr.sliceBounds isS n cap (lo.map a.eval) (hi.map a.eval) none).run P w = .ok (l.toNat, h.toNat, cap) w := by
  obtain ⟨h1, h2, h3, h4, h5⟩ := hb
  refine run_bounds ?_ ?_ (by omega) (by omega)
  · rcases h1 with ⟨e, rfl⟩ | ⟨k, e⟩
    · left
      cases lo with
      | none => exact ⟨rfl, rfl⟩
      | some x => cases e
    · right
      cases lo with
      | none => cases e
      | some x =>
        have hv := hlo x rfl
        have e' : ev x = .v false [.int k l] := by simpa using e
        rw [e'] at hv
        exact ⟨k, l, by simp [rel_int hv], h3, rfl⟩
  · rcases h2 with ⟨e, rfl⟩ | ⟨k, e⟩
    · left
      cases hi with
      | none => exact ⟨rfl, by omega⟩
      | some x => cases e
    · right
      cases hi with
      | none => cases e
      | some x =>
        have hv := hhi x rfl
        have e' : ev x = .v false [.int k h] := by simpa using e
        rw [e'] at hv
        exact ⟨k, h, by simp [rel_int hv], by omega, rfl⟩

theorem slice_go {K : Val → Option ρ} {lo hi : Option Val} {n : Int} {R : Int → Int → Val}
    (h : (match lo, hi with
      | none, none => K (R 0 n)
      | some (.v false [.int _ l]), none => if 0 ≤ l ∧ l ≤ n then K (R l n) else none
      | none, some (.v false [.int _ h]) => if 0 ≤ h ∧ h ≤ n then K (R 0 h) else none
      | some (.v false [.int _ l]), some (.v false [.int _ h]) => if 0 ≤ l ∧ l ≤ h ∧ h ≤ n then K (R l h) else none
      | _, _ => none) = some r) (hn : 0 ≤ n) : ∃ l h, Bd lo hi n l h ∧ K (R l h) = some r := by
  split at h
  · exact ⟨0, n, ⟨.inl ⟨rfl, rfl⟩, .inl ⟨rfl, rfl⟩, by omega, by omega, by omega⟩, h⟩
  · rename_i k l
    split at h
    · rename_i hl; exact ⟨l, n, ⟨.inr ⟨k, rfl⟩, .inl ⟨rfl, rfl⟩, by omega, by omega, by omega⟩, h⟩
    · cases h
  · rename_i k l
    split at h
    · rename_i hl; exact ⟨0, l, ⟨.inl ⟨rfl, rfl⟩, .inr ⟨k, rfl⟩, by omega, by omega, by omega⟩, h⟩
    · cases h
  · rename_i k l k' l'
    split at h
    · rename_i hl; exact ⟨l, l', ⟨.inr ⟨k, rfl⟩, .inr ⟨k', rfl⟩, by omega, by omega, by omega⟩, h⟩
    · cases h
  · cases h

theorem addAt (b o n : Nat) : (⟨b, o, none⟩ : Addr).add n = ⟨b, o + n, none⟩ := Addr.add_lit b o n

theorem good_slice (hE : TysOk P E) (I : Inv S w0 ι T w) {ev : Operand → Val} {t : TypeId} {x : Operand} {lo hi mx : Option Operand} {K : Val → List (Nat × Option Entry) → Option ρ} (hop : o.op = .slice t x lo hi mx)
    (hx : RelV w (Av S ι) ι (ev x) (a.eval x)) (hlo : ∀ x, lo = some x → RelV w (Av S ι) ι (ev x) (a.eval x)) (hhi : ∀ x, hi = some x → RelV w (Av S ι) ι (ev x) (a.eval x)) (hN : ∀ n ∈ namesOf (ev x), N n)
    (h : sliceK E T t (ev x) (lo.map ev) (hi.map ev) (mx.map ev) (fun v => K v []) = some r) : Good P S w0 ι T w nm o a N K r := by
  unfold sliceK at h
  split at h
  · cases h
  rename_i hmx
  have hmx' : mx = none := by cases mx <;> simp_all
  subst hmx'
  dsimp only at h
  have runS : ∀ v, (∀ d, P.underlying t = some d → (∀ m e, d ≠ .array m e)) → (Instr.slice t (a.eval x) (lo.map a.eval) (hi.map a.eval) none).run P w = .ok v w → (∃ d, P.underlying t = some d) → (execOp a.eval o).run P w = .ok (.value v) w := by
    intro v hd hv ⟨d, hu⟩
    have : (Instr.sliceAt t (a.eval x) (lo.map a.eval) (hi.map a.eval) none).run P w = .ok v w := by
      unfold Instr.sliceAt
      have hd' := hd d hu
      simp only [Sem.run_bind, run_underlying hu, Result.andThen_ok]
      cases d <;> first | exact hv | exact absurd rfl (hd' _ _)
    simp only [execOp, hop, Option.map_none]
    simp [this]
  split at h
  · rename_i s ex
    split at h
    case h_2 => cases h
    rename_i ht
    have hu := (hE.at ht).str
    rw [ex] at hx
    have hx := rel_str hx
    obtain ⟨l, q, hb, h⟩ := slice_go (K := fun v => K v []) (n := s.size) (R := fun l h => .v false [.str (cut s l h)]) h (by omega)
    have hbv := bounds_val (P := P) (w := w) (cap := s.size) hb (Nat.le_refl _) hlo hhi false
    refine good_value I h (runS (.string (cut s l q)) (fun d hd => by rw [hu] at hd; cases hd; simp) ?_ ⟨_, hu⟩) (rel1 rfl) (names1 rfl)
    simp only [Instr.slice, hx]
    simp [run_underlying hu, hbv, cut]
  · rename_i e xs ex
    split at h
    case h_2 => cases h
    rename_i e' ht
    split at h
    case h_2 => cases h
    rename_i hsz
    have hsz := Nat.eq_of_beq_eq_true hsz
    obtain ⟨te, hu, hte⟩ := (hE.at ht).sl
    rw [ex] at hx
    have hp := RelC.leaf hx
    simp only [RelL, Enc] at hp
    obtain ⟨l, q, hb, h⟩ := slice_go (K := fun v => K v []) (n := xs.length) (R := fun l h => .v false [.sl e (slc xs l h)]) h (by omega)
    have hb' := hb
    obtain ⟨_, _, b0, b1, b2⟩ := hb'
    rcases hp with ⟨rfl, hp⟩ | ⟨b, p, cap, hp, hc, ha, hbl, hxs⟩
    · have hp := List.singleton_inj.1 hp
      have hbv := bounds_val (P := P) (w := w) (cap := 0) (a := a) (n := 0) hb (Nat.le_refl _) hlo hhi true
      simp at b2
      have hl0 : l = 0 := by omega
      have hq0 : q = 0 := by omega
      subst hl0; subst hq0
      refine good_value I h (runS (.slice none 0 0) (fun d hd => by rw [hu] at hd; cases hd; simp) ?_ ⟨_, hu⟩) (rel1 (.inl ⟨by simp [slc], rfl⟩)) (names1 rfl)
      simp only [Instr.slice, hp]
      simp [run_underlying hu, hbv, hte.sizeOf]
    · have hp := List.singleton_inj.1 hp
      have hbv := bounds_val (P := P) (w := w) (cap := cap) (a := a) (n := xs.length) hb hc hlo hhi true
      have hlen := slc_length xs l q b0 b1 b2
      refine good_value I h (runS (.slice (some ⟨b, if cap = l.toNat then p else p + l.toNat * e'.size, none⟩) (q.toNat - l.toNat) (cap - l.toNat)) (fun d hd => by rw [hu] at hd; cases hd; simp) ?_ ⟨_, hu⟩) (rel1 (.inr ⟨b, if cap = l.toNat then p else p + l.toNat * e'.size, cap - l.toNat, by rw [hlen]; congr 2; omega, by omega, ha, hbl, fun i y hy => ?_⟩)) (names1 rfl)
      · simp only [Instr.slice, hp]
        simp [run_underlying hu, hbv, hte.sizeOf, addAt]
        split <;> rfl
      · have hy' := slc_get xs l q i y hy
        obtain ⟨us, k1, k2⟩ := hxs _ _ hy'
        refine ⟨us, k1, ?_⟩
        have hil : i < (slc xs l q).length := (List.getElem?_eq_some_iff.1 hy).1
        rw [if_neg (by omega), ← hsz, Nat.add_assoc, ← Nat.add_mul]
        exact k2
  · rename_i n ex
    split at h
    case h_2 => cases h
    rename_i e' e b' xs ht hT
    split at h
    case h_2 => cases h
    rename_i hsz
    have hsz := Nat.eq_of_beq_eq_true hsz
    obtain ⟨te, hu, hte⟩ := (hE.at ht).sl
    have hx0 := hx
    rw [ex] at hx hN
    have hp := RelC.leaf hx
    simp only [RelL] at hp
    obtain ⟨l0, hl0, k1, k2, k3, k4⟩ := I.ent n _ hT
    have hq := List.singleton_inj.1 (hp.2.2 l0 hl0)
    have main : ∀ l q, Bd (lo.map ev) (hi.map ev) xs.length l q → (Instr.slice t (a.eval x) (lo.map a.eval) (hi.map a.eval) none).run P w =
        .ok (.slice ((base l0).map fun b => if l0.cap = l.toNat then b else b.add (l.toNat * e'.size)) (q.toNat - l.toNat) (l0.cap - l.toNat)) w := by
      intro l q hb
      have hbv := bounds_val (P := P) (w := w) (cap := l0.cap) (a := a) (n := l0.len) (by rw [k1]; exact hb) k3 hlo hhi true
      simp only [Instr.slice, hq]
      simp [run_underlying hu, hbv, hte.sizeOf]
      cases base l0 <;> simp <;> split <;> rfl
    have arrNot : ∀ d, P.underlying t = some d → (∀ m e, d ≠ .array m e) := fun d hd => by rw [hu] at hd; cases hd; simp
    split at h
    · rename_i hlo0 hhi0
      have hm := main 0 xs.length ⟨.inl ⟨hlo0, rfl⟩, .inl ⟨hhi0, rfl⟩, by omega, by omega, by omega⟩
      refine good_value I h (runS (a.eval x) arrNot ?_ ⟨_, hu⟩) hx fun m hm => .inl (hN m hm)
      rw [hm, hq]
      have : (base l0).map (fun b => if l0.cap = (0 : Int).toNat then b else b.add ((0 : Int).toNat * e'.size)) = base l0 := by
        cases base l0 <;> simp [Addr.add]
      rw [this, k1]
      simp
    · have hn : (0 : Int) ≤ xs.length := by omega
      obtain ⟨l, q, hb, h⟩ := slice_go (K := fun v => K v []) (n := xs.length) (R := fun l h => .v false [.view n l h]) h hn
      have hb' := hb
      obtain ⟨_, _, b0, b1, b2⟩ := hb'
      refine good_value I h (runS _ arrNot (main l q hb) ⟨_, hu⟩) (rel1 ⟨rfl, by simp [Value.oneCell'], fun l' hl' => ?_⟩) fun m hm => .inl (hN m (by simpa [namesOf, namesV] using hm))
      rw [hl0] at hl'; cases hl'
      refine ⟨b0, b1, by rw [k1]; exact b2, ?_⟩
      cases hbk : l0.blk with
      | none =>
        left
        refine ⟨rfl, ?_⟩
        rcases k4 with ⟨_, rfl, hc0⟩ | ⟨b, _, _, _, hb', _⟩
        · simp at b2
          have e1 : q.toNat - l.toNat = 0 := by omega
          simp [base, hbk, e1, hc0]
        · rw [hbk] at hb'; cases hb'
      | some b =>
        right
        refine ⟨b, if l0.cap = l.toNat then 0 else l.toNat * e'.size, l0.cap - l.toNat, rfl, ?_, by omega, fun hlt => ?_⟩
        · simp only [base, hbk, Option.map_some, addAt, Nat.zero_add]
          congr 2
          · split <;> rfl
          · omega
        · rw [if_neg (by omega), k2, hsz]
  · rename_i n p q ex
    split at h
    case h_2 => cases h
    rename_i e' e b' xs ht hT
    split at h
    case h_2 => cases h
    rename_i hsz
    have hsz := Nat.eq_of_beq_eq_true hsz
    obtain ⟨te, hu, hte⟩ := (hE.at ht).sl
    rw [ex] at hx hN
    have hp := RelC.leaf hx
    simp only [RelL] at hp
    obtain ⟨l0, hl0, k1, k2, k3, k4⟩ := I.ent n _ hT
    obtain ⟨g0, g1, g2, g3⟩ := hp.2.2 l0 hl0
    obtain ⟨l, m, hb, h⟩ := slice_go (K := fun v => K v []) (n := q - p) (R := fun l h => .v false [.view n (p + l) (p + h)]) h (by omega)
    have hb' := hb
    obtain ⟨_, _, b0, b1, b2⟩ := hb'
    have arrNot : ∀ d, P.underlying t = some d → (∀ m e, d ≠ .array m e) := fun d hd => by rw [hu] at hd; cases hd; simp
    rcases g3 with ⟨hbk, hq⟩ | ⟨b, off, c, hbk, hq, hc, ho⟩
    · have hq := List.singleton_inj.1 hq
      rcases k4 with ⟨_, rfl, hc0⟩ | ⟨b, _, _, _, hb', _⟩
      · simp at k1
        have e1 : l = 0 := by omega
        have e2 : m = 0 := by omega
        have e3 : q - p = 0 := by omega
        subst e1; subst e2
        rw [e3] at hb
        have hbv := bounds_val (P := P) (w := w) (cap := 0) (a := a) (n := 0) hb (Nat.le_refl _) hlo hhi true
        refine good_value I h (runS (.slice none 0 0) arrNot ?_ ⟨_, hu⟩) (rel1 ⟨rfl, by simp [Value.oneCell'], fun l' hl' => ?_⟩) fun m hm => .inl (hN m (by simpa [namesOf, namesV] using hm))
        · simp only [Instr.slice, hq]
          simp [run_underlying hu, hbv, hte.sizeOf]
        · rw [hl0] at hl'; cases hl'
          exact ⟨by omega, by omega, by omega, .inl ⟨hbk, rfl⟩⟩
      · rw [hbk] at hb'; cases hb'
    · have hq := List.singleton_inj.1 hq
      have hbv := bounds_val (P := P) (w := w) (cap := c) (a := a) (n := (q - p).toNat) (by rw [show (((q - p).toNat : Nat) : Int) = q - p by omega]; exact hb) hc hlo hhi true
      refine good_value I h (runS (.slice (some ⟨b, if c = l.toNat then off else off + l.toNat * e'.size, none⟩) (m.toNat - l.toNat) (c - l.toNat)) arrNot ?_ ⟨_, hu⟩) (rel1 ⟨rfl, by simp [Value.oneCell'], fun l' hl' => ?_⟩) fun m hm => .inl (hN m (by simpa [namesOf, namesV] using hm))
      · simp only [Instr.slice, hq]
        simp [run_underlying hu, hbv, hte.sizeOf, addAt]
        split <;> rfl
      · rw [hl0] at hl'; cases hl'
        refine ⟨by omega, by omega, by omega, .inr ⟨b, _, _, hbk, by congr 2; omega, by omega, fun hlt => ?_⟩⟩
        have hpq : p < q := by omega
        rw [if_neg (by omega), ho hpq, ← hsz, ← k2, ← Nat.add_mul]
        congr 1
        omega
  · cases h

theorem good_field (hE : TysOk P E) (I : Inv S w0 ι T w) {ev : Operand → Val} {t : TypeId} {x : Operand} {f : Nat} {E' : Env} {nm' : Nat} {K : Val → List (Nat × Option Entry) → Option ρ} (hop : o.op = .field t x f)
    (hx : RelV w (Av S ι) ι (ev x) (a.eval x)) (hN : ∀ n ∈ namesOf (ev x), N n) (h : opK E T nm' ev (.field t x f) K = some r) : Good P S w0 ι T w nm o a N K r := by
  simp only [opK] at h
  split at h
  case h_2 => cases h
  rename_i c cs ht ex
  split at h
  case h_2 => cases h
  rename_i off φ hfa
  split at h
  case h_2 => cases h
  rename_i cs' hg
  obtain ⟨fs, hu, hf⟩ := (hE.at ht).st
  obtain ⟨fd, hfd, ho, hφ⟩ := hf.at hfa
  rw [Array.getElem?_toList] at hfd
  rw [ex] at hx hN
  obtain ⟨vs, hv, hr⟩ := hx
  have hr' := hr.get hg
  have hl : ((vs.toList.drop off).take φ.size).length = φ.size := by rw [hr'.length, getC_widths hg]
  refine good_value I h (v' := mkV φ ((vs.toList.drop off).take φ.size)) ?_ (rel_mkV hφ hr' hl) fun n hn => .inl (hN n (names_get hg n hn))
  have hpart : (part fd.type vs off).run P w = .ok (mkV φ ((vs.toList.drop off).take φ.size)) w := by
    unfold part mkV
    by_cases ha : φ.agg = true
    · simp [hφ.agg, ha, hφ.sizeOf]
      apply Array.ext'
      simp
    · have ha' : φ.agg = false := by simpa using ha
      have hs := hφ.size_one ha'
      rw [hs] at hl ⊢
      have hlt : off < vs.size := by simp at hl; omega
      simp [hφ.agg, ha', Array.getElem?_eq_getElem hlt]
  simp only [execOp, hop, hv, Instr.field]
  simp [run_underlying hu, hfd, asAgg, ho, hpart]

end
end Go.Proofs.Ytacmfiddaklkiab.Lift
