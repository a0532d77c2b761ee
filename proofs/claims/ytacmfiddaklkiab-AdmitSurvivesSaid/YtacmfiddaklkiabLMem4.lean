/- 'Lift': append, copy, make, conversions, the smaller and the larger of two. -/
import Derived.Test.YtacmfiddaklkiabLMem3
import Derived.Lib.ConvBytes
import Derived.Laws.BytesString
import Derived.Laws.MakeOwn
import Derived.Laws.Small
set_option linter.unusedVariables false
set_option linter.unusedSimpArgs false
namespace Go.Proofs.Ytacmfiddaklkiab.Lift
open Go Go.RowKit

section
variable {P : Program} {S : Nat → Prop} {w0 w : World} {ι : Inj} {T : Tab} {nm : Nat} {o : Oper} {a : Act} {N : Nat → Prop} {ρ : Type} {r : ρ} {E : Env}

theorem Info.zeroE {τ : Ty} {t : TypeId} {i : TypeInfo} (h : Info P τ t i) {w : World} {A : Nat → Prop} : ∃ z, i.zero = some z ∧ Enc w A τ τ.dflt z.cells.toList := by
  obtain ⟨z, hz, h1, h2⟩ := h.zero
  refine ⟨z, hz, ?_⟩
  cases ha : τ.agg with
  | true =>
    obtain ⟨cs, rfl, hc⟩ := h1 ha
    obtain ⟨us, e, hr⟩ := zeroChk_enc (w := w) (A := A) hc
    rw [List.append_nil] at e
    show Enc w A τ τ.dflt cs.toList
    rw [e]; exact hr
  | false =>
    obtain ⟨hc, hcz⟩ := h2 ha
    obtain ⟨us, e, hr⟩ := zeroChk_enc (w := w) (A := A) hc
    rw [List.append_nil] at e
    rw [hcz]
    show Enc w A τ τ.dflt [z]
    rw [e]; exact hr

/-- A nil row under a new name. -/
theorem Inv.bare (I : Inv S w0 ι T w) {l : Loc} {e : Entry} (hnm : T nm = none) (hfr : ∀ m p, T m = some p → ∀ q ∈ entNames p.2, q ≠ nm) (hb : l.blk = none)
    (he : ∀ ι' : Inj, ι' nm = some l → EntOk w (Av S ι') ι' nm e) :
    ∃ ι' : Inj, ι' nm = some l ∧ (∀ m, m ≠ nm → ι' m = ι m) ∧ Inv S w0 ι' (upd T [(nm, some e)]) w ∧ Turn w w (Av S ι) (Av S ι') := by
  have ht : Turn w w (Av S ι) (Av S fun m => if m = nm then some l else ι m) := Turn.less w fun b hA => by
    rcases hA with hA | ⟨m, q, hm, hb'⟩
    · exact .inl hA
    · by_cases hmn : m = nm
      · simp [hmn] at hm; subst hm; rw [hb] at hb'; cases hb'
      · simp [hmn] at hm; exact .inr ⟨m, q, hm, hb'⟩
  refine ⟨fun m => if m = nm then some l else ι m, by simp, fun m hm => by simp [hm], I.step (Below.refl _ _) ht (fun m q b hm hb' => ?_) (fun m m' q q' b hm hm' hb1 hb2 => ?_) (fun m p hp => ?_) (fun m q hm => ?_), ht⟩
  · by_cases hmn : m = nm
    · simp [hmn] at hm; subst hm; rw [hb] at hb'; cases hb'
    · simp [hmn] at hm; exact I.fresh m q b hm hb'
  · by_cases hmn : m = nm
    · simp [hmn] at hm; subst hm; rw [hb] at hb1; cases hb1
    · by_cases hmn' : m' = nm
      · simp [hmn'] at hm'; subst hm'; rw [hb] at hb2; cases hb2
      · simp [hmn] at hm; simp [hmn'] at hm'
        exact I.inj m m' q q' b hm hm' hb1 hb2
  · simp only [upd, lk] at hp
    by_cases hmn : m = nm
    · subst hmn
      rw [show Nat.beq m m = true from Nat.beq_refl m] at hp
      simp only [Option.some.injEq] at hp
      subst hp
      exact .inr (he _ (by simp))
    · have : Nat.beq nm m = false := by cases hb : Nat.beq nm m; rfl; exact absurd (Nat.eq_of_beq_eq_true hb).symm hmn
      rw [this] at hp
      exact .inl ⟨p, hp, rfl, by simp [hmn], fun q hq => .inl (by simp [hfr m p hp q hq]), fun _ _ _ _ => rfl⟩
  · simp only [upd, lk]
    cases hb : Nat.beq nm m
    · have hmn : ¬ m = nm := fun h => by rw [h, Nat.beq_refl] at hb; cases hb
      simp [hmn] at hm
      exact I.dom m q hm
    · rfl

theorem rel_own {A : Nat → Prop} {ι' : Inj} {n : Nat} {l : Loc} (h : ι' n = some l) : RelV w A ι' (.v false [.own n]) (.slice (base l) l.len l.cap) :=
  rel1 ⟨rfl, by simp [Value.oneCell'], fun l' hl' => by rw [h] at hl'; cases hl'; rfl⟩

theorem names_own : ∀ n ∈ namesOf (.v false [.own nm]), N n ∨ In16 nm n := by
  intro n hn; simp [namesOf, namesV] at hn; subst hn; exact .inr ⟨Nat.le_refl _, by omega⟩

/-- A new row, its block new. -/
theorem does_row (I : Inv S w0 ι T w) (hnm : T nm = none) (hfr : ∀ m p, T m = some p → ∀ q ∈ entNames p.2, ¬ In16 nm q) {w' : World} {cs : Array Value} {el : TypeId} {fz : Nat × Nat} {e : Ty} {xs : List e.den} {cap : Nat} {us : List Value}
    (hw : w'.heap = w.heap.push (.cells cs el fz) ∧ w'.os = w.os ∧ w'.tape = w.tape ∧ w'.output = w.output) (hf : Unfrozen fz cs.size) (hs : cs.size = cap * e.size) (hc : xs.length ≤ cap)
    (hx : Enc w (Av S ι) (.arr xs.length e) xs us) (hcs : cs.toList.take us.length = us) :
    ∃ ι' : Inj, Inv S w0 ι' (upd T [(nm, some (.arr e xs))]) w' ∧ Turn w w' (Av S ι) (Av S ι') ∧ (∀ m, ι' m = ι m ∨ ι' m = none ∨ In16 nm m) ∧ RelV w' (Av S ι') ι' (.v false [.own nm]) (.slice (some ⟨w.heap.size, 0, none⟩) xs.length cap) := by
  have hin : In16 nm nm := ⟨Nat.le_refl _, by omega⟩
  have hhn : w'.heap[w.heap.size]? = some (.cells cs el fz) := by rw [hw.1]; simp
  obtain ⟨ι', h1, h2, I', ht⟩ := I.alloc (l := ⟨some w.heap.size, xs.length, cap, e.size⟩) (e := .arr e xs) hnm (fun m p hp q hq hqn => hfr m p hp q hq (by rw [hqn]; exact hin)) rfl hw (fun ι' h1 h2 ht => by
    refine ⟨_, h1, rfl, rfl, hc, .inr ⟨w.heap.size, cs, el, fz, rfl, hhn, hf, hs, ?_⟩⟩
    have := rows_at (w' := w') (b := w.heap.size) (p := 0) (hx.turn ht) (by
      have := cells_of_heap hhn 0 us.length
      rwa [List.drop_zero, hcs] at this)
    simpa using this)
  refine ⟨ι', I', ht, fun m => ?_, rel_own h1⟩
  by_cases hm : m = nm
  · exact .inr (.inr (by rw [hm]; exact hin))
  · exact .inl (h2 m hm)

theorem good_row (I : Inv S w0 ι T w) (hnm : T nm = none) (hfr : ∀ m p, T m = some p → ∀ q ∈ entNames p.2, ¬ In16 nm q) {w' : World} {cs : Array Value} {el : TypeId} {fz : Nat × Nat} {e : Ty} {xs : List e.den} {cap : Nat} {us : List Value} {K : Val → List (Nat × Option Entry) → Option ρ}
    (hrun : (execOp a.eval o).run P w = .ok (.value (.slice (some ⟨w.heap.size, 0, none⟩) xs.length cap)) w')
    (hw : w'.heap = w.heap.push (.cells cs el fz) ∧ w'.os = w.os ∧ w'.tape = w.tape ∧ w'.output = w.output) (hf : Unfrozen fz cs.size) (hs : cs.size = cap * e.size) (hc : xs.length ≤ cap)
    (hx : Enc w (Av S ι) (.arr xs.length e) xs us) (hcs : cs.toList.take us.length = us) (h : K (.v false [.own nm]) [(nm, some (.arr e xs))] = some r) : Good P S w0 ι T w nm o a N K r := by
  have hin : In16 nm nm := ⟨Nat.le_refl _, by omega⟩
  refine ⟨_, _, h, fun next Q hn => ?_, ⟨names_own, ?_⟩, fun p hp => by simp at hp; subst hp; exact .inl hin⟩
  · show o.upon P a next Q ((execOp a.eval o).run P w)
    rw [hrun]
    obtain ⟨ι', I', ht, hι, hr⟩ := does_row I hnm hfr hw hf hs hc hx hcs
    exact hn _ _ ι' I' ht hι hr
  · intro p hp
    simp at hp
    subst hp
    exact ⟨.inr hin, fun e he n hn => by cases he; simp [entNames] at hn⟩

theorem TysOk.elem (hE : TysOk P E) {t : TypeId} {e : Ty} {bytes : Nat} (h : lk E.tys t = some ⟨.sl e, bytes⟩) : ∃ te i z, P.underlying t = some (.slice te) ∧ TyOk P e te ∧ Info P e te i ∧ i.bytes = bytes ∧ 0 < bytes ∧ i.zero = some z ∧ ∀ (w : World) (A : Nat → Prop), Enc w A e e.dflt z.cells.toList := by
  obtain ⟨te, hu, hte⟩ := (hE.ty t _ h).sl
  obtain ⟨i, hi⟩ := hte.info
  obtain ⟨hb, hpos⟩ := hE.bytes t _ h te hu
  rw [hi.info] at hb
  simp at hb
  obtain ⟨z, hz, _⟩ := hi.zero
  refine ⟨te, i, z, hu, hte, hi, hb, hpos, hz, fun w A => ?_⟩
  obtain ⟨z', hz', he⟩ := hi.zeroE (w := w) (A := A)
  rw [hz] at hz'; cases hz'
  exact he

theorem good_append (hE : TysOk P E) (I : Inv S w0 ι T w) (hnm : ∀ n, In16 nm n → T n = none) (hfr : ∀ m p, T m = some p → ∀ q ∈ entNames p.2, ¬ In16 nm q) {ev : Operand → Val} {t t2 : TypeId} {s x : Operand} {c : Call} {K : Val → List (Nat × Option Entry) → Option ρ}
    (hop : o.op = .call c) (hc : c.callee = .builtin .append) (ha : c.args.toList = [s, x]) (hat : c.argTypes.toList = [t, t2])
    (hs : RelV w (Av S ι) ι (ev s) (a.eval s)) (hx : RelV w (Av S ι) ι (ev x) (a.eval x)) (hN : ∀ n ∈ namesOf (ev s), N n) (h : appendK E T nm t t2 (ev s) (ev x) K = some r) : Good P S w0 ι T w nm o a N K r := by
  have hin : In16 nm nm := ⟨Nat.le_refl _, by omega⟩
  have hargs : c.args = #[s, x] := by apply Array.ext'; simpa using ha
  have htys : c.argTypes = #[t, t2] := by apply Array.ext'; simpa using hat
  have run : ∀ v w', (Builtin.append_ #[t, t2] o.type #[a.eval s, a.eval x]).run P w = .ok v w' → (execOp a.eval o).run P w = .ok (.value v) w' := by
    intro v w' hv
    simp only [execOp, hop, resolve, hc, hargs, htys]
    simp [invoke, builtin, hv]
  unfold appendK at h
  split at h
  case h_2 => cases h
  rename_i e bytes hseq ht
  have hk := seq_kind hE hseq
  obtain ⟨te, i, z, hu, hte, hi, hby, hpos, hz, hz0⟩ := hE.elem ht
  have hzs : z.cells.size = e.size := by have := (hz0 w (fun _ => False)).length; simpa using this
  split at h
  case h_1 => cases h
  rename_i ys hys
  obtain ⟨news, hnews⟩ := source_src (P := P) I hys hx
  have hsrc := hnews.src hk
  rw [← hi.size] at hsrc
  have hnl := hnews.enc.length
  simp only [Ty.size] at hnl
  -- the arm that grows
  have grow : ∀ {l : Loc} {xs : List e.den} {olds : List Value}, SrcOk P w (Av S ι) e xs (.slice (base l) l.len l.cap) olds → l.cap < xs.length + ys.length → (xs.length + ys.length) * bytes ≤ 70368744177664 →
      ∃ w' cs, (Builtin.append_ #[t, t2] o.type #[.slice (base l) l.len l.cap, a.eval x]).run P w = .ok (.slice (some ⟨w.heap.size, 0, none⟩) (xs ++ ys).length (grownCap w (xs ++ ys).length l.cap te)) w' ∧
        (w'.heap = w.heap.push (.cells cs te (0, 0)) ∧ w'.os = w.os ∧ w'.tape = w.tape ∧ w'.output = w.output) ∧ Unfrozen (0, 0) cs.size ∧ cs.size = grownCap w (xs ++ ys).length l.cap te * e.size ∧
        (xs ++ ys).length ≤ grownCap w (xs ++ ys).length l.cap te ∧ cs.toList.take (olds ++ news).length = olds ++ news := by
    intro l xs olds hold hg hby'
    have hlen : l.len = xs.length := by
      have := hold.len w
      simp [Builtin.lenOf] at this
      exact this
    have hol := hold.enc.length
    simp only [Ty.size] at hol
    have hmul : (xs.length + ys.length) * 1 ≤ (xs.length + ys.length) * bytes := Nat.mul_le_mul_left _ hpos
    have hfc := hold.get xs.length (Nat.le_refl _) w.drew rfl
    rw [List.take_of_length_le (by omega)] at hfc
    have hr := run_append_grow_src (P := P) w t t2 o.type te i z hu hi.info hz (base l) xs.length l.cap olds (by rw [hi.size]; rw [hlen] at hfc; exact hfc) (a.eval x) ys.length news hsrc hg (by omega) (growslice_fits hg (by rw [hby]; omega))
    rw [hlen]
    rw [← List.length_append] at hr
    refine ⟨_, _, hr, ⟨rfl, rfl, rfl, rfl⟩, fun q _ hq => by simp at hq, ?_, ?_, ?_⟩
    · have := grownCap_ge w (xs ++ ys).length l.cap te
      rw [Array.size_append, List.size_toArray, size_zeroCells, hzs, List.length_append, hol, hnl, ← Nat.add_mul, ← Nat.add_mul]
      congr 1
      rw [List.length_append] at this ⊢
      omega
    · exact grownCap_ge _ _ _ _
    · rw [Array.toList_append]; exact List.take_left
  split at h
  · -- onto nil
    rename_i es
    rw [es] at hs
    have hsv := RelC.leaf hs
    simp only [RelL] at hsv
    have hsv := List.singleton_inj.1 hsv
    split at h
    case isFalse => cases h
    rename_i hby'
    by_cases h0 : ys.length = 0
    · have hy0 := List.eq_nil_of_length_eq_zero h0
      refine ⟨_, _, h, fun next Q hn => ?_, ⟨names_own, ?_⟩, fun p hp => by simp at hp; subst hp; exact .inl hin⟩
      · show o.upon P a next Q ((execOp a.eval o).run P w)
        have hr : (Builtin.append_ #[t, t2] o.type #[a.eval s, a.eval x]).run P w = .ok (.slice none 0 0) w := by
          have hfc := hnews.get 0 (by omega) w rfl
          rw [← hi.size] at hfc
          have hl := hnews.len
          rw [h0] at hl
          rw [hsv]
          rcases hk with ⟨e', hk⟩ | hk <;> simp [Builtin.append_, run_underlying hu, run_underlying hk, sizeOf, typeInfo, hi.info, hl, hfc]
        rw [run _ _ hr]
        obtain ⟨ι', h1, h2, I', htn⟩ := I.bare (l := ⟨none, 0, 0, e.size⟩) (e := .arr e ys) (hnm nm hin) (fun m p hp q hq hqn => hfr m p hp q hq (by rw [hqn]; exact hin)) rfl
          (fun ι' h1 => ⟨_, h1, by simp [h0], rfl, Nat.le_refl _, .inl ⟨rfl, hy0, rfl⟩⟩)
        refine hn _ _ ι' I' htn (fun m => ?_) (rel_own h1)
        by_cases hm : m = nm
        · exact .inr (.inr (by rw [hm]; exact hin))
        · exact .inl (h2 m hm)
      · intro p hp
        simp at hp
        subst hp
        exact ⟨.inr hin, fun e he n hn => by cases he; simp [entNames] at hn⟩
    · obtain ⟨w', cs, h1, h2, h3, h4, h5, h6⟩ := grow (l := ⟨none, 0, 0, e.size⟩) (xs := []) (olds := []) src_nil (by simp; omega) (by simpa using hby')
      rw [List.nil_append] at h1 h5 h6
      refine good_row I (hnm nm hin) hfr (xs := ys) (us := news) (run _ _ (by rw [hsv]; exact h1)) h2 h3 h4 h5 hnews.enc h6 h
  · -- onto a row of ours
    rename_i n es
    rw [es] at hs hN
    have hNn : N n := hN n (by simp [namesOf, namesV])
    have hsv := RelC.leaf hs
    simp only [RelL] at hsv
    split at h
    case h_2 => cases h
    rename_i e' xs0 hT
    split at h
    case h_2 => cases h
    rename_i xs hxs
    split at h
    case isFalse => cases h
    rename_i hby'
    obtain ⟨l, hl, ho⟩ := I.ent n _ hT
    obtain ⟨rfl, rfl⟩ := castL_some hxs
    have hsv := List.singleton_inj.1 (hsv.2.2 l hl)
    have hne : ¬ n = nm := fun h => by have := hnm n (by rw [h]; exact hin); rw [hT] at this; cases this
    have hfr' : ∀ m p, T m = some p → ∀ q ∈ entNames p.2, q ≠ nm := fun m p hp q hq hqn => hfr m p hp q hq (by rw [hqn]; exact hin)
    have hNO : NOk N nm (.v false [.own nm]) [(n, none), (nm, some (.arr e' (xs ++ ys)))] := by
      refine ⟨names_own, ?_⟩
      intro p hp
      simp at hp
      rcases hp with rfl | rfl
      · exact ⟨.inl hNn, fun e he => by cases he⟩
      · exact ⟨.inr hin, fun e he n hn => by cases he; simp [entNames] at hn⟩
    obtain ⟨olds, hold⟩ := row_src (P := P) ho
    refine ⟨_, _, h, fun next Q hn => ?_, hNO, fun p hp => by
      simp at hp
      rcases hp with rfl | rfl
      · exact .inr ⟨_, hT⟩
      · exact .inl hin⟩
    show o.upon P a next Q ((execOp a.eval o).run P w)
    obtain ⟨k1, k2, k3, k4⟩ := ho
    by_cases hroom : xs.length + ys.length ≤ l.cap
    · -- there is room
      rcases k4 with ⟨hb, rfl, hc0⟩ | ⟨b, vs, el, fz, hb, hh, hf, hsz, hxe⟩
      · have h0 : ys.length = 0 := by simp at hroom; omega
        have hy0 := List.eq_nil_of_length_eq_zero h0
        have hl0 : l.len = 0 := by simpa using k1
        have hr : (Builtin.append_ #[t, t2] o.type #[a.eval s, a.eval x]).run P w = .ok (.slice none 0 0) w := by
          have hfc := hnews.get 0 (by omega) w rfl
          rw [← hi.size] at hfc
          have hlx := hnews.len
          rw [h0] at hlx
          rw [hsv, base, hb, hc0, hl0]
          rcases hk with ⟨e', hk⟩ | hk <;> simp [Builtin.append_, run_underlying hu, run_underlying hk, sizeOf, typeInfo, hi.info, hlx, hfc]
        rw [run _ _ hr]
        obtain ⟨ι', h1, h2, I', htn⟩ := I.swap (w' := w) (l' := ⟨none, 0, 0, e'.size⟩) (e := .arr e' ([] ++ ys)) hT hl (hnm nm hin) hfr' hb.symm ⟨fun _ _ => rfl, rfl, rfl, rfl, rfl⟩
          (fun ι' h1 _ => ⟨_, h1, by simp [h0], rfl, Nat.le_refl _, .inl ⟨rfl, by simp [hy0], rfl⟩⟩)
        refine hn _ _ ι' I' htn (fun m => ?_) (rel_own h1)
        rcases h2 m with h2 | h2 | h2
        · exact .inl h2
        · exact .inr (.inl h2)
        · exact .inr (.inr (by rw [h2]; exact hin))
      · have hmul := Nat.mul_le_mul_right e'.size hroom
        rw [Nat.add_mul] at hmul
        have hol := hold.enc.length
        simp only [Ty.size] at hol
        have hr := run_append_room_src (P := P) w t t2 o.type te i hu hi.info b 0 l.len l.cap (a.eval x) ys.length news hsrc (by omega)
          (fun j hj => cells_at hh (by rw [hi.size, k1]; omega)) (fun j hj => unfrozen_at hh hf (by rw [hi.size, k1]; omega))
        rw [run _ _ (by rw [hsv, base, hb]; exact hr)]
        rw [hi.size, Nat.zero_add, k1]
        obtain ⟨q1, q2, q3, q4, q5, q6⟩ := setCells_heap b news (xs.length * e'.size) w hh (by omega)
        have hnb : ∀ k, l.blk ≠ some k → (w.setCells b (xs.length * e'.size) news).heap[k]? = w.heap[k]? := fun k hk => q2 k fun hkb => hk (by rw [hb, hkb])
        obtain ⟨ι', h1, h2, I', htn⟩ := I.swap (w' := w.setCells b (xs.length * e'.size) news) (l' := ⟨some b, xs.length + ys.length, l.cap, e'.size⟩) (e := .arr e' (xs ++ ys)) hT hl (hnm nm hin) hfr' hb.symm ⟨hnb, q3, q4, q5, q6⟩
          (fun ι' h1 htn => by
            refine ⟨_, h1, by simp, rfl, hroom, .inr ⟨b, _, el, fz, rfl, q1, ?_, ?_, ?_⟩⟩
            · intro q hq; refine hf q ?_
              rw [List.size_toArray, splice_length (by have := vs.length_toList; omega)] at hq; simpa using hq
            · rw [List.size_toArray, splice_length (by have := vs.length_toList; omega)]; simpa using hsz
            · intro j y hy
              by_cases hj : j < xs.length
              · rw [List.getElem?_append_left hj] at hy
                obtain ⟨us, e1, e2⟩ := hxe j y hy
                refine ⟨us, e1.turn htn, ?_⟩
                have hw1 := cells_window hh e2
                rw [e1.length] at hw1
                have := cells_of_heap q1 (j * e'.size) e'.size
                have hsp : ((vs.toList.take (xs.length * e'.size) ++ (news ++ vs.toList.drop (xs.length * e'.size + news.length))).drop (j * e'.size)).take e'.size = (vs.toList.drop (j * e'.size)).take e'.size := by
                  have hj2 := Nat.mul_le_mul_right e'.size (show j + 1 ≤ xs.length from hj)
                  rw [Nat.succ_mul] at hj2
                  apply List.ext_getElem?
                  intro p
                  rw [window_get, window_get]
                  split
                  · rw [splice_get _ _ _ _ (by have := vs.length_toList; omega), if_pos (by omega)]
                  · rfl
                simp only [List.toList_toArray, hsp] at this
                rwa [← hw1] at this
              · rw [List.getElem?_append_right (by omega)] at hy
                have hen := hnews.enc
                simp only [Enc] at hen
                have hel := hen.2.2 _ y hy
                refine ⟨_, hel.turn htn, ?_⟩
                have := cells_of_heap q1 (j * e'.size) e'.size
                have hjl : j - xs.length < ys.length := (List.getElem?_eq_some_iff.1 hy).1
                have hj2 := Nat.mul_le_mul_right e'.size (show j - xs.length + 1 ≤ ys.length from hjl)
                rw [Nat.succ_mul] at hj2
                have hjj : j * e'.size = xs.length * e'.size + (j - xs.length) * e'.size := by rw [← Nat.add_mul]; congr 1; omega
                have hsp : ((vs.toList.take (xs.length * e'.size) ++ (news ++ vs.toList.drop (xs.length * e'.size + news.length))).drop (j * e'.size)).take e'.size = (news.drop ((j - xs.length) * e'.size)).take e'.size := by
                  apply List.ext_getElem?
                  intro p
                  rw [window_get, window_get]
                  split
                  · rw [splice_get _ _ _ _ (by have := vs.length_toList; omega), if_neg (by omega), if_pos (by omega)]
                    congr 1; omega
                  · rfl
                simp only [List.toList_toArray, hsp] at this
                exact this)
        refine hn _ _ ι' I' htn (fun m => ?_) (rel_own h1)
        rcases h2 m with h2 | h2 | h2
        · exact .inl h2
        · exact .inr (.inl h2)
        · exact .inr (.inr (by rw [h2]; exact hin))
    · -- it grows
      obtain ⟨w', cs, h1, h2, h3, h4, h5, h6⟩ := grow hold (by omega) hby'
      rw [run _ _ (by rw [hsv]; exact h1)]
      obtain ⟨I1, ht1⟩ := I.drop n
      have hT1 : ∀ m p, upd T [(n, none)] m = some p → T m = some p := by
        intro m p hp
        simp only [upd, lk] at hp
        cases hb : Nat.beq n m
        · simpa [hb] using hp
        · simp [hb] at hp
      have hn1 : upd T [(n, none)] nm = none := by
        have e1 : Nat.beq n nm = false := by cases hb : Nat.beq n nm; rfl; exact absurd (Nat.eq_of_beq_eq_true hb) hne
        simp only [upd, lk, e1]
        exact hnm nm hin
      have hen := enc_append hold.enc hnews.enc
      obtain ⟨ι', I', ht2, h7, h8⟩ := does_row (xs := xs ++ ys) (us := olds ++ news) I1 hn1 (fun m p hp => hfr m p (hT1 m p hp)) h2 h3 h4 h5 (by rw [List.length_append]; exact hen.turn ht1) h6
      rw [upd_two hT (hnm nm hin)] at I'
      refine hn _ _ ι' I' (ht1.trans ht2) (fun m => ?_) h8
      rcases h7 m with h7 | h7 | h7
      · by_cases hm : m = n
        · exact .inr (.inl (by rw [h7]; simp [hm]))
        · exact .inl (by rw [h7]; simp [hm])
      · exact .inr (.inl h7)
      · exact .inr (.inr h7)
  · cases h

end
end Go.Proofs.Ytacmfiddaklkiab.Lift
