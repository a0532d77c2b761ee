/- 'Lift': copy, make, conversions, the smaller and the larger of two. -/
import Derived.Test.YtacmfiddaklkiabLMem4
set_option linter.unusedVariables false
set_option linter.unusedSimpArgs false
namespace Go.Proofs.Ytacmfiddaklkiab.Lift
open Go Go.RowKit

section
variable {P : Program} {S : Nat → Prop} {w0 w : World} {ι : Inj} {T : Tab} {nm : Nat} {o : Oper} {a : Act} {N : Nat → Prop} {ρ : Type} {r : ρ} {E : Env}

theorem upd_same {n : Nat} {e : Entry} (h : T n = some (true, e)) : upd T [(n, some e)] = T := by
  funext m
  simp only [upd, lk]
  cases hb : Nat.beq n m
  · rfl
  · rw [← Nat.eq_of_beq_eq_true hb, h]

theorem run_copy_src {t t2 ty te : TypeId} {e : Ty} (hu : P.underlying t = some (.slice te)) (hte : TyOk P e te) {b n c : Nat} {x : Value} {m : Nat} {us : List Value}
    (hl : (Builtin.lenOf x).run P w = .ok m w) (hf : (Builtin.firstCells e.size (Nat.min m n) x).run P w = .ok us.toArray w)
    {vs : Array Value} {el : TypeId} {fz : Nat × Nat} (hh : w.heap[b]? = some (.cells vs el fz)) (hfz : Unfrozen fz vs.size) (hle : us.length ≤ vs.size) (h1 : ∀ u ∈ us, u.oneCell' = true) :
    (Builtin.copy_ #[t, t2] ty #[.slice (some ⟨b, 0, none⟩) n c, x]).run P w = .ok (goInt (Nat.min m n)) (w.setCells b 0 us) := by
  have hs := run_storeCells_cells (P := P) b 0 us 0 w (fun j hj => cells_at hh (by omega)) (fun j hj => unfrozen_at hh hfz (by omega)) h1
  simp [Builtin.copy_, run_underlying hu, hl, hte.sizeOf, hf, hs]

theorem run_copy_nil {t t2 ty te : TypeId} {e : Ty} (hu : P.underlying t = some (.slice te)) (hte : TyOk P e te) {c : Nat} {x : Value} {m : Nat} {us : List Value}
    (hl : (Builtin.lenOf x).run P w = .ok m w) (hf : (Builtin.firstCells e.size 0 x).run P w = .ok us.toArray w) :
    (Builtin.copy_ #[t, t2] ty #[.slice none 0 c, x]).run P w = .ok (goInt 0) w := by
  simp [Builtin.copy_, run_underlying hu, hl, hte.sizeOf, hf]

theorem good_copy (hE : TysOk P E) (I : Inv S w0 ι T w) {ev : Operand → Val} {t t2 : TypeId} {s x : Operand} {c : Call} {K : Val → List (Nat × Option Entry) → Option ρ}
    (hop : o.op = .call c) (hc : c.callee = .builtin .copy) (ha : c.args.toList = [s, x]) (hat : c.argTypes.toList = [t, t2])
    (hs : RelV w (Av S ι) ι (ev s) (a.eval s)) (hx : RelV w (Av S ι) ι (ev x) (a.eval x)) (hN : ∀ n ∈ namesOf (ev s), N n) (h : copyK E T t (ev s) (ev x) K = some r) : Good P S w0 ι T w nm o a N K r := by
  have hargs : c.args = #[s, x] := by apply Array.ext'; simpa using ha
  have htys : c.argTypes = #[t, t2] := by apply Array.ext'; simpa using hat
  have run : ∀ v w', (Builtin.copy_ #[t, t2] o.type #[a.eval s, a.eval x]).run P w = .ok v w' → (execOp a.eval o).run P w = .ok (.value v) w' := by
    intro v w' hv
    simp only [execOp, hop, resolve, hc, hargs, htys]
    simp [invoke, builtin, hv]
  unfold copyK at h
  split at h
  case h_2 => cases h
  rename_i e n ht es
  obtain ⟨te, hu, hte⟩ := (hE.at ht).sl
  rw [es] at hs hN
  have hNn : N n := hN n (by simp [namesOf, namesV])
  have hsv := RelC.leaf hs
  simp only [RelL] at hsv
  split at h
  case h_2 => cases h
  rename_i e' xs0 ys hT hys
  split at h
  case h_2 => cases h
  rename_i xs hxs
  obtain ⟨l, hl, ho⟩ := I.ent n _ hT
  obtain ⟨news, hnews⟩ := source_src (P := P) I hys hx
  obtain ⟨rfl, rfl⟩ := castL_some hxs
  have hsv := List.singleton_inj.1 (hsv.2.2 l hl)
  have hmin : Nat.min ys.length xs.length = min ys.length xs.length := rfl
  refine ⟨_, _, h, fun next Q hn => ?_, ⟨by simp [namesOf, namesV], ?_⟩, fun p hp => by simp at hp; subst hp; exact .inr ⟨_, hT⟩⟩
  · show o.upon P a next Q ((execOp a.eval o).run P w)
    obtain ⟨k1, k2, k3, k4⟩ := ho
    rcases k4 with ⟨hb, rfl, hc0⟩ | ⟨b, vs, el, fz, hb, hh, hf, hsz, hxe⟩
    · have hl0 : l.len = 0 := by simpa using k1
      have hr := run_copy_nil (P := P) (w := w) (t2 := t2) (ty := o.type) (c := l.cap) hu hte (hnews.len w) (hnews.get 0 (by omega) w rfl)
      rw [run _ _ (by rw [hsv, base, hb, hl0]; exact hr)]
      have e0 : ys.take ([] : List e'.den).length ++ ([] : List e'.den).drop ys.length = [] := by simp
      rw [e0, upd_same hT] at hn
      exact hn _ _ ι I (Turn.refl _ _) (fun _ => .inl rfl) (rel1 (by simp [RelL, goInt]))
    · have hen := enc_take hnews.enc (m := min ys.length xs.length) (by omega)
      have hel := hen.length
      simp only [Ty.size] at hel
      have hmm := Nat.mul_le_mul_right e'.size (show min ys.length xs.length ≤ l.cap by omega)
      have hr := run_copy_src (P := P) (w := w) (t2 := t2) (ty := o.type) (c := l.cap) hu hte (hnews.len w) (hnews.get (min ys.length xs.length) (by omega) w rfl) hh hf (by rw [hel]; omega) hen.one
      rw [run _ _ (by rw [hsv, base, hb, k1]; exact hr)]
      obtain ⟨q1, q2, q3, q4, q5, q6⟩ := setCells_heap b (news.take (min ys.length xs.length * e'.size)) 0 w hh (by rw [hel]; omega)
      have ht0 : Turn w (w.setCells b 0 (news.take (min ys.length xs.length * e'.size))) (Av S ι) (Av S ι) := ⟨by omega, fun k hk hA => q2 k fun hkb => hA (.inr ⟨n, l, hl, by rw [hkb]; exact hb⟩), fun _ _ h => h⟩
      have hbound : 0 + (news.take (min ys.length xs.length * e'.size)).length ≤ vs.toList.length := by have := vs.length_toList; omega
      obtain ⟨I', ht'⟩ := I.write (e := .arr e' (ys.take xs.length ++ xs.drop ys.length)) hT hl hb ⟨q2, q3, q4, q5, q6⟩ (by
        refine ⟨l, hl, ?_, k2, k3, .inr ⟨b, _, el, fz, hb, q1, ?_, ?_, ?_⟩⟩
        · rw [k1, List.length_append, List.length_take, List.length_drop]; omega
        · intro q hq; refine hf q ?_
          rw [List.size_toArray, splice_length hbound] at hq; simpa using hq
        · rw [List.size_toArray, splice_length hbound]; simpa using hsz
        · intro j y hy
          have hcell := cells_of_heap q1 (j * e'.size) e'.size
          by_cases hj : j < min ys.length xs.length
          · rw [List.getElem?_append_left (by rw [List.length_take]; omega), List.getElem?_take, if_pos (by omega)] at hy
            have hen' := hnews.enc
            simp only [Enc] at hen'
            refine ⟨_, (hen'.2.2 j y hy).turn ht0, ?_⟩
            have hj2 := Nat.mul_le_mul_right e'.size (show j + 1 ≤ min ys.length xs.length from hj)
            rw [Nat.succ_mul] at hj2
            have hsp : ((vs.toList.take 0 ++ (news.take (min ys.length xs.length * e'.size) ++ vs.toList.drop (0 + (news.take (min ys.length xs.length * e'.size)).length))).drop (j * e'.size)).take e'.size = (news.drop (j * e'.size)).take e'.size := by
              apply List.ext_getElem?
              intro p
              rw [window_get, window_get]
              split
              · rw [splice_get _ _ _ _ hbound, if_neg (by omega), if_pos (by omega), List.getElem?_take, if_pos (by omega)]
                congr 1
              · rfl
            simp only [List.toList_toArray, hsp] at hcell
            exact hcell
          · have hjl : j < xs.length ∧ xs[j]? = some y := by
              by_cases hyl : ys.length ≤ j
              · by_cases hll : ys.length ≤ xs.length
                · rw [List.getElem?_append_right (by rw [List.length_take]; omega), List.length_take, Nat.min_eq_right hll, List.getElem?_drop, show ys.length + (j - ys.length) = j by omega] at hy
                  exact ⟨(List.getElem?_eq_some_iff.1 hy).1, hy⟩
                · rw [List.getElem?_append_right (by rw [List.length_take]; omega), List.drop_eq_nil_of_le (by omega)] at hy
                  cases hy
              · rw [List.getElem?_append_right (by rw [List.length_take]; omega), List.drop_eq_nil_of_le (by omega)] at hy
                cases hy
            obtain ⟨us, e1, e2⟩ := hxe j y hjl.2
            refine ⟨us, e1.turn ht0, ?_⟩
            have hw1 := cells_window hh e2
            rw [e1.length] at hw1
            have hj2 := Nat.mul_le_mul_right e'.size (show min ys.length xs.length ≤ j by omega)
            have hsp : ((vs.toList.take 0 ++ (news.take (min ys.length xs.length * e'.size) ++ vs.toList.drop (0 + (news.take (min ys.length xs.length * e'.size)).length))).drop (j * e'.size)).take e'.size = (vs.toList.drop (j * e'.size)).take e'.size := by
              apply List.ext_getElem?
              intro p
              rw [window_get, window_get]
              split
              · rw [splice_get _ _ _ _ hbound, if_neg (by omega), if_neg (by omega)]
              · rfl
            simp only [List.toList_toArray, hsp] at hcell
            rwa [← hw1] at hcell)
      exact hn _ _ ι I' ht' (fun _ => .inl rfl) (rel1 (by simp [RelL, goInt, hmin]))
  · intro p hp
    simp at hp
    subst hp
    exact ⟨.inl hNn, fun e he n hn => by cases he; simp [entNames] at hn⟩

/-! ### make -/
theorem made_window {z : Array Value} {n i : Nat} (h : i < n) : ((madeCells z (n * z.size)).toList.drop (i * z.size)).take z.size = z.toList := by
  apply List.ext_getElem?
  intro p
  rw [window_get]
  have hi := Nat.mul_le_mul_right z.size (show i + 1 ≤ n from h)
  rw [Nat.succ_mul] at hi
  split
  · rename_i hp
    have hlt : i * z.size + p < n * z.size := by omega
    have hm : (i * z.size + p) % z.size = p := by rw [Nat.mul_comm, Nat.mul_add_mod]; exact Nat.mod_eq_of_lt hp
    simp [madeCells, hlt, hm, hp]
  · rename_i hp
    rw [List.getElem?_eq_none (by simpa using hp)]

theorem enc_made {A : Nat → Prop} {e : Ty} {z : Array Value} (hz : Enc w A e e.dflt z.toList) (n m : Nat) (h : m ≤ n) : Enc w A (.arr m e) (List.replicate m e.dflt) ((madeCells z (n * e.size)).toList.take (m * e.size)) := by
  have hs : z.size = e.size := by have := hz.length; simpa using this
  have hmul := Nat.mul_le_mul_right e.size h
  simp only [Enc]
  refine ⟨by simp, by have := size_madeCells z (n * e.size); rw [List.length_take, Array.length_toList, this]; omega, fun i x hx => ?_⟩
  have hi : i < m := by have := (List.getElem?_eq_some_iff.1 hx).1; simpa using this
  rw [List.getElem?_replicate, if_pos hi] at hx
  cases hx
  have hie := Nat.mul_le_mul_right e.size (show i + 1 ≤ m from hi)
  rw [Nat.succ_mul] at hie
  rw [List.drop_take, List.take_take, Nat.min_eq_left (by omega), ← hs, made_window (by omega)]
  exact hz

theorem good_make (hE : TysOk P E) (I : Inv S w0 ι T w) (hnm : ∀ n, In16 nm n → T n = none) (hfr : ∀ m p, T m = some p → ∀ q ∈ entNames p.2, ¬ In16 nm q) {ev : Operand → Val} {t : TypeId} {x y : Operand} {K : Val → List (Nat × Option Entry) → Option ρ}
    (hop : o.op = .makeSlice t x y) (hx : RelV w (Av S ι) ι (ev x) (a.eval x)) (hy : RelV w (Av S ι) ι (ev y) (a.eval y)) (h : makeK E nm t (ev x) (ev y) K = some r) : Good P S w0 ι T w nm o a N K r := by
  have hin : In16 nm nm := ⟨Nat.le_refl _, by omega⟩
  unfold makeK at h
  split at h
  case h_2 => cases h
  rename_i e bytes k l k' c ht ex ey
  split at h
  case isFalse => cases h
  rename_i hcond
  obtain ⟨h0, h1, h2⟩ := hcond
  obtain ⟨te, i, z, hu, hte, hi, hby, hpos, hz, hz0⟩ := hE.elem ht
  rw [ex] at hx; rw [ey] at hy
  have hx := rel_int hx
  have hy := rel_int hy
  have hc0 : 0 ≤ c := by omega
  have hb1 : c * 1 ≤ c * (bytes : Int) := Int.mul_le_mul_of_nonneg_left (by omega) hc0
  have hr := run_make (P := P) w t te i z hu hi.info hz k k' l c h0 h1 (by rw [hby, Int.mul_comm]; omega) (by omega)
  have hzc := hz0 w (Av S ι)
  have hen := enc_made hzc c.toNat l.toNat (by omega)
  have hel := hen.length
  simp only [Ty.size] at hel
  refine good_row I (hnm nm hin) hfr (xs := List.replicate l.toNat e.dflt) (cap := c.toNat) (us := (madeCells z.cells (c.toNat * e.size)).toList.take (l.toNat * e.size)) (w' := w.alloc (.cells (madeCells z.cells (c.toNat * i.size)) te)) (cs := madeCells z.cells (c.toNat * i.size)) (el := te) (fz := (0, 0)) ?_ ⟨rfl, rfl, rfl, rfl⟩ (fun q _ hq => by simp at hq) ?_ ?_ ?_ ?_ h
  · simp only [execOp, hop, hx, hy]
    simp only [Sem.run_bind, hr, Result.andThen_ok, List.length_replicate]
    rfl
  · rw [hi.size, size_madeCells]
  · rw [List.length_replicate]; omega
  · rw [List.length_replicate]; exact hen
  · rw [hi.size, hel]

/-! ### Conversions -/
theorem toNat_ofNat_list : ∀ (l : List UInt8), (l.map fun b => (b.toNat : Int)).map (fun n => UInt8.ofNat n.toNat) = l
  | [] => rfl
  | b :: l => by simp [toNat_ofNat_list l]

theorem push_all : ∀ (ns : List Int) (s : ByteArray), ns.foldl (fun r n => r.push (UInt8.ofNat n.toNat)) s = ⟨s.data ++ (ns.map fun n => UInt8.ofNat n.toNat).toArray⟩
  | [], s => by simp
  | n :: ns, s => by
    rw [List.foldl_cons, push_all ns]
    simp [ByteArray.push]

theorem enc_ints {A : Nat → Prop} {k : IntKind} {n : Nat} {xs : List Int} {us : List Value} (h : Enc w A (.arr n (.int k)) xs us) : us = xs.map (Value.int k) := by
  simp only [Enc, Ty.size, Nat.mul_one] at h
  obtain ⟨h1, h2, h3⟩ := h
  apply List.ext_getElem?
  intro j
  rw [List.getElem?_map]
  cases hx : xs[j]? with
  | none =>
    rw [List.getElem?_eq_none_iff] at hx
    rw [List.getElem?_eq_none (by omega)]; rfl
  | some x =>
    have := h3 j x hx
    have h4 : ((us.drop j).take 1)[0]? = some (Value.int k x) := by rw [this]; rfl
    rw [window_get] at h4
    simpa using h4

theorem good_convert (hE : TysOk P E) (I : Inv S w0 ι T w) (hnm : ∀ n, In16 nm n → T n = none) (hfr : ∀ m p, T m = some p → ∀ q ∈ entNames p.2, ¬ In16 nm q) {ev : Operand → Val} {src dst : TypeId} {x : Operand} {K : Val → List (Nat × Option Entry) → Option ρ}
    (hop : o.op = .convert src dst x) (hx : RelV w (Av S ι) ι (ev x) (a.eval x)) (h : convK E T nm src dst (ev x) K = some r) : Good P S w0 ι T w nm o a N K r := by
  have hin : In16 nm nm := ⟨Nat.le_refl _, by omega⟩
  have run : ∀ v w', (convert src dst (a.eval x)).run P w = .ok v w' → (execOp a.eval o).run P w = .ok (.value v) w' := by
    intro v w' hv
    simp only [execOp, hop]
    simp only [Sem.run_bind, hv, Result.andThen_ok]
    rfl
  unfold convK at h
  split at h
  · rename_i k0 k k1 n hs hd ex
    rw [ex] at hx
    have hx := rel_int hx
    have us := (hE.at hs).int
    have ud := (hE.at hd).int
    refine good_value I h (run _ _ ?_) (rel1 rfl) (names1 rfl)
    simp [convert, run_underlying us, run_underlying ud, hx, Conv.intToInt]
  · rename_i s hs hd ex
    rw [ex] at hx
    have hx := rel_str hx
    have us := (hE.at hs).str
    have ud := (hE.at hd).str
    refine good_value I h (run _ _ ?_) (rel1 rfl) (names1 rfl)
    simp [convert, run_underlying us, run_underlying ud, hx]
  · rename_i s hs hd ex
    rw [ex] at hx
    have hx := rel_str hx
    have us := (hE.at hs).str
    obtain ⟨te, hu, hte⟩ := (hE.at hd).sl
    have hr := Lib.run_convert_string_bytes (P := P) w src dst te s us hu hte.int
    have hlen := byteCells_length s
    refine good_row I (hnm nm hin) hfr (e := .int .u8) (xs := bytesOf s) (cap := grownCap w s.size 0 te) (us := byteCells s) (w' := Lib.bytesWorld w te s) (cs := Lib.bytesCells w te s) (el := te) (fz := ((Lib.bytesCells w te s).size, (Lib.bytesCells w te s).size + 1)) ?_ ⟨?_, rfl, rfl, rfl⟩ (fun q hq hq2 => by simp at hq2; omega) ?_ ?_ (enc_bytes s) ?_ h
    · rw [run _ _ (by rw [hx]; exact hr), bytesOf_length]
    · apply Array.ext_getElem?
      intro j
      rcases Nat.lt_trichotomy j w.heap.size with hj | hj | hj
      · rw [Lib.bytesWorld_at_old w te s j hj, Array.getElem?_push, if_neg (by omega)]
      · subst hj; rw [Lib.bytesWorld_at_new]; simp
      · rw [Array.getElem?_eq_none (by rw [Lib.bytesWorld_size]; omega), Array.getElem?_eq_none (by simp; omega)]
    · have := grownCap_ge w s.size 0 te
      simp only [Lib.bytesCells, Array.size_append, Array.size_map, Array.size_replicate, Ty.size]
      have : s.data.size = s.size := rfl
      omega
    · rw [bytesOf_length]; exact grownCap_ge _ _ _ _
    · simp only [Lib.bytesCells, Array.toList_append, Array.toList_map]
      exact List.take_left
  · rename_i lf hs hd ex
    rw [ex] at hx
    obtain ⟨te, hu, hte⟩ := (hE.at hs).sl
    have ud := (hE.at hd).str
    split at h
    case h_2 => cases h
    rename_i xs hxs
    obtain ⟨us, hsrc⟩ := content_src (P := P) I hxs (RelC.leaf hx)
    refine good_value I h (run _ _ ?_) (rel1 rfl) (names1 rfl)
    have hen := enc_ints hsrc.enc
    have hg := hsrc.get xs.length (Nat.le_refl _) w rfl
    have hul : us.length = xs.length := by rw [hen]; simp
    rw [List.take_of_length_le (by simp [Ty.size, hul])] at hg
    have hsl : ∃ ad n c, a.eval x = .slice ad n c := by
      have := content_enc (B := fun _ => False) I (fun _ h => h.elim) hxs (RelC.leaf hx) (fun _ _ _ _ _ _ h => h)
      simp only [Enc] at this
      rcases this with ⟨_, this⟩ | ⟨_, _, _, this, _⟩
      · exact ⟨_, _, _, List.singleton_inj.1 this⟩
      · exact ⟨_, _, _, List.singleton_inj.1 this⟩
    obtain ⟨ad, n, c, hv⟩ := hsl
    have hn : n = xs.length := by have hl := hsrc.len w; rw [hv] at hl; simpa [Builtin.lenOf] using hl
    rw [hv, run_convert_bytes_string w src dst te ad n c hu hte.int ud]
    rw [hv] at hg
    cases ad with
    | none =>
      have : xs = [] := by
        simp [Builtin.firstCells] at hg
        rw [hg] at hul
        exact List.eq_nil_of_length_eq_zero (by simpa using hul.symm)
      subst this
      simp [Conv.bytesToString, strOf]
      rfl
    | some ad =>
      simp only [Builtin.firstCells, Ty.size, Nat.mul_one] at hg
      rw [run_bytesToString w ad n c xs (by rw [hn, hg, hen]), push_all]
      simp [strOf]
  · cases h

theorem good_min (I : Inv S w0 ι T w) {ev : Operand → Val} {c : Call} {mx : Bool} {K : Val → List (Nat × Option Entry) → Option ρ} (hop : o.op = .call c) (hc : c.callee = .builtin (if mx then .max else .min))
    (hx : ∀ x ∈ c.args.toList, RelV w (Av S ι) ι (ev x) (a.eval x)) (h : minK mx (c.args.toList.map ev) (fun v => K v []) = some r) : Good P S w0 ι T w nm o a N K r := by
  unfold minK at h
  split at h
  case h_2 => cases h
  rename_i k m k' n e
  split at h
  case isFalse => cases h
  rename_i hk
  subst hk
  have hargs : ∃ x y, c.args = #[x, y] ∧ a.eval x = .int k m ∧ a.eval y = .int k n := by
    have hlen : c.args.toList.length = 2 := by have := congrArg List.length e; simpa using this
    have hl2 : ∃ x y, c.args.toList = [x, y] := by
      generalize c.args.toList = L at hlen
      cases L with
      | nil => cases hlen
      | cons x L => cases L with
        | nil => cases hlen
        | cons y L => cases L with
          | nil => exact ⟨x, y, rfl⟩
          | cons z L => simp at hlen
    obtain ⟨x, y, hl⟩ := hl2
    rw [hl] at e hx
    simp only [List.map_cons, List.map_nil, List.cons.injEq, and_true] at e
    have hx1 := hx x (by simp)
    have hy1 := hx y (by simp)
    rw [e.1] at hx1; rw [e.2] at hy1
    exact ⟨x, y, by apply Array.ext'; simpa using hl, rel_int hx1, rel_int hy1⟩
  obtain ⟨x, y, hargs, h1, h2⟩ := hargs
  refine good_value I h (v' := .int k (if mx then max m n else min m n)) ?_ (rel1 rfl) (names1 rfl)
  cases mx
  · simp only [execOp, hop, resolve, hc, hargs]
    have : (if n < m then n else m) = min m n := by omega
    simp [invoke, builtin, h1, h2, run_min_int2, this]
  · simp only [execOp, hop, resolve, hc, hargs]
    have : (if n > m then n else m) = max m n := by omega
    simp [invoke, builtin, h1, h2, run_max_int2, this]

end
end Go.Proofs.Ytacmfiddaklkiab.Lift
