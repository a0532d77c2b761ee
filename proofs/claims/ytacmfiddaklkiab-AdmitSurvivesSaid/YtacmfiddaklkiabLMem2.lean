/- 'Lift': stores. -/
import Derived.Test.YtacmfiddaklkiabLMem1
set_option linter.unusedVariables false
set_option linter.unusedSimpArgs false
namespace Go.Proofs.Ytacmfiddaklkiab.Lift
open Go Go.RowKit

section
variable {P : Program} {S : Nat → Prop} {w0 w : World} {ι : Inj} {T : Tab} {nm : Nat} {o : Oper} {a : Act} {N : Nat → Prop} {ρ : Type} {r : ρ} {E : Env}

theorem splice_get {α : Type} (L us : List α) (q p : Nat) (h : q + us.length ≤ L.length) :
    (L.take q ++ (us ++ L.drop (q + us.length)))[p]? = if p < q then L[p]? else if p < q + us.length then us[p - q]? else L[p]? := by
  have hq : (L.take q).length = q := by rw [List.length_take]; omega
  by_cases h1 : p < q
  · rw [if_pos h1, List.getElem?_append_left (by omega), List.getElem?_take_of_lt h1]
  · rw [if_neg h1, List.getElem?_append_right (by omega), hq]
    by_cases h2 : p < q + us.length
    · rw [if_pos h2, List.getElem?_append_left (by omega)]
    · rw [if_neg h2, List.getElem?_append_right (by omega), List.getElem?_drop]
      congr 1
      omega

theorem window_get {α : Type} (L : List α) (o n p : Nat) : ((L.drop o).take n)[p]? = if p < n then L[o + p]? else none := by
  rw [List.getElem?_take]
  split
  · rw [List.getElem?_drop]
  · rfl

/-- A splice within element i leaves the other elements. -/
theorem splice_other {α : Type} {L us : List α} {sz i j inner : Nat} (hij : j ≠ i) (hin : inner + us.length ≤ sz) (h : i * sz + inner + us.length ≤ L.length) :
    ((L.take (i * sz + inner) ++ (us ++ L.drop (i * sz + inner + us.length))).drop (j * sz)).take sz = (L.drop (j * sz)).take sz := by
  apply List.ext_getElem?
  intro p
  rw [window_get, window_get]
  split
  · rename_i hp
    rw [splice_get L us _ _ h]
    rcases Nat.lt_or_gt_of_ne hij with hlt | hgt
    · have : (j + 1) * sz ≤ i * sz := Nat.mul_le_mul_right _ hlt
      rw [Nat.add_mul] at this
      rw [if_pos (by omega)]
    · have : (i + 1) * sz ≤ j * sz := Nat.mul_le_mul_right _ hgt
      rw [Nat.add_mul] at this
      rw [if_neg (by omega), if_neg (by omega)]
  · rfl

theorem splice_same {α : Type} {L us : List α} {sz i inner : Nat} (hin : inner + us.length ≤ sz) (h : i * sz + sz ≤ L.length) :
    ((L.take (i * sz + inner) ++ (us ++ L.drop (i * sz + inner + us.length))).drop (i * sz)).take sz =
      ((L.drop (i * sz)).take sz).take inner ++ (us ++ ((L.drop (i * sz)).take sz).drop (inner + us.length)) := by
  apply List.ext_getElem?
  intro p
  rw [window_get, splice_get L us _ _ (by omega), splice_get ((L.drop (i * sz)).take sz) us inner p (by simp; omega), window_get]
  by_cases h0 : p < sz
  · rw [if_pos h0]
    by_cases h1 : p < inner
    · rw [if_pos (by omega), if_pos h1, if_pos h0]
    · rw [if_neg (by omega), if_neg h1]
      by_cases h2 : p < inner + us.length
      · rw [if_pos (by omega), if_pos h2]; congr 1; omega
      · rw [if_neg (by omega), if_neg h2, if_pos h0]
  · rw [if_neg h0, if_neg (by omega), if_neg (by omega), if_neg h0]

theorem dropC_le : ∀ {ls : List Leaf} {n : Nat} {ls' : List Leaf}, dropC ls n = some ls' → n + widths ls' = widths ls
  | [], 0, _, h => by cases h; rfl
  | [], n + 1, _, h => by cases h
  | l :: r, 0, _, h => by cases h; simp
  | l :: r, n + 1, ls', h => by
    simp only [dropC] at h
    split at h
    · rename_i hle
      have hle' := Nat.le_of_ble_eq_true hle
      have := dropC_le h
      simp only [widths]; omega
    · cases h

theorem setC_le {ls new ls' : List Leaf} {off n : Nat} (h : setC ls off n new = some ls') : off + n ≤ widths ls := by
  obtain ⟨a, ha, e⟩ := Option.bind_eq_some_iff.1 h
  obtain ⟨b, hb, e'⟩ := Option.bind_eq_some_iff.1 e
  have := dropC_le hb
  omega

theorem cells_at {b off : Nat} {vs : Array Value} {el : TypeId} {fz : Nat × Nat} (h : w.heap[b]? = some (.cells vs el fz)) (hl : off < vs.size) : (w.cell? ⟨b, off, none⟩).isSome = true := by
  simp [World.cell?, h, hl]

theorem unfrozen_at {b off : Nat} {vs : Array Value} {el : TypeId} {fz : Nat × Nat} (h : w.heap[b]? = some (.cells vs el fz)) (hf : Unfrozen fz vs.size) (hl : off < vs.size) : w.frozen? ⟨b, off, none⟩ = false := by
  obtain ⟨lo, hi⟩ := fz
  have := hf off hl
  simp only [World.frozen?, h]
  simp only [Bool.and_eq_false_iff, decide_eq_false_iff_not]
  by_cases h1 : lo ≤ off
  · right; intro h2; exact this ⟨h1, h2⟩
  · left; exact h1

/-- A store of whole cells. -/
theorem run_store_at {t : TypeId} {τ : Ty} (ht : TyOk P τ t) {b off : Nat} {vs : Array Value} {el : TypeId} {fz : Nat × Nat} (hh : w.heap[b]? = some (.cells vs el fz)) (hf : Unfrozen fz vs.size)
    {v : Value} (hl : v.cells.toList.length = τ.size) (h1 : ∀ u ∈ v.cells.toList, u.oneCell' = true) (hle : off + τ.size ≤ vs.size) :
    (Instr.storeAt t (.pointer (some ⟨b, off, none⟩)) v).run P w = .ok () (w.setCells b off v.cells.toList) := by
  have hs := run_storeCells_cells (P := P) b off v.cells.toList 0 w (fun j hj => cells_at hh (by simp only [Nat.add_zero]; omega)) (fun j hj => unfrozen_at hh hf (by simp only [Nat.add_zero]; omega)) h1
  have hz : v.cells.size = τ.size := by simpa using hl
  simp [Instr.storeAt, Instr.sureAddr, storeVar, ht.sizeOf, hz, hs]

theorem good_store1 (I : Inv S w0 ι T w) {t : TypeId} {τ : Ty} (ht : TyOk P τ t) {p x : Operand} {K : Val → List (Nat × Option Entry) → Option ρ} (hop : o.op = .store t p x)
    {n b off : Nat} {l : Loc} {e0 e : Entry} (hp : a.eval p = .pointer (some ⟨b, off, none⟩)) (hT : T n = some (true, e0)) (hl : ι n = some l) (hb : l.blk = some b)
    {vs : Array Value} {el : TypeId} {fz : Nat × Nat} (hh : w.heap[b]? = some (.cells vs el fz)) (hf : Unfrozen fz vs.size) (hlen : (a.eval x).cells.toList.length = τ.size) (h1 : ∀ u ∈ (a.eval x).cells.toList, u.oneCell' = true) (hle : off + τ.size ≤ vs.size)
    (he : ∀ w', (w'.heap[b]? = some (.cells (vs.toList.take off ++ ((a.eval x).cells.toList ++ vs.toList.drop (off + (a.eval x).cells.toList.length))).toArray el fz)) → Turn w w' (Av S ι) (Av S ι) → EntOk w' (Av S ι) ι n e)
    (hN : N n) (hNe : ∀ m ∈ entNames e, N m) (h : K (.v false [.skp]) [(n, some e)] = some r) : Good P S w0 ι T w nm o a N K r := by
  refine ⟨_, _, h, fun next Q hn => ?_, ⟨by simp [namesOf, namesV], ?_⟩, fun p hp => by simp at hp; subst hp; exact .inr ⟨e0, hT⟩⟩
  · have hrun : (execOp a.eval o).run P w = .ok .skip (w.setCells b off (a.eval x).cells.toList) := by
      simp only [execOp, hop, hp]
      simp [run_store_at ht hh hf hlen h1 hle]
    show o.upon P a next Q ((execOp a.eval o).run P w)
    rw [hrun]
    obtain ⟨k1, k2, k3, k4, k5, k6⟩ := setCells_heap b (a.eval x).cells.toList off w hh (by rw [hlen]; exact hle)
    have ht0 : Turn w (w.setCells b off (a.eval x).cells.toList) (Av S ι) (Av S ι) := ⟨by omega, fun k hk hA => k2 k fun hkb => hA (.inr ⟨n, l, hl, by rw [hkb]; exact hb⟩), fun _ _ h => h⟩
    obtain ⟨I', ht'⟩ := I.write hT hl hb ⟨k2, k3, k4, k5, k6⟩ (he _ k1 ht0)
    exact hn undef _ ι I' ht' (fun _ => .inl rfl) (rel1 rfl)
  · intro q hq
    simp at hq
    subst hq
    exact ⟨.inl hN, fun e' he' m hm => by cases he'; exact .inl (hNe m hm)⟩

theorem cells_window {b off : Nat} {us : List Value} {vs : Array Value} {el : TypeId} {fz : Nat × Nat} (h : w.heap[b]? = some (.cells vs el fz)) (hc : Cells w b off us) : us = (vs.toList.drop off).take us.length := by
  apply List.ext_getElem?
  intro p
  rw [window_get]
  split
  · rename_i hp
    have := hc p us[p] (List.getElem?_eq_getElem hp)
    simp [World.cell?, h] at this
    rw [List.getElem?_eq_getElem hp]
    simpa using this.symm
  · rename_i hp
    exact List.getElem?_eq_none (by omega)

theorem ownNames_get : ∀ {ls : List Leaf} {n : Nat}, n ∈ ownNames ls → n ∈ namesV ls
  | [], n, h => by cases h
  | l :: r, n, h => by
    have e2 : l :: r = [l] ++ r := rfl
    rw [e2, ownNames_append] at h
    rw [namesV_cons]
    rcases List.mem_append.1 h with h | h
    · refine List.mem_append_left _ ?_
      cases l <;> simp_all [ownNames, leafNames]
    · exact List.mem_append_right _ (ownNames_get h)

theorem ownNames_nil {ls : List Leaf} (h : namesV ls = []) : ownNames ls = [] := by
  apply List.eq_nil_iff_forall_not_mem.2
  intro n hn
  have := ownNames_get hn
  rw [h] at this
  cases this

theorem own_take : ∀ {ls : List Leaf} {n : Nat} {ls' : List Leaf}, takeC ls n = some ls' → ∀ m ∈ ownNames ls', m ∈ ownNames ls
  | ls, 0, _, h => by have : takeC ls 0 = some [] := by cases ls <;> rfl
                      rw [this] at h; cases h; simp [ownNames]
  | [], n + 1, _, h => by cases h
  | l :: r, n + 1, ls', h => by
    simp only [takeC] at h
    split at h
    · obtain ⟨q, hq, rfl⟩ := Option.map_eq_some_iff.1 h
      intro m hm
      have e1 : l :: q = [l] ++ q := rfl
      have e2 : l :: r = [l] ++ r := rfl
      rw [e1, ownNames_append] at hm
      rw [e2, ownNames_append]
      rcases List.mem_append.1 hm with hm | hm
      · exact List.mem_append_left _ hm
      · exact List.mem_append_right _ (own_take hq m hm)
    · cases h

theorem own_drop : ∀ {ls : List Leaf} {n : Nat} {ls' : List Leaf}, dropC ls n = some ls' → ∀ m ∈ ownNames ls', m ∈ ownNames ls
  | [], 0, _, h => by cases h; simp
  | [], n + 1, _, h => by cases h
  | l :: r, 0, _, h => by cases h; simp
  | l :: r, n + 1, ls', h => by
    simp only [dropC] at h
    split at h
    · intro m hm
      have e2 : l :: r = [l] ++ r := rfl
      rw [e2, ownNames_append]
      exact List.mem_append_right _ (own_drop h m hm)
    · cases h

theorem own_set {ls new ls' : List Leaf} {off n : Nat} (h : setC ls off n new = some ls') (h1 : ownNames ls = []) (h2 : ownNames new = []) : ownNames ls' = [] := by
  obtain ⟨a, ha, e⟩ := Option.bind_eq_some_iff.1 h
  obtain ⟨b, hb, e'⟩ := Option.bind_eq_some_iff.1 e
  cases e'
  rw [ownNames_append, ownNames_append, h2]
  have k1 : ownNames a = [] := List.eq_nil_iff_forall_not_mem.2 fun m hm => by have := own_take ha m hm; rw [h1] at this; cases this
  have k2 : ownNames b = [] := List.eq_nil_iff_forall_not_mem.2 fun m hm => by have := own_drop hb m hm; rw [h1] at this; cases this
  rw [k1, k2]; rfl

theorem splice_length {vs ns : List Value} {off : Nat} (h : off + ns.length ≤ vs.length) : (vs.take off ++ (ns ++ vs.drop (off + ns.length))).length = vs.length := by
  simp only [List.length_append, List.length_take, List.length_drop]
  omega

/-- An element written in part. -/
theorem elem_put (I : Inv S w0 ι T w) {e : Ty} {x y : e.den} {new cs' : List Leaf} {us ns : List Value} {inner n : Nat} (hp : e.plain = true) (hx : Enc w (Av S ι) e x us) (hn : RelC w (Av S ι) ι new ns)
    (hs : setC (toC e x) inner n new = some cs') (hy : ofCs T e cs' = some y) (ho : ownNames new = []) : Enc w (Av S ι) e y (us.take inner ++ (ns ++ us.drop (inner + n))) := by
  have hr := (RelC.toC (ι := ι) hx).set hn hs
  refine ofCs_enc I (fun _ h => h) hy hr hp ?_
  rw [own_set hs (ownNames_nil names_toC) ho]
  simp

theorem good_store (hE : TysOk P E) (I : Inv S w0 ι T w) {ev : Operand → Val} {t : TypeId} {p x : Operand} {K : Val → List (Nat × Option Entry) → Option ρ} (hop : o.op = .store t p x)
    (hp : RelV w (Av S ι) ι (ev p) (a.eval p)) (hx : RelV w (Av S ι) ι (ev x) (a.eval x)) (hNp : ∀ n ∈ namesOf (ev p), N n) (hNx : ∀ n ∈ namesOf (ev x), N n) (hTN : ∀ m e, N m → T m = some e → ∀ n ∈ entNames e.2, N n)
    (h : storeK E T t (ev p) (ev x) K = some r) : Good P S w0 ι T w nm o a N K r := by
  unfold storeK at h
  split at h
  case h_2 => cases h
  rename_i τ ag new hτ ex
  have ht := hE.at hτ
  split at h
  case h_1 => cases h
  rename_i hchk
  simp only [Bool.and_eq_true] at hchk
  have hw := Nat.eq_of_beq_eq_true hchk.1
  rw [ex] at hx hNx
  have hc := val_cells hx hchk.2
  have hone := RelC.one hc hchk.2
  have hlen : (a.eval x).cells.toList.length = τ.size := by rw [hc.length, hw]
  split at h
  · rename_i n off ep
    rw [ep] at hp hNp
    have hN' : N n := hNp n (by simp [namesOf, namesV])
    have hp := RelC.leaf hp
    simp only [RelL] at hp
    split at h
    case h_2 => cases h
    rename_i cs hT
    split at h
    case h_2 => cases h
    rename_i cs' hs
    obtain ⟨l, b, vs, el, fz, hl, hb, hh, hf, hr⟩ := I.ent n _ hT
    obtain ⟨b2, hb2, hq⟩ := hp.2.2 l hl
    rw [hb] at hb2; cases hb2
    have hle : off + τ.size ≤ vs.size := by have := setC_le hs; have := hr.length; simp at this; omega
    refine good_store1 I ht hop (List.singleton_inj.1 hq) hT hl hb hh hf hlen hone hle (fun w' hw' ht' => ?_) hN' (fun m hm => ?_) h
    · have hr2 := (hr.set hc hs).turn (ι' := ι) ht' fun _ _ => .inl rfl
      refine ⟨l, b, _, el, fz, hl, hb, hw', ?_, ?_⟩
      · intro q hq'; refine hf q ?_
        rw [List.size_toArray, splice_length (by have := vs.length_toList; omega)] at hq'; simpa using hq'
      · rw [← hlen] at hr2
        simpa using hr2
    · rcases names_set hs m hm with hm | hm
      · exact hTN n _ hN' hT m hm
      · exact hNx m hm
  · rename_i n off i m sz inner ep
    rw [ep] at hp hNp
    have hN' : N n := hNp n (by simp [namesOf, namesV])
    have hp := RelC.leaf hp
    simp only [RelL] at hp
    split at h
    case h_2 => cases h
    rename_i cs hT
    split at h
    case h_2 => cases h
    rename_i before m' e xs rest hbef hdrop
    split at h
    case h_2 => cases h
    rename_i hms
    simp only [Bool.and_eq_true] at hms
    have hm' := Nat.eq_of_beq_eq_true hms.1.1
    have hs' := Nat.eq_of_beq_eq_true hms.1.2
    subst hm'; subst hs'
    split at h
    case h_2 => cases h
    rename_i cs' hs
    split at h
    case h_2 => cases h
    rename_i y hy
    split at h
    case h_2 => cases h
    rename_i hown
    obtain ⟨l, b, vs, el, fz, hl, hb, hh, hf, hr⟩ := I.ent n _ hT
    obtain ⟨h0, h1, b2, hb2, hq⟩ := hp.2.2 l hl
    rw [hb] at hb2; cases hb2
    have hrb := hr.take hbef
    obtain ⟨us, ts, e1, r1, r2⟩ := hr.drop hdrop
    simp only [RelL, Enc] at r1
    obtain ⟨k1, k2, k3⟩ := r1
    have hx' := nth_get (d := e.dflt) h0 (by rw [k1]; exact h1)
    have hel := k3 _ _ hx'
    have hput := elem_put I hms.2 hel hc hs hy hown
    have hi : i.toNat < m' := by omega
    have hin : inner + τ.size ≤ e.size := by
      have := setC_le hs
      have h2 := (RelC.toC (ι := ι) hel).length
      rw [hel.length] at h2
      omega
    have hmul : i.toNat * e.size + e.size ≤ m' * e.size := by
      have := Nat.mul_le_mul_right e.size hi
      rw [Nat.succ_mul] at this
      exact this
    have hbl : (vs.toList.take off).length = off := by
      have h3 := hrb.length
      have h4 := takeC_widths hbef
      omega
    have hol : off ≤ vs.toList.length := by rw [List.length_take] at hbl; omega
    have hvl : off + us.length + ts.length = vs.toList.length := by
      have := congrArg List.length e1
      rw [List.length_drop, List.length_append] at this
      omega
    have hle : off + i.toNat * e.size + inner + τ.size ≤ vs.size := by simp at hvl; omega
    refine good_store1 I ht hop (List.singleton_inj.1 hq) hT hl hb hh hf hlen hone hle (fun w' hw' ht' => ?_) hN' (fun q hq' => ?_) h
    · refine ⟨l, b, _, el, fz, hl, hb, hw', ?_, ?_⟩
      · intro q hq'; refine hf q ?_
        rw [List.size_toArray, splice_length (by have := vs.length_toList; omega)] at hq'; simpa using hq'
      · have hsplit : vs.toList = vs.toList.take off ++ (us ++ ts) := by rw [← e1, List.take_append_drop]
        have key : vs.toList.take (off + i.toNat * e.size + inner) ++ ((a.eval x).cells.toList ++ vs.toList.drop (off + i.toNat * e.size + inner + (a.eval x).cells.toList.length)) =
            vs.toList.take off ++ ((us.take (i.toNat * e.size + inner) ++ ((a.eval x).cells.toList ++ us.drop (i.toNat * e.size + inner + (a.eval x).cells.toList.length))) ++ ts) := by
          have hus : us.length = m' * e.size := k2
          conv => lhs; rw [hsplit]
          rw [List.take_append, List.drop_append, hbl, List.take_of_length_le (by omega), show off + i.toNat * e.size + inner - off = i.toNat * e.size + inner by omega, List.drop_eq_nil_of_le (by omega),
            show off + i.toNat * e.size + inner + (a.eval x).cells.toList.length - off = i.toNat * e.size + inner + (a.eval x).cells.toList.length by omega, List.take_append_of_le_length (by omega), List.drop_append_of_le_length (by omega)]
          simp
        rw [key]
        simp only [List.toList_toArray]
        refine RelC.append (hrb.turn (ι' := ι) ht' fun _ _ => .inl rfl) ⟨_, _, rfl, ?_, r2.turn (ι' := ι) ht' fun _ _ => .inl rfl⟩
        have hll : i.toNat * e.size + inner + (a.eval x).cells.toList.length ≤ us.length := by omega
        simp only [RelL, Enc]
        refine ⟨by simp [put, k1], ?_, fun j z hz => ?_⟩
        · simp only [List.length_append, List.length_take, List.length_drop]; omega
        · by_cases hji : j = i.toNat
          · subst hji
            have hz' : z = y := by
              simp only [put] at hz
              rw [List.getElem?_set_self (by omega)] at hz
              cases hz; rfl
            subst hz'
            rw [splice_same (by omega) (by omega), hlen]
            exact hput.turn ht'
          · simp only [put] at hz
            rw [List.getElem?_set_ne (fun h => hji h.symm)] at hz
            rw [splice_other hji (by omega) hll]
            exact (k3 j z hz).turn ht'
    · simp only [entNames, namesV_append, namesV_cons, leafNames, List.nil_append] at hq'
      refine hTN n _ hN' hT q ?_
      rcases List.mem_append.1 hq' with hq' | hq'
      · exact names_take hbef q hq'
      · refine names_drop hdrop q ?_
        rw [namesV_cons]; exact List.mem_append_right _ hq'
  · rename_i n i inner ep
    rw [ep] at hp hNp
    have hN' : N n := hNp n (by simp [namesOf, namesV])
    have hp := RelC.leaf hp
    simp only [RelL] at hp
    split at h
    case h_2 => cases h
    rename_i e xs hT
    split at h
    case h_2 => cases h
    rename_i hpl
    split at h
    case h_2 => cases h
    rename_i cs' hs
    split at h
    case h_2 => cases h
    rename_i y hy
    split at h
    case h_2 => cases h
    rename_i hown
    obtain ⟨l, hl, k1, k2, k3, k4⟩ := I.ent n _ hT
    obtain ⟨h0, h1, b2, hb2, hq⟩ := hp.2.2 l hl
    rcases k4 with ⟨hb, _⟩ | ⟨b, vs, el, fz, hb, hh, hf, hsz, hxs⟩
    · rw [hb] at hb2; cases hb2
    obtain rfl : b = b2 := by rw [hb] at hb2; cases hb2; rfl
    have hx' := nth_get (d := e.dflt) h0 (by rw [← k1]; exact h1)
    obtain ⟨us, hel, hcl⟩ := hxs _ _ hx'
    have hput := elem_put I hpl hel hc hs hy hown
    have hin : inner + τ.size ≤ e.size := by
      have := setC_le hs
      have h2 := (RelC.toC (ι := ι) hel).length
      rw [hel.length] at h2
      omega
    have hmul : i.toNat * e.size + e.size ≤ vs.toList.length := by
      have : i.toNat + 1 ≤ l.cap := by omega
      have := Nat.mul_le_mul_right e.size this
      rw [Nat.succ_mul, ← hsz] at this
      simpa using this
    have hle : i.toNat * l.sz + inner + τ.size ≤ vs.size := by rw [k2]; simp at hmul; omega
    refine good_store1 I ht hop (List.singleton_inj.1 hq) hT hl hb hh hf hlen hone hle (fun w' hw' ht' => ?_) hN' (by simp [entNames]) h
    refine ⟨l, hl, by simp [put, k1], k2, k3, .inr ⟨b, _, el, fz, hb, hw', ?_, ?_, fun j z hz => ?_⟩⟩
    · intro q hq'; refine hf q ?_
      rw [List.size_toArray, splice_length (by have := vs.length_toList; omega)] at hq'; simpa using hq'
    · rw [List.size_toArray, splice_length (by have := vs.length_toList; omega)]; simpa using hsz
    · refine ⟨_, ?_, cells_of_heap hw' (j * e.size) e.size⟩
      simp only [List.toList_toArray, k2]
      by_cases hji : j = i.toNat
      · subst hji
        have hz' : z = y := by
          simp only [put] at hz
          rw [List.getElem?_set_self (by omega)] at hz
          cases hz; rfl
        subst hz'
        rw [splice_same (by omega) (by omega), hlen]
        have := cells_window hh hcl
        rw [hel.length] at this
        rw [← this]
        exact hput.turn ht'
      · simp only [put] at hz
        rw [List.getElem?_set_ne (fun h => hji h.symm)] at hz
        rw [splice_other hji (by omega) (by omega)]
        obtain ⟨us', hel', hcl'⟩ := hxs j z hz
        have := cells_window hh hcl'
        rw [hel'.length] at this
        rw [← this]
        exact hel'.turn ht'
  · cases h

end
end Go.Proofs.Ytacmfiddaklkiab.Lift
