/- 'Lift': the state at a cut (a loop's head, a join, an exit): its live values under new names. -/
import Derived.Test.YtacmfiddaklkiabLReg2
set_option linter.unusedVariables false
set_option linter.unusedSimpArgs false
namespace Go.Proofs.Ytacmfiddaklkiab.Lift
open Go Go.RowKit

/-- A live variable under new names from c on, k of them. -/
structure Emb1 (w : World) (B : Nat → Prop) (ι' : Inj) (v : Value) (c k : Nat) (p : (Val × List (Nat × Option Entry)) × Nat) : Prop where
  next : p.2 = c + k
  rel : RelV w B ι' p.1.1 v
  names : ∀ n ∈ namesOf p.1.1, c ≤ n ∧ n < c + k
  keys : p.1.2.map (·.1) = List.range' c k
  ents : ∀ n q, (n, q) ∈ p.1.2 → ∃ e, q = some e ∧ EntOk w B ι' n e ∧ ∀ m ∈ entNames e, c ≤ m ∧ m < c + k

structure EmbL (w : World) (B : Nat → Prop) (ι' : Inj) (a : Act) (c k : Nat) (ts' : List Nat) (p : (List (Nat × Val) × List (Nat × Option Entry)) × Nat) : Prop where
  next : p.2 = c + k
  dom : p.1.1.map (·.1) = ts'
  rel : ∀ t v, (t, v) ∈ p.1.1 → RelV w B ι' v (a.eval (.tmp t)) ∧ ∀ n ∈ namesOf v, c ≤ n ∧ n < c + k
  keys : p.1.2.map (·.1) = List.range' c k
  ents : ∀ n q, (n, q) ∈ p.1.2 → ∃ e, q = some e ∧ EntOk w B ι' n e ∧ ∀ m ∈ entNames e, c ≤ m ∧ m < c + k

section
variable {P : Program} {S : Nat → Prop} {w0 w : World} {ι : Inj} {T : Tab} {a : Act} {N : Nat → Prop} {n : Nat} {σ : St}

theorem ofCs_encO (I : Inv S w0 ι T w) {τ : Ty} {ls : List Leaf} {x : τ.den} {vs : List Value} (h : ofCs T τ ls = some x) (r : RelC w (Av S ι) ι ls vs) :
    ∃ lc ns ss, (ownNames ls).Perm (ns ++ ss) ∧ lc.filterMap Loc.blk = ns.filterMap (fun n => (ι n).bind Loc.blk) ∧
      ∀ B : Nat → Prop, (∀ b, B b → Av S ι b) → (∀ n ∈ ss, ∀ l b, ι n = some l → l.blk = some b → ¬ B b) → EncO w B τ x vs lc := by
  unfold ofCs at h
  obtain ⟨⟨y, rest⟩, h1, h2⟩ := Option.bind_eq_some_iff.1 h
  dsimp only at h2
  split at h2
  · cases h2
    obtain ⟨pre, us, ts, lc, ns, ss, e1, e2, e3, e4, e5, e6, e7⟩ := ofC_enc I h1 r
    simp only [RelC] at e3
    subst e3
    rw [List.append_nil] at e1 e2
    subst e1; subst e2
    exact ⟨lc, ns, ss, e4, e6, e7⟩
  · cases h2

theorem hasOwn_owns : ∀ {τ : Ty}, τ.hasOwn = false → τ.owns = 0 := by
  intro τ
  induction τ with
  | own e _ => intro h; cases h
  | st t ih => intro h; exact ih h
  | pair a b iha ihb => intro h; simp only [Ty.hasOwn, Bool.or_eq_false_iff] at h; simp [Ty.owns, iha h.1, ihb h.2]
  | _ => intro h; rfl

theorem ofCs_encO2 (I : Inv S w0 ι T w) {τ : Ty} {ls : List Leaf} {x : τ.den} {vs : List Value} (h : ofCs T τ ls = some x) (r : RelC w (Av S ι) ι ls vs) :
    ∃ lc ns ss, (ownNames ls).Perm (ns ++ ss) ∧ (τ.hasOwn = false → ns = [] ∧ ss = ownNames ls) ∧ lc.filterMap Loc.blk = ns.filterMap (fun n => (ι n).bind Loc.blk) ∧
      ∀ B : Nat → Prop, (∀ b, B b → Av S ι b) → (∀ n ∈ ss, ∀ l b, ι n = some l → l.blk = some b → ¬ B b) → EncO w B τ x vs lc := by
  obtain ⟨lc, ns, ss, h1, h2, h3⟩ := ofCs_encO I h r
  cases hh : τ.hasOwn with
  | true => exact ⟨lc, ns, ss, h1, (fun h => by cases h), h2, h3⟩
  | false =>
    have hown := (h3 (fun _ => False) (fun _ h => h.elim) (fun _ _ _ _ _ _ h => h)).owns
    rw [hasOwn_owns hh] at hown
    have := List.eq_nil_of_length_eq_zero hown
    subst this
    exact ⟨[], [], ownNames ls, by simp, fun _ => ⟨rfl, rfl⟩, rfl, fun B hB hs => h3 B hB fun m hm => hs m (h1.symm.subset (List.mem_append_right _ hm))⟩

theorem lv_emb (hs : SimF S w0 N n σ.tmp σ.ent a w ι) {b : LV} {cs : List Leaf} {nms : List Nat} (hc : lvCells σ b = some (cs, nms)) {x : b.ty.den} (hx : ofCs σ.ent b.ty cs = some x) :
    ∃ lc ns ss, nms.Perm (ns ++ ss) ∧ lc.filterMap Loc.blk = ns.filterMap (fun n => (ι n).bind Loc.blk) ∧ (b.ty.hasOwn = false → ns = nms.take (b.cut nms) ∧ ss = nms.drop (b.cut nms)) ∧
      ∀ (B : Nat → Prop) (ι' : Inj) (c : Nat), (∀ k, B k → Av S ι k) → (∀ n ∈ ss, ∀ l k, ι n = some l → l.blk = some k → ¬ B k) → named c lc ι' → Emb1 w B ι' (a.eval (.tmp b.t)) c lc.length (embed1 b x c) := by
  unfold lvCells at hc
  have ht := hs.tmp b.t
  split at hc
  · -- a box
    rename_i m hbox htm
    rw [htm] at ht
    split at hc
    case h_2 => cases hc
    rename_i cs' hent
    cases hc
    obtain ⟨l, bk, vs, el, fz, hl, hb, hh, hf, hr⟩ := hs.inv.ent m _ hent
    obtain ⟨lc, ns, ss, h1, h1', h2, h3⟩ := ofCs_encO2 hs.inv hx hr
    refine ⟨l :: lc, m :: ns, ss, by simpa using h1.cons m, by simp [List.filterMap_cons, hl, hb, h2], fun hpl => ?_, fun B ι' c hB hss hn => ?_⟩
    · obtain ⟨rfl, rfl⟩ := h1' hpl
      simp [LV.cut, hpl, hbox]
    have henc := h3 B hB hss
    have hn0 : ι' c = some l := by simpa using hn 0 l rfl
    have hn1 : named (c + 1) lc ι' := fun j q hj => by
      have := hn (j + 1) q (by simpa using hj)
      rwa [show c + (j + 1) = c + 1 + j by omega] at this
    obtain ⟨k1, k2, k3, k4, k5⟩ := toCO_rel henc hn1
    have e : embed1 b x c = ((.v false [.ptr c 0], (c, some (.box (toCO b.ty x (c + 1)).1.1)) :: (toCO b.ty x (c + 1)).1.2), (toCO b.ty x (c + 1)).2) := by
      unfold embed1; rw [hbox]
    rw [e]
    refine ⟨by simp only [k1, List.length_cons]; omega, ?_, ?_, ?_, ?_⟩
    · have hp := RelC.leaf ht
      simp only [RelL] at hp
      refine rel1 ⟨rfl, hp.2.1, fun l' hl' => ?_⟩
      rw [hn0] at hl'; cases hl'
      exact hp.2.2 l hl
    · intro q hq; simp [namesOf, namesV] at hq; subst hq; simp
    · simp only [List.map_cons, k4, List.length_cons, List.range'_succ]
    · intro q p hp
      rcases List.mem_cons.1 hp with hp | hp
      · cases hp
        exact ⟨_, rfl, ⟨l, bk, vs, el, fz, hn0, hb, hh, hf, k2⟩, fun q hq => by have := k3 q hq; simp only [List.length_cons]; omega⟩
      · obtain ⟨e', he', hok, e'', xs, rfl⟩ := k5 q p hp
        exact ⟨_, he', hok, fun q hq => by simp [entNames] at hq⟩
  · -- a value
    rename_i g cs' hbox htm
    rw [htm] at ht
    have key : ∀ (hag : g = b.ty.agg), cs' = cs → ownNames cs' = nms → ∃ lc ns ss, nms.Perm (ns ++ ss) ∧ lc.filterMap Loc.blk = ns.filterMap (fun n => (ι n).bind Loc.blk) ∧ (b.ty.hasOwn = false → ns = nms.take (b.cut nms) ∧ ss = nms.drop (b.cut nms)) ∧
        ∀ (B : Nat → Prop) (ι' : Inj) (c : Nat), (∀ k, B k → Av S ι k) → (∀ n ∈ ss, ∀ l k, ι n = some l → l.blk = some k → ¬ B k) → named c lc ι' → Emb1 w B ι' (a.eval (.tmp b.t)) c lc.length (embed1 b x c) := by
      intro hag e1 e2
      subst e1
      have hcell : ∃ vs : List Value, RelC w (Av S ι) ι cs' vs ∧ ∀ B ι' cs2, RelC w B ι' cs2 vs → RelV w B ι' (.v b.ty.agg cs2) (a.eval (.tmp b.t)) := by
        cases hg : g with
        | true =>
          rw [hg] at ht
          obtain ⟨vs, hv, hr⟩ := ht
          exact ⟨vs.toList, hr, fun B ι' cs2 h2 => by rw [← hag, hg]; exact ⟨vs, hv, h2⟩⟩
        | false =>
          rw [hg] at ht
          exact ⟨[a.eval (.tmp b.t)], ht, fun B ι' cs2 h2 => by rw [← hag, hg]; exact h2⟩
      obtain ⟨vs, hr, hback⟩ := hcell
      obtain ⟨lc, ns, ss, h1, h1', h2, h3⟩ := ofCs_encO2 hs.inv hx hr
      refine ⟨lc, ns, ss, by rw [← e2]; exact h1, h2, fun hpl => ?_, fun B ι' c hB hss hn => ?_⟩
      · obtain ⟨rfl, rfl⟩ := h1' hpl
        simp [LV.cut, hpl, hbox, e2]
      obtain ⟨k1, k2, k3, k4, k5⟩ := toCO_rel (h3 B hB hss) hn
      have e : embed1 b x c = ((.v b.ty.agg (toCO b.ty x c).1.1, (toCO b.ty x c).1.2), (toCO b.ty x c).2) := by
        unfold embed1; rw [hbox]
      rw [e]
      refine ⟨k1, hback _ _ _ k2, k3, k4, fun q p hp => ?_⟩
      obtain ⟨e', he', hok, e'', xs, rfl⟩ := k5 q p hp
      exact ⟨_, he', hok, fun q hq => by simp [entNames] at hq⟩
    split at hc
    · rename_i hag; cases hc; exact key (by rw [hag]) rfl rfl
    · rename_i hag; cases hc; exact key (by rw [hag]) rfl rfl
    · cases hc
  · cases hc

theorem named.le {c : Nat} {l1 l2 : List Loc} {ι' : Inj} (h : named c (l1 ++ l2) ι') : named c l1 ι' ∧ named (c + l1.length) l2 ι' := ⟨h.left, h.right⟩

/-- Which of the names are taken as rows, which are seen as slices. -/
structure Split (σ : St) (l : List LV) (ns ss : List Nat) : Prop where
  own : ∃ s1, (lvOwn σ l).Perm (ns ++ s1) ∧ ∀ m ∈ ss, m ∈ s1 ∨ m ∈ lvPlain σ l
  mem : ∀ m, m ∈ ns ∨ m ∈ ss → m ∈ lvNames σ l

theorem lv_split {b : LV} {r : List LV} {cs : List Leaf} {nms n1 s1 n2 s2 : List Nat} (hc : lvCells σ b = some (cs, nms)) (h1 : nms.Perm (n1 ++ s1)) (hp : b.ty.hasOwn = false → n1 = nms.take (b.cut nms) ∧ s1 = nms.drop (b.cut nms)) (h2 : Split σ r n2 s2) : Split σ (b :: r) (n1 ++ n2) (s1 ++ s2) := by
  obtain ⟨t2, q1, q2⟩ := h2.own
  have hnm : lvNames σ (b :: r) = nms ++ lvNames σ r := by simp only [lvNames, hc]
  refine ⟨?_, fun m hm => ?_⟩
  · cases hpl : b.ty.hasOwn with
    | false =>
      obtain ⟨e1, e2⟩ := hp hpl
      refine ⟨t2, ?_, fun m hm => ?_⟩
      · simp only [lvOwn, hc, ← e1]
        simpa using List.Perm.append_left n1 q1
      · rcases List.mem_append.1 hm with hm | hm
        · right; simp only [lvPlain, hc, ← e2]; exact List.mem_append_left _ hm
        · rcases q2 m hm with h | h
          · exact .inl h
          · right; simp only [lvPlain]; exact List.mem_append_right _ h
    | true =>
      have hcut : b.cut nms = nms.length := by simp [LV.cut, hpl]
      refine ⟨s1 ++ t2, ?_, fun m hm => ?_⟩
      · simp only [lvOwn, hc, hcut, List.take_length]
        refine (h1.append q1).trans ?_
        simp only [List.append_assoc]
        refine List.Perm.append_left n1 ?_
        rw [← List.append_assoc, ← List.append_assoc]
        exact List.Perm.append_right t2 List.perm_append_comm
      · rcases List.mem_append.1 hm with hm | hm
        · exact .inl (List.mem_append_left _ hm)
        · rcases q2 m hm with h | h
          · exact .inl (List.mem_append_right _ h)
          · right; simp only [lvPlain]; exact List.mem_append_right _ h
  · rw [hnm]
    have : (m ∈ n1 ∨ m ∈ s1) ∨ (m ∈ n2 ∨ m ∈ s2) := by
      rcases hm with hm | hm <;> rcases List.mem_append.1 hm with hm | hm
      · exact .inl (.inl hm)
      · exact .inr (.inl hm)
      · exact .inl (.inr hm)
      · exact .inr (.inr hm)
    rcases this with h | h
    · exact List.mem_append_left _ (h1.symm.subset (by rcases h with h | h; exact List.mem_append_left _ h; exact List.mem_append_right _ h))
    · exact List.mem_append_right _ (h2.mem m h)

theorem proj_emb (hs : SimF S w0 N n σ.tmp σ.ent a w ι) : ∀ {l : List LV} {x : (liveTy l).den}, proj1 σ l = some x →
    ∃ lc ns ss, Split σ l ns ss ∧ lc.filterMap Loc.blk = ns.filterMap (fun n => (ι n).bind Loc.blk) ∧
      ∀ (B : Nat → Prop) (ι' : Inj) (c : Nat), (∀ k, B k → Av S ι k) → (∀ n ∈ ss, ∀ l k, ι n = some l → l.blk = some k → ¬ B k) → named c lc ι' → EmbL w B ι' a c lc.length (l.map (·.t)) (embed l x c)
  | [], x, h => ⟨[], [], [], ⟨⟨[], by simp [lvOwn], fun m hm => by cases hm⟩, fun m hm => by rcases hm with hm | hm <;> cases hm⟩, rfl, fun B ι' c _ _ _ => ⟨rfl, rfl, fun t v h => (by cases h), rfl, fun n q h => (by cases h)⟩⟩
  | [b], x, h => by
    have h : (lvCells σ b).bind (fun c => ofCs σ.ent b.ty c.1) = some x := h
    obtain ⟨⟨cs, nms⟩, hc, hx⟩ := Option.bind_eq_some_iff.1 h
    obtain ⟨lc, ns, ss, h1, h2, h1', h3⟩ := lv_emb hs hc hx
    refine ⟨lc, ns, ss, ?_, h2, fun B ι' c hB hss hn => ?_⟩
    · have h0 : Split σ [] [] [] := ⟨⟨[], by simp [lvOwn], fun m hm => by cases hm⟩, fun m hm => by rcases hm with hm | hm <;> cases hm⟩
      simpa using lv_split hc h1 h1' h0
    · have he := h3 B ι' c hB hss hn
      have e : embed [b] x c = (([(b.t, (embed1 b x c).1.1)], (embed1 b x c).1.2), (embed1 b x c).2) := rfl
      rw [e]
      refine ⟨he.next, rfl, fun t v hm => ?_, he.keys, he.ents⟩
      simp at hm
      obtain ⟨rfl, rfl⟩ := hm
      exact ⟨he.rel, he.names⟩
  | b :: d :: r, x, h => by
    have h : ((lvCells σ b).bind (fun c => ofCs σ.ent b.ty c.1)).bind (fun x => (proj1 σ (d :: r)).bind fun y => some (x, y)) = some x := h
    obtain ⟨x1, hx1, h⟩ := Option.bind_eq_some_iff.1 h
    obtain ⟨x2, hx2, h⟩ := Option.bind_eq_some_iff.1 h
    cases h
    obtain ⟨⟨cs, nms⟩, hc, hx⟩ := Option.bind_eq_some_iff.1 hx1
    obtain ⟨l1, n1, s1, a1, a2, a1', a3⟩ := lv_emb hs hc hx
    obtain ⟨l2, n2, s2, b1, b2, b3⟩ := proj_emb hs hx2
    refine ⟨l1 ++ l2, n1 ++ n2, s1 ++ s2, lv_split hc a1 a1' b1, by simp [List.filterMap_append, a2, b2], fun B ι' c hB hss hn => ?_⟩
    have h1 := a3 B ι' c hB (fun m hm => hss m (List.mem_append_left _ hm)) hn.left
    have h2 := b3 B ι' (embed1 b x1 c).2 hB (fun m hm => hss m (List.mem_append_right _ hm)) (by rw [h1.next]; exact hn.right)
    have e : embed (b :: d :: r) (x1, x2) c = (((b.t, (embed1 b x1 c).1.1) :: (embed (d :: r) x2 (embed1 b x1 c).2).1.1, (embed1 b x1 c).1.2 ++ (embed (d :: r) x2 (embed1 b x1 c).2).1.2), (embed (d :: r) x2 (embed1 b x1 c).2).2) := rfl
    rw [e]
    have hnx := h1.next
    refine ⟨by rw [h2.next, hnx, List.length_append]; omega, by simp [h2.dom], fun t v hm => ?_, ?_, fun q p hp => ?_⟩
    · rcases List.mem_cons.1 hm with hm | hm
      · cases hm
        exact ⟨h1.rel, fun q hq => by have := h1.names q hq; rw [List.length_append]; omega⟩
      · obtain ⟨k1, k2⟩ := h2.rel t v hm
        exact ⟨k1, fun q hq => by have := k2 q hq; rw [hnx] at this; rw [List.length_append]; omega⟩
    · rw [List.map_append, h1.keys, h2.keys, hnx, List.length_append]; simp [List.range'_append_1]
    · rcases List.mem_append.1 hp with hp | hp
      · obtain ⟨e', he', hok, hq⟩ := h1.ents q p hp
        exact ⟨e', he', hok, fun q hq' => by have := hq q hq'; rw [List.length_append]; omega⟩
      · obtain ⟨e', he', hok, hq⟩ := h2.ents q p hp
        exact ⟨e', he', hok, fun q hq' => by have := hq q hq'; rw [hnx] at this; rw [List.length_append]; omega⟩

theorem rows_inj : ∀ {lc : List Loc} {j j' : Nat} {l l' : Loc} {b : Nat}, (lc.filterMap Loc.blk).Nodup → lc[j]? = some l → lc[j']? = some l' → l.blk = some b → l'.blk = some b → j = j'
  | [], j, _, _, _, _, _, hj, _, _, _ => by cases hj
  | q :: lc, j, j', l, l', b, hnd, hj, hj', hb1, hb2 => by
    cases hq : q.blk with
    | none =>
      have hr : (q :: lc).filterMap Loc.blk = lc.filterMap Loc.blk := by simp [hq]
      rw [hr] at hnd
      cases j with
      | zero => cases hj; rw [hq] at hb1; cases hb1
      | succ j => cases j' with
        | zero => cases hj'; rw [hq] at hb2; cases hb2
        | succ j' =>
          have := rows_inj (j := j) (j' := j') hnd (by simpa using hj) (by simpa using hj') hb1 hb2
          omega
    | some bq =>
      have hr : (q :: lc).filterMap Loc.blk = bq :: lc.filterMap Loc.blk := by simp [hq]
      rw [hr, List.nodup_cons] at hnd
      have mem : ∀ (i : Nat) (z : Loc), lc[i]? = some z → z.blk = some b → b ∈ lc.filterMap Loc.blk := fun i z hi hz => List.mem_filterMap.2 ⟨z, List.mem_of_getElem? hi, hz⟩
      cases j with
      | zero =>
        cases hj
        rw [hq] at hb1; cases hb1
        cases j' with
        | zero => rfl
        | succ j' => exact absurd (mem j' l' (by simpa using hj') hb2) hnd.1
      | succ j => cases j' with
        | zero =>
          cases hj'
          rw [hq] at hb2; cases hb2
          exact absurd (mem j l (by simpa using hj) hb1) hnd.1
        | succ j' =>
          have := rows_inj (j := j) (j' := j') hnd.2 (by simpa using hj) (by simpa using hj') hb1 hb2
          omega

theorem nodupB_spec : ∀ {l : List Nat}, nodupB l = true → l.Nodup
  | [], _ => List.nodup_nil
  | x :: l, h => by
    simp only [nodupB, Bool.and_eq_true, Bool.not_eq_true', List.any_eq_false] at h
    refine List.nodup_cons.2 ⟨fun hm => h.1 x hm (Nat.beq_refl x), nodupB_spec h.2⟩

theorem inTab_spec {ns : List Nat} (h : inTab σ ns = true) : ∀ m ∈ ns, ∃ e, σ.ent m = some (true, e) := by
  intro m hm
  simp only [inTab, List.all_eq_true] at h
  have := h m hm
  split at this
  · rename_i e hl; exact ⟨e, by simp only [St.ent, hl]⟩
  · cases this

/-- The state behind a cut: the live values embedded anew, some temporaries and entries kept, the rest let go. -/
theorem cut_sim (hs : SimF S w0 N n σ.tmp σ.ent a w ι) {c0 : Nat} {N0 : Nat → Prop} (hlt : ∀ m, N0 m → m < c0) {l : List LV} {x : (liveTy l).den} (hp : proj σ l = some x) {ts : List (Nat × Val)} {u : List (Nat × Option Entry)} {nx : Nat} (he : embed l x c0 = ((ts, u), nx))
    {τ2 : Nat → Val} {T2 : Tab} (H1 : ∀ t, (t, τ2 t) ∈ ts ∨ (τ2 t = σ.tmp t ∧ ∀ q ∈ namesOf (τ2 t), N0 q) ∨ τ2 t = .v false [.undef])
    (H2 : ∀ m p, T2 m = some p → (∃ e, (m, some e) ∈ u ∧ p = (true, e)) ∨ (m ∉ u.map (·.1) ∧ m ∉ lvNames σ l ∧ N0 m ∧ (∀ q ∈ entNames p.2, N0 q) ∧ ∃ fl, σ.ent m = some (fl, p.2))) (H3 : ∀ m ∈ u.map (·.1), (T2 m).isSome = true) :
    ∃ ι', SimF S w0 (fun m => N0 m ∨ (c0 ≤ m ∧ m < nx)) n τ2 T2 a w ι' ∧ Ev S c0 w ι w ι' ∧ c0 ≤ nx ∧ ts.map (·.1) = l.map (·.t) ∧ u.map (·.1) = List.range' c0 (nx - c0) := by
  unfold proj at hp
  split at hp
  case h_2 => cases hp
  rename_i hchk
  simp only [Bool.and_eq_true] at hchk
  have hnd := nodupB_spec hchk.1.1
  have hin := inTab_spec hchk.2
  obtain ⟨lc, ns, ss, h1, h2, h3⟩ := proj_emb hs hp
  obtain ⟨s1, hperm, hsub⟩ := h1.own
  have hnd2 : (ns ++ s1).Nodup := hperm.nodup_iff.1 hnd
  have hnsnd : ns.Nodup := (List.nodup_append.1 hnd2).1
  have hnss : ∀ m ∈ ns, m ∉ ss := fun m hm hm2 => by
    rcases hsub m hm2 with h | h
    · exact (List.nodup_append.1 hnd2).2.2 m hm m h rfl
    · have hall := hchk.1.2
      rw [List.all_eq_true] at hall
      have h3 := hall m (hperm.symm.subset (List.mem_append_left _ hm))
      simp only [Bool.not_eq_true', List.any_eq_false] at h3
      exact h3 m h (Nat.beq_refl m)
  have hmemL : ∀ m, m ∈ ns ∨ m ∈ ss → m ∈ lvNames σ l := h1.mem
  -- the keys
  have hk0 := h3 (fun _ => False) (fun m => lc[m - c0]?) c0 (fun _ h => h.elim) (fun _ _ _ _ _ _ h => h) (fun j q hj => by simpa using hj)
  rw [he] at hk0
  have hnx : nx = c0 + lc.length := hk0.next
  have hkeys : u.map (·.1) = List.range' c0 lc.length := hk0.keys
  have hkey : ∀ m, m ∈ u.map (·.1) ↔ c0 ≤ m ∧ m < nx := fun m => by rw [hkeys, List.mem_range'_1, hnx]
  let ι' : Inj := fun m => if (T2 m).isSome = true then (if c0 ≤ m ∧ m < nx then lc[m - c0]? else ι m) else none
  have hnew : named c0 lc ι' := fun j q hj => by
    have hj' := (List.getElem?_eq_some_iff.1 hj).1
    have hmem : c0 + j ∈ u.map (·.1) := (hkey _).2 ⟨by omega, by omega⟩
    show (if (T2 (c0 + j)).isSome = true then (if c0 ≤ c0 + j ∧ c0 + j < nx then lc[c0 + j - c0]? else ι (c0 + j)) else none) = some q
    rw [if_pos (H3 _ hmem), if_pos ⟨by omega, by omega⟩, Nat.add_sub_cancel_left]; exact hj
  -- whence a row of the new injection comes
  have horig : ∀ m q, ι' m = some q → (∃ j, lc[j]? = some q ∧ m = c0 + j) ∨ (ι m = some q ∧ m ∉ lvNames σ l ∧ ¬ (c0 ≤ m ∧ m < nx)) := fun m q hm => by
    have hm : (if (T2 m).isSome = true then (if c0 ≤ m ∧ m < nx then lc[m - c0]? else ι m) else none) = some q := hm
    split at hm
    · rename_i hsome
      split at hm
      · rename_i hr; exact .inl ⟨m - c0, hm, by omega⟩
      · rename_i hr
        obtain ⟨p, hp'⟩ := Option.isSome_iff_exists.1 hsome
        rcases H2 m p hp' with ⟨e, hmem, _⟩ | ⟨_, hnl, _, _, _⟩
        · exact absurd ((hkey m).1 (List.mem_map_of_mem hmem)) hr
        · exact .inr ⟨hm, hnl, hr⟩
    · cases hm
  have hblk : ∀ (j : Nat) (q : Loc) (b : Nat), lc[j]? = some q → q.blk = some b → ∃ m l, m ∈ ns ∧ ι m = some l ∧ l.blk = some b := fun j q b hj hb => by
    have : b ∈ lc.filterMap Loc.blk := List.mem_filterMap.2 ⟨q, List.mem_of_getElem? hj, hb⟩
    rw [h2] at this
    obtain ⟨m, hm, hb'⟩ := List.mem_filterMap.1 this
    obtain ⟨l, hl, hb'⟩ := Option.bind_eq_some_iff.1 hb'
    exact ⟨m, l, hm, hl, hb'⟩
  have hav : ∀ b, Av S ι' b → Av S ι b := fun b hb => by
    rcases hb with hb | ⟨m, q, hm, hb⟩
    · exact .inl hb
    · rcases horig m q hm with ⟨j, hj, rfl⟩ | ⟨hm, _⟩
      · obtain ⟨m', l', _, h5, h6⟩ := hblk j q b hj hb
        exact .inr ⟨m', l', h5, h6⟩
      · exact .inr ⟨m, q, hm, hb⟩
  have hss : ∀ m ∈ ss, ∀ q b, ι m = some q → q.blk = some b → ¬ Av S ι' b := fun m hm q b hq hb hA => by
    rcases hA with hA | ⟨m2, q2, hm2, hb2⟩
    · have h7 := hs.inv.low b hA
      have h8 := (hs.inv.fresh m q b hq hb).1
      omega
    · rcases horig m2 q2 hm2 with ⟨j, hj, rfl⟩ | ⟨hm2, hnl, _⟩
      · obtain ⟨m', l', h4, h5, h6⟩ := hblk j q2 b hj hb2
        have := hs.inv.inj m m' q l' b hq h5 hb h6
        subst this
        exact hnss m h4 hm
      · have := hs.inv.inj m m2 q q2 b hq hm2 hb hb2
        subst this
        exact hnl (hmemL m (.inr hm))
  have hemb := h3 (Av S ι') ι' c0 hav hss hnew
  rw [he] at hemb
  have ht : Turn w w (Av S ι) (Av S ι') := Turn.less w hav
  have hold : ∀ m, m < c0 → ι' m = ι m ∨ ι' m = none := fun m hm => by
    show (if (T2 m).isSome = true then (if c0 ≤ m ∧ m < nx then lc[m - c0]? else ι m) else none) = ι m ∨ _
    split
    · rw [if_neg (by omega)]; exact .inl rfl
    · exact .inr (if_neg ‹_›)
  -- blocks of the new rows are distinct
  have hrows : (lc.filterMap Loc.blk).Nodup := by
    rw [h2]
    have hn1 := hnsnd
    have : ∀ l : List Nat, l.Nodup → (l.filterMap fun n => (ι n).bind Loc.blk).Nodup := by
      intro l
      induction l with
      | nil => intro _; exact List.nodup_nil
      | cons m l ih =>
        intro hl
        obtain ⟨hm, hl⟩ := List.nodup_cons.1 hl
        rw [List.filterMap_cons]
        split
        · exact ih hl
        · rename_i b hb
          refine List.nodup_cons.2 ⟨fun hmem => ?_, ih hl⟩
          obtain ⟨m', hm', hb'⟩ := List.mem_filterMap.1 hmem
          obtain ⟨l1, q1, q2⟩ := Option.bind_eq_some_iff.1 hb
          obtain ⟨l2, q3, q4⟩ := Option.bind_eq_some_iff.1 hb'
          have := hs.inv.inj m m' l1 l2 b q1 q3 q2 q4
          subst this
          exact hm hm'
    exact this ns hn1
  refine ⟨ι', ⟨hs.inv.step (Below.refl _ _) ht (fun m q b hm hb => ?_) (fun m m' q q' b hm hm' hb hb' => ?_) (fun m p hp' => ?_) (fun m q hm => ?_), fun t => ?_, hs.size, hs.defers, fun t m hm => ?_, fun m p hp' => ?_⟩, ⟨ht, hold⟩, by omega, hemb.dom, by rw [hkeys]; congr 1; omega⟩
  · rcases horig m q hm with ⟨j, hj, rfl⟩ | ⟨hm, _⟩
    · obtain ⟨m', l', _, h5, h6⟩ := hblk j q b hj hb
      exact hs.inv.fresh m' l' b h5 h6
    · exact hs.inv.fresh m q b hm hb
  · rcases horig m q hm with ⟨j, hj, rfl⟩ | ⟨hm, hnl, _⟩ <;> rcases horig m' q' hm' with ⟨j', hj', rfl⟩ | ⟨hm', hnl', _⟩
    · rw [rows_inj hrows hj hj' hb hb']
    · obtain ⟨m2, l2, h4, h5, h6⟩ := hblk j q b hj hb
      have := hs.inv.inj m2 m' l2 q' b h5 hm' h6 hb'
      subst this
      exact absurd (hmemL m2 (.inl h4)) hnl'
    · obtain ⟨m2, l2, h4, h5, h6⟩ := hblk j' q' b hj' hb'
      have := hs.inv.inj m2 m l2 q b h5 hm h6 hb
      subst this
      exact absurd (hmemL m2 (.inl h4)) hnl
    · exact hs.inv.inj m m' q q' b hm hm' hb hb'
  · rcases H2 m p hp' with ⟨e, hmem, rfl⟩ | ⟨_, hnl, hm0, hq0, fl, hent⟩
    · obtain ⟨e', he', hok, _⟩ := hemb.ents m _ hmem
      cases he'
      exact .inr hok
    · have hmlt : m < c0 := hlt m hm0
      have hsome : (T2 m).isSome = true := by rw [hp']; rfl
      refine .inl ⟨_, hent, rfl, ?_, fun q hq => hold q (hlt q (hq0 q hq)), fun _ _ _ _ => rfl⟩
      show (if (T2 m).isSome = true then (if c0 ≤ m ∧ m < nx then lc[m - c0]? else ι m) else none) = ι m
      rw [if_pos hsome, if_neg (by omega)]
  · have hm : (if (T2 m).isSome = true then (if c0 ≤ m ∧ m < nx then lc[m - c0]? else ι m) else none) = some q := hm
    split at hm
    · assumption
    · cases hm
  · rcases H1 t with h | h | h
    · exact (hemb.rel t _ h).1
    · have h0 := h.2
      rw [h.1] at h0 ⊢
      exact (hs.tmp t).turn ht fun q hq => hold q (hlt q (h0 q hq))
    · rw [h]; exact rel_undef
  · rcases H1 t with h | h | h
    · have := (hemb.rel t _ h).2 m hm
      exact .inr ⟨this.1, by omega⟩
    · exact .inl (h.2 m hm)
    · rw [h] at hm; cases hm
  · rcases H2 m p hp' with ⟨e, hmem, rfl⟩ | ⟨_, hnl, hm0, hq0, fl, hent⟩
    · obtain ⟨e', he', _, hn'⟩ := hemb.ents m _ hmem
      cases he'
      exact ⟨.inr ((hkey m).1 (List.mem_map_of_mem hmem)), fun q hq => by have := hn' q hq; exact .inr ⟨this.1, by omega⟩⟩
    · exact ⟨.inl hm0, fun q hq => .inl (hq0 q hq)⟩

/-- Every entry that an embedding makes is there. -/
theorem embed1_some {b : LV} {x : b.ty.den} {c : Nat} : ∀ p ∈ (embed1 b x c).1.2, ∃ e, p.2 = some e := by
  intro p hp
  unfold embed1 at hp
  split at hp
  · rcases List.mem_cons.1 hp with rfl | hp
    · exact ⟨_, rfl⟩
    · obtain ⟨_, e, xs, h⟩ := toCO_names.2.2 p hp; exact ⟨_, h⟩
  · obtain ⟨_, e, xs, h⟩ := toCO_names.2.2 p hp; exact ⟨_, h⟩

theorem embed_some : ∀ {l : List LV} {x : (liveTy l).den} {c : Nat}, ∀ p ∈ (embed l x c).1.2, ∃ e, p.2 = some e
  | [], _, _, p, hp => by cases hp
  | [b], x, c, p, hp => embed1_some (x := x) p hp
  | b :: d :: r, x, c, p, hp => by
    have e : embed (b :: d :: r) x c = (((b.t, (embed1 b x.1 c).1.1) :: (embed (d :: r) x.2 (embed1 b x.1 c).2).1.1, (embed1 b x.1 c).1.2 ++ (embed (d :: r) x.2 (embed1 b x.1 c).2).1.2), (embed (d :: r) x.2 (embed1 b x.1 c).2).2) := rfl
    rw [e] at hp
    rcases List.mem_append.1 hp with hp | hp
    · exact embed1_some p hp
    · exact embed_some p hp

end
end Go.Proofs.Ytacmfiddaklkiab.Lift
