/- 'Lift': rows that are given up, and shown as slices from there on. -/
import Derived.Test.YtacmfiddaklkiabLSim
set_option linter.unusedVariables false
set_option linter.unusedSimpArgs false
namespace Go.Proofs.Ytacmfiddaklkiab.Lift
open Go Go.RowKit

section
variable {P : Program} {S : Nat → Prop} {w0 w : World} {ι : Inj} {T : Tab} {a : Act} {N : Nat → Prop} {k : Nat} {e : Ty} {xs : List e.den}

theorem beq_ne {n m : Nat} (h : n ≠ m) : Nat.beq n m = false := by
  cases hb : Nat.beq n m with
  | false => rfl
  | true => exact absurd (Nat.eq_of_beq_eq_true hb) h

theorem frz_names : ∀ (l : Leaf), ∀ m ∈ leafNames (l.frz k e xs), m ∈ leafNames l := by
  intro l m hm
  cases l <;> simp only [Leaf.frz] at hm <;> first | exact hm | (split at hm <;> first | exact hm | cases hm)

theorem frz_namesV : ∀ (cs : List Leaf), ∀ m ∈ namesV (cs.map (Leaf.frz k e xs)), m ∈ namesV cs
  | [], m, h => by cases h
  | l :: cs, m, h => by
    rw [List.map_cons, namesV_cons] at h
    rw [namesV_cons]
    rcases List.mem_append.1 h with h | h
    · exact List.mem_append_left _ (frz_names l m h)
    · exact List.mem_append_right _ (frz_namesV cs m h)

theorem frz_namesT : ∀ (l : List (Bool × List Leaf)), ∀ m ∈ namesT (l.map fun p => (p.1, p.2.map (Leaf.frz k e xs))), m ∈ namesT l
  | [], m, h => by cases h
  | p :: l, m, h => by
    simp only [List.map_cons, namesT] at h ⊢
    rcases List.mem_append.1 h with h | h
    · exact List.mem_append_left _ (frz_namesV p.2 m h)
    · exact List.mem_append_right _ (frz_namesT l m h)

theorem frz_namesOf (v : Val) : ∀ m ∈ namesOf (v.frz k e xs), m ∈ namesOf v := by
  cases v with
  | v g cs => exact frz_namesV cs
  | tup vs => exact frz_namesT vs
  | clo f vs => exact frz_namesT vs
  | lst ls => exact frz_namesV ls

theorem frz_entNames (p : Entry) : ∀ m ∈ entNames (p.frz k e xs), m ∈ entNames p := by
  cases p with
  | box cs => exact frz_namesV cs
  | arr e' ys => exact fun m h => h

def dropI (ι : Inj) (k : Nat) : Inj := fun m => if m = k then none else ι m

theorem dropI_or (m : Nat) : dropI ι k m = ι m ∨ dropI ι k m = none := by
  unfold dropI
  split
  · exact .inr rfl
  · exact .inl rfl

theorem dropI_some {m : Nat} {l : Loc} (h : dropI ι k m = some l) : m ≠ k ∧ ι m = some l := by
  unfold dropI at h
  split at h
  · cases h
  · rename_i hm; exact ⟨hm, h⟩

theorem dropI_av : ∀ b, Av S (dropI ι k) b → Av S ι b := by
  rintro b (h | ⟨m, l, hm, hb⟩)
  · exact .inl h
  · exact .inr ⟨m, l, (dropI_some hm).2, hb⟩

theorem frz_free (I : Inv S w0 ι T w) {l : Loc} {b : Nat} (hl : ι k = some l) (hb : l.blk = some b) : ¬ Av S (dropI ι k) b := by
  rintro (h | ⟨m, l', hm, hb'⟩)
  · have := I.low b h
    have := (I.fresh k l b hl hb).1
    omega
  · obtain ⟨h1, h2⟩ := dropI_some hm
    exact h1 (I.inj m k l' l b h2 hl hb' hb)

theorem castL_self : castL e e xs = some xs := by
  unfold castL
  have : Ty.beq e e = true := by
    have key : ∀ e : Ty, Ty.beq e e = true := by
      intro e
      induction e <;> simp_all [Ty.beq, Nat.beq_refl]
    exact key e
  rw [dif_pos this]

theorem frz_leaf (I : Inv S w0 ι T w) {fl : Bool} (hT : T k = some (fl, .arr e xs)) {l : Leaf} {vs : List Value} (h : RelL w (Av S ι) ι l vs) : RelL w (Av S (dropI ι k)) (dropI ι k) (l.frz k e xs) vs := by
  have keep : RelL w (Av S (dropI ι k)) (dropI ι k) l vs := h.turn (Turn.less w dropI_av) fun m _ => dropI_or m
  cases l <;> simp only [Leaf.frz] <;> try exact keep
  case own n =>
    by_cases hn : n = k
    · subst hn
      rw [Nat.beq_refl]
      refine content_enc (lf := .own n) I dropI_av (by simp only [content, hT]; exact castL_self) h fun m hm l b hl hb => ?_
      simp only [leafNames, List.mem_singleton] at hm
      subst hm
      exact frz_free I hl hb
    · rw [beq_ne hn]; exact keep
  case view n lo hi =>
    by_cases hn : n = k
    · subst hn
      rw [Nat.beq_refl]
      refine content_enc (lf := .view n lo hi) I dropI_av (by simp only [content, hT, castL_self]; rfl) h fun m hm l b hl hb => ?_
      simp only [leafNames, List.mem_singleton] at hm
      subst hm
      exact frz_free I hl hb
    · rw [beq_ne hn]; exact keep
  case eptr n i inner =>
    by_cases hn : n = k
    · subst hn
      rw [Nat.beq_refl]
      obtain ⟨l, hl, ho⟩ := I.ent n _ hT
      simp only [RelL] at h
      obtain ⟨h0, h1, b, hb, rfl⟩ := h.2.2 l hl
      obtain ⟨k1, k2, k3, k4⟩ := ho
      rcases k4 with ⟨hb', _⟩ | ⟨b', vs', el, fz, hb', hh, _, hs, hx⟩
      · rw [hb] at hb'; cases hb'
      · rw [hb] at hb'
        cases hb'
        have hi : i.toNat < xs.length := by omega
        have hnth : nth e.dflt xs i = xs[i.toNat] := by
          unfold nth
          rw [List.getD_eq_getElem?_getD, List.getElem?_eq_getElem hi]; rfl
        obtain ⟨us, q1, q2⟩ := hx i.toNat xs[i.toNat] (List.getElem?_eq_getElem hi)
        refine ⟨b, i.toNat * l.sz, us, rfl, frz_free I hl hb, heap_lt hh, ?_, ?_⟩
        · rw [hnth]; exact q1.turn (Turn.less w dropI_av)
        · rw [k2]; exact q2
    · rw [beq_ne hn]; exact keep
  case eaptr n i off j m sz =>
    by_cases hn : n = k
    · subst hn
      rw [Nat.beq_refl]
      simp only [RelL] at h ⊢
      exact h.1
    · rw [beq_ne hn]; exact keep

theorem frz_cells (I : Inv S w0 ι T w) {fl : Bool} (hT : T k = some (fl, .arr e xs)) : ∀ {cs : List Leaf} {vs : List Value}, RelC w (Av S ι) ι cs vs → RelC w (Av S (dropI ι k)) (dropI ι k) (cs.map (Leaf.frz k e xs)) vs
  | [], _, h => h
  | l :: cs, _, ⟨us, ts, e', h1, h2⟩ => ⟨us, ts, e', frz_leaf I hT h1, frz_cells I hT h2⟩

theorem frz_val1 (I : Inv S w0 ι T w) {fl : Bool} (hT : T k = some (fl, .arr e xs)) {g : Bool} {cs : List Leaf} {v : Value} (h : RelV1 w (Av S ι) ι g cs v) : RelV1 w (Av S (dropI ι k)) (dropI ι k) g (cs.map (Leaf.frz k e xs)) v := by
  cases g with
  | false => exact frz_cells I hT (cs := cs) (vs := [v]) h
  | true => obtain ⟨vs, e', h⟩ := h; exact ⟨vs, e', frz_cells I hT h⟩

theorem frz_val (I : Inv S w0 ι T w) {fl : Bool} (hT : T k = some (fl, .arr e xs)) {x : Val} {v : Value} (h : RelV w (Av S ι) ι x v) : RelV w (Av S (dropI ι k)) (dropI ι k) (x.frz k e xs) v := by
  cases x with
  | v g cs => exact frz_val1 I hT h
  | tup l =>
    obtain ⟨vs, e', h⟩ := h
    refine ⟨vs, e', fun i g cs hi => ?_⟩
    rw [List.getElem?_map] at hi
    obtain ⟨p, hp, hq⟩ := Option.map_eq_some_iff.1 hi
    cases hq
    obtain ⟨u, hu, h'⟩ := h i p.1 p.2 hp
    exact ⟨u, hu, frz_val1 I hT h'⟩
  | clo f l =>
    obtain ⟨vs, e', hl, h⟩ := h
    refine ⟨vs, e', by rw [List.length_map]; exact hl, fun i g cs hi => ?_⟩
    rw [List.getElem?_map] at hi
    obtain ⟨p, hp, hq⟩ := Option.map_eq_some_iff.1 hi
    cases hq
    obtain ⟨u, hu, h'⟩ := h i p.1 p.2 hp
    exact ⟨u, hu, frz_val1 I hT h'⟩
  | lst ls =>
    obtain ⟨b, m, e', h1, h2, h3, h⟩ := h
    refine ⟨b, m, by rw [List.length_map]; exact e', by rw [List.length_map]; exact h1, fun hA => h2 (dropI_av b hA), h3, fun j l hj => ?_⟩
    rw [List.getElem?_map] at hj
    obtain ⟨l', hl', rfl⟩ := Option.map_eq_some_iff.1 hj
    obtain ⟨u, q1, q2⟩ := h j l' hl'
    exact ⟨u, frz_leaf I hT q1, q2⟩

theorem frz_turn : Turn w w (Av S ι) (Av S (dropI ι k)) := Turn.less w dropI_av

/-- The ghost step: the row is given up. -/
theorem SimF.frz {n : Nat} {τ τ' : Nat → Val} {T' : Tab} {fl : Bool} (h : SimF S w0 N n τ T a w ι) (hT : T k = some (fl, .arr e xs)) (hτ : ∀ t, τ' t = (τ t).frz k e xs ∨ τ' t = τ t) (hk : T' k = none)
    (hT' : ∀ m, m ≠ k → T' m = T m ∨ T' m = (T m).map fun p => (p.1, p.2.frz k e xs)) : SimF S w0 N n τ' T' a w (dropI ι k) := by
  have I := h.inv
  have hsub : ∀ m p, T' m = some p → m ≠ k ∧ ∃ q, T m = some q ∧ (p = q ∨ p = (q.1, q.2.frz k e xs)) := fun m p hp => by
    by_cases hm : m = k
    · subst hm; rw [hk] at hp; cases hp
    · refine ⟨hm, ?_⟩
      rcases hT' m hm with h' | h'
      · rw [h'] at hp; exact ⟨p, hp, .inl rfl⟩
      · rw [h'] at hp
        obtain ⟨q, hq, rfl⟩ := Option.map_eq_some_iff.1 hp
        exact ⟨q, hq, .inr rfl⟩
  refine ⟨I.step (Below.refl _ _) frz_turn (fun m l b hm hb => I.fresh m l b (dropI_some hm).2 hb) (fun m m' l l' b hm hm' hb hb' => I.inj m m' l l' b (dropI_some hm).2 (dropI_some hm').2 hb hb') (fun m p hp => ?_) (fun m l hm => ?_), fun t => ?_, h.size, h.defers, fun t m hm => ?_, fun m p hp => ?_⟩
  · obtain ⟨hm, q, hq, hpq⟩ := hsub m p hp
    have hsame : dropI ι k m = ι m := by unfold dropI; rw [if_neg hm]
    rcases hpq with rfl | rfl
    · exact .inl ⟨_, hq, rfl, hsame, fun q _ => dropI_or q, fun _ _ _ _ => rfl⟩
    · obtain ⟨fl', q2⟩ := q
      cases q2 with
      | arr e' ys => exact .inl ⟨_, hq, rfl, hsame, fun q _ => dropI_or q, fun _ _ _ _ => rfl⟩
      | box cs =>
        right
        obtain ⟨l, b, vs, el, fz, q1, q2, q3, q4, q5⟩ := I.ent m _ hq
        exact ⟨l, b, vs, el, fz, by rw [hsame]; exact q1, q2, q3, q4, frz_cells I hT q5⟩
  · obtain ⟨hmk, hm'⟩ := dropI_some hm
    have := I.dom m l hm'
    rcases hT' m hmk with h' | h'
    · rw [h']; exact this
    · rw [h', Option.isSome_map]; exact this
  · rcases hτ t with h' | h'
    · rw [h']; exact frz_val I hT (h.tmp t)
    · rw [h']; exact (h.tmp t).turn frz_turn fun m _ => dropI_or m
  · rcases hτ t with h' | h'
    · rw [h'] at hm; exact h.vals t m (frz_namesOf _ m hm)
    · rw [h'] at hm; exact h.vals t m hm
  · obtain ⟨hm, q, hq, hpq⟩ := hsub m p hp
    obtain ⟨k1, k2⟩ := h.tabs m q hq
    refine ⟨k1, fun q' hq' => ?_⟩
    rcases hpq with rfl | rfl
    · exact k2 q' hq'
    · exact k2 q' (frz_entNames _ q' hq')

theorem lk_mapv {α β : Type} (f : α → β) : ∀ (l : List (Nat × α)) (n : Nat), lk (l.map fun p => (p.1, f p.2)) n = (lk l n).map f
  | [], _ => rfl
  | q :: l, n => by
    simp only [List.map_cons, lk]
    split
    · rfl
    · exact lk_mapv f l n

structure FrzOk (S : Nat → Prop) (w : World) (ι : Inj) (σ σ' : St) (ι' : Inj) : Prop where
  turn : Turn w w (Av S ι) (Av S ι')
  inj : ∀ m, ι' m = ι m ∨ ι' m = none
  kt : σ'.kt = σ.kt
  ktab : σ'.ktab = σ.ktab
  next : σ'.next = σ.next
  tab : ∀ q ∈ σ'.tab, ∃ q' ∈ σ.tab, q'.1 = q.1

theorem frz1_sim {n : Nat} (σ : St) (k : Nat) (h : SimF S w0 N n σ.tmp σ.ent a w ι) : ∃ ι', SimF S w0 N n (σ.frz1 k).tmp (σ.frz1 k).ent a w ι' ∧ FrzOk S w ι σ (σ.frz1 k) ι' := by
  unfold St.frz1
  split
  case h_2 => exact ⟨ι, h, Turn.refl _ _, fun _ => .inl rfl, rfl, rfl, rfl, fun q hq => ⟨q, hq, rfl⟩⟩
  rename_i e xs hl
  have hT : σ.ent k = some (true, .arr e xs) := by simp only [St.ent, hl]
  refine ⟨dropI ι k, h.frz hT (fun t => ?_) ?_ (fun m hm => ?_), frz_turn, dropI_or, rfl, rfl, rfl, fun q hq => ?_⟩
  · simp only [St.tmp, lk_mapv]
    cases ht : lk σ.tmps t with
    | some x => exact .inl rfl
    | none => exact .inr rfl
  · simp only [St.ent, lk, Nat.beq_refl]
  · simp only [St.ent, lk, beq_ne (Ne.symm hm), lk_mapv]
    cases ht : lk σ.tab m with
    | none => exact .inl rfl
    | some p =>
      cases p with
      | none => exact .inl rfl
      | some p => exact .inr rfl
  · rcases List.mem_cons.1 hq with rfl | hq
    · exact ⟨_, lk_of_mem hl, rfl⟩
    · obtain ⟨q', hq', rfl⟩ := List.mem_map.1 hq
      exact ⟨q', hq', rfl⟩

theorem FrzOk.trans {σ σ1 σ2 : St} {ι1 ι2 : Inj} (h : FrzOk S w ι σ σ1 ι1) (k : FrzOk S w ι1 σ1 σ2 ι2) : FrzOk S w ι σ σ2 ι2 :=
  ⟨h.turn.trans k.turn, fun m => by
    rcases k.inj m with e | e
    · rw [e]; exact h.inj m
    · exact .inr e, k.kt.trans h.kt, k.ktab.trans h.ktab, k.next.trans h.next, fun q hq => by
    obtain ⟨q1, h1, e1⟩ := k.tab q hq
    obtain ⟨q2, h2, e2⟩ := h.tab q1 h1
    exact ⟨q2, h2, e2.trans e1⟩⟩

theorem frz_sim {n : Nat} : ∀ (ks : List Nat) (σ : St) (ι : Inj), SimF S w0 N n σ.tmp σ.ent a w ι → ∃ ι', SimF S w0 N n (σ.frz ks).tmp (σ.frz ks).ent a w ι' ∧ FrzOk S w ι σ (σ.frz ks) ι'
  | [], σ, ι, h => ⟨ι, h, Turn.refl _ _, fun _ => .inl rfl, rfl, rfl, rfl, fun q hq => ⟨q, hq, rfl⟩⟩
  | k :: ks, σ, ι, h => by
    obtain ⟨ι1, h1, h2⟩ := frz1_sim σ k h
    obtain ⟨ι2, h3, h4⟩ := frz_sim ks (σ.frz1 k) ι1 h1
    exact ⟨ι2, h3, h2.trans h4⟩

theorem frzOf_sim {n : Nat} {E : Env} (σ : St) (o : Op) (h : SimF S w0 N n σ.tmp σ.ent a w ι) : ∃ ι', SimF S w0 N n (frzOf E σ o).tmp (frzOf E σ o).ent a w ι' ∧ FrzOk S w ι σ (frzOf E σ o) ι' := by
  have triv : ∃ ι', SimF S w0 N n σ.tmp σ.ent a w ι' ∧ FrzOk S w ι σ σ ι' := ⟨ι, h, Turn.refl _ _, fun _ => .inl rfl, rfl, rfl, rfl, fun q hq => ⟨q, hq, rfl⟩⟩
  unfold frzOf
  split
  · split
    · split
      · split
        · exact frz_sim _ σ ι h
        · exact triv
      · exact triv
    · exact triv
  · exact triv

end
end Go.Proofs.Ytacmfiddaklkiab.Lift
