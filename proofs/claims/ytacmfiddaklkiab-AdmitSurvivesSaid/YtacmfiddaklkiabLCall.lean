/- 'Lift': calls of functions that are known. -/
import Derived.Test.YtacmfiddaklkiabLNat
set_option linter.unusedVariables false
set_option linter.unusedSimpArgs false
namespace Go.Proofs.Ytacmfiddaklkiab.Lift
open Go Go.RowKit

def VEncO (w : World) (A : Nat → Prop) (τ : Ty) (x : τ.den) (v : Value) (ls : List Loc) : Prop :=
  match τ.agg with
  | true => ∃ vs : Array Value, v = .agg vs ∧ EncO w A τ x vs.toList ls
  | false => EncO w A τ x [v] ls

def VEnc (w : World) (A : Nat → Prop) (τ : Ty) (x : τ.den) (v : Value) : Prop :=
  match τ.agg with
  | true => ∃ vs : Array Value, v = .agg vs ∧ Enc w A τ x vs.toList
  | false => Enc w A τ x [v]

def ArgsOk (w : World) (A : Nat → Prop) : (l : List Ty) → (tup l).den → List Value → Prop
  | [], _, vs => vs = []
  | [a], x, vs => ∃ v, vs = [v] ∧ VEnc w A a x v
  | a :: b :: r, x, vs => ∃ v us, vs = v :: us ∧ VEnc w A a x.1 v ∧ ArgsOk w A (b :: r) x.2 us

def ResOk (w : World) (A : Nat → Prop) : (l : List Ty) → (tup l).den → List Value → List Loc → Prop
  | [], _, vs, ls => vs = [] ∧ ls = []
  | [a], x, vs, ls => ∃ v, vs = [v] ∧ VEncO w A a x v ls
  | a :: b :: r, x, vs, ls => ∃ v us l1 l2, vs = v :: us ∧ ls = l1 ++ l2 ∧ VEncO w A a x.1 v l1 ∧ ResOk w A (b :: r) x.2 us l2

def retV (vs : List Value) : Value :=
  match vs with
  | [v] => v
  | vs => .tuple vs.toArray

def rows (lc : List Loc) : List Nat := lc.filterMap Loc.blk

def Ty.owns : Ty → Nat
  | .own _ => 1
  | .st t => t.owns
  | .pair a b => a.owns + b.owns
  | _ => 0

def ownsL : List Ty → Nat
  | [] => 0
  | a :: r => a.owns + ownsL r

/-- The same for a function whose first argument is the nil slice: x are the others. -/
structure SoundN (P : Program) (f : FuncId) (s : FSpec) : Prop where
  ok : FnOk P f
  own : ownsL s.res ≤ 16
  run : ∀ (S : Nat → Prop) (w : World) (vals : Array Value) (x : (tup s.args).den) (y : (tup s.res).den), (∀ b, S b → b < w.heap.size) → ArgsOk w S s.args x vals.toList → s.f x = some y →
    Calls P f (#[.slice none 0 0] ++ vals) w fun e w' => ∃ vs lc, e = .returned (retV vs) ∧ Below w.heap.size w w' ∧ (∀ b ∈ rows lc, w.heap.size ≤ b ∧ b < w'.heap.size) ∧ (rows lc).Nodup ∧ ResOk w' (fun b => S b ∨ b ∈ rows lc) s.res y vs lc

/-- The function does what its specification says, wherever its arguments lie (S: what its results must not lead to). -/
structure Sound (P : Program) (f : FuncId) (s : FSpec) : Prop where
  ok : FnOk P f
  own : ownsL s.res ≤ 16
  run : ∀ (S : Nat → Prop) (w : World) (vals : Array Value) (x : (tup s.args).den) (y : (tup s.res).den), (∀ b, S b → b < w.heap.size) → ArgsOk w S s.args x vals.toList → s.f x = some y →
    Calls P f vals w fun e w' => ∃ vs lc, e = .returned (retV vs) ∧ Below w.heap.size w w' ∧ (∀ b ∈ rows lc, w.heap.size ≤ b ∧ b < w'.heap.size) ∧ (rows lc).Nodup ∧ ResOk w' (fun b => S b ∨ b ∈ rows lc) s.res y vs lc

section
variable {P : Program} {S : Nat → Prop} {w0 w : World} {ι : Inj} {T : Tab} {nm : Nat} {o : Oper} {a : Act} {N : Nat → Prop} {ρ : Type} {r : ρ} {E : Env}

theorem EncO.owns {A : Nat → Prop} : ∀ {τ : Ty} {x : τ.den} {vs : List Value} {ls : List Loc}, EncO w A τ x vs ls → ls.length = τ.owns := by
  intro τ
  induction τ with
  | own e _ => intro x vs ls h; obtain ⟨l, rfl, _⟩ := h; rfl
  | pair a b iha ihb => intro x vs ls h; obtain ⟨us, ts, l1, l2, _, rfl, h1, h2⟩ := h; simp [Ty.owns, iha h1, ihb h2]
  | st t ih => intro x vs ls h; exact ih (x := x) (vs := vs) h
  | _ => intro x vs ls h; rw [h.1]; rfl

theorem VEncO.owns {A : Nat → Prop} {τ : Ty} {x : τ.den} {v : Value} {ls : List Loc} (h : VEncO w A τ x v ls) : ls.length = τ.owns := by
  unfold VEncO at h
  split at h
  · obtain ⟨vs, _, h⟩ := h; exact h.owns
  · exact h.owns

theorem ResOk.owns {A : Nat → Prop} : ∀ {l : List Ty} {x : (tup l).den} {vs : List Value} {ls : List Loc}, ResOk w A l x vs ls → ls.length = ownsL l
  | [], _, _, _, h => by rw [h.2]; rfl
  | [a], _, _, _, ⟨v, _, h⟩ => by rw [h.owns]; simp [ownsL]
  | a :: b :: r, _, _, _, ⟨v, us, l1, l2, _, e, h1, h2⟩ => by
    rw [e, List.length_append, h1.owns, ResOk.owns h2]
    simp [ownsL]

theorem VEncO.rel {A : Nat → Prop} {τ : Ty} {x : τ.den} {v : Value} {ls : List Loc} {c : Nat} (h : VEncO w A τ x v ls) (hn : named c ls ι) :
    (toCO τ x c).2 = c + ls.length ∧ RelV1 w A ι τ.agg (toCO τ x c).1.1 v ∧ (∀ n ∈ namesV (toCO τ x c).1.1, c ≤ n ∧ n < c + ls.length) ∧
      (toCO τ x c).1.2.map (·.1) = List.range' c ls.length ∧ (∀ n p, (n, p) ∈ (toCO τ x c).1.2 → ∃ e, p = some e ∧ EntOk w A ι n e ∧ (∃ e' xs, e = .arr e' xs)) := by
  unfold VEncO at h
  cases ha : τ.agg with
  | true =>
    rw [ha] at h
    obtain ⟨vs, rfl, h⟩ := h
    obtain ⟨h1, h2, h3, h4, h5⟩ := toCO_rel h hn
    exact ⟨h1, ⟨vs, rfl, h2⟩, h3, h4, h5⟩
  | false =>
    rw [ha] at h
    obtain ⟨h1, h2, h3, h4, h5⟩ := toCO_rel h hn
    exact ⟨h1, h2, h3, h4, h5⟩

theorem res1_rel {A : Nat → Prop} : ∀ {l : List Ty} {x : (tup l).den} {vs : List Value} {ls : List Loc} {c : Nat}, ResOk w A l x vs ls → named c ls ι →
    ((res1 l x c).1.length = vs.length ∧ ∀ (i : Nat) (g : Bool) (cs : List Leaf), (res1 l x c).1[i]? = some (g, cs) → ∃ v, vs[i]? = some v ∧ RelV1 w A ι g cs v ∧ ∀ n ∈ namesV cs, c ≤ n ∧ n < c + ls.length) ∧
      (res1 l x c).2.map (·.1) = List.range' c ls.length ∧ (∀ n p, (n, p) ∈ (res1 l x c).2 → ∃ e, p = some e ∧ EntOk w A ι n e ∧ (∃ e' xs, e = .arr e' xs))
  | [], _, vs, ls, c, h, hn => by
    obtain ⟨rfl, rfl⟩ := h
    exact ⟨⟨rfl, fun i g cs hi => by cases hi⟩, rfl, fun n p hp => by cases hp⟩
  | [a], x, vs, ls, c, h, hn => by
    obtain ⟨v, rfl, h⟩ := h
    obtain ⟨h1, h2, h3, h4, h5⟩ := h.rel hn
    refine ⟨⟨rfl, fun i g cs hi => ?_⟩, h4, h5⟩
    cases i with
    | zero =>
      cases hi
      exact ⟨v, rfl, h2, h3⟩
    | succ i => cases hi
  | a :: b :: r, x, vs, ls, c, h, hn => by
    obtain ⟨v, us, l1, l2, rfl, rfl, h, hr⟩ := h
    obtain ⟨h1, h2, h3, h4, h5⟩ := h.rel hn.left
    obtain ⟨⟨q0, q1⟩, q2, q3⟩ := res1_rel (c := (toCO a x.1 c).2) hr (by rw [h1]; exact hn.right)
    have e : res1 (a :: b :: r) x c = ((a.agg, (toCO a x.1 c).1.1) :: (res1 (b :: r) x.2 (toCO a x.1 c).2).1, (toCO a x.1 c).1.2 ++ (res1 (b :: r) x.2 (toCO a x.1 c).2).2) := rfl
    rw [e]
    refine ⟨⟨by simp [q0], fun i g cs hi => ?_⟩, ?_, ?_⟩
    · cases i with
      | zero =>
        cases hi
        exact ⟨v, rfl, h2, fun n hn' => by have := h3 n hn'; rw [List.length_append]; omega⟩
      | succ i =>
        obtain ⟨u, k1, k2, k3⟩ := q1 i g cs (by simpa using hi)
        refine ⟨u, by simpa using k1, k2, fun n hn' => ?_⟩
        have := k3 n hn'
        rw [h1] at this
        rw [List.length_append]; omega
    · rw [List.map_append, h4, q2, h1]; simp [List.range'_append_1]
    · intro n p hp
      rcases List.mem_append.1 hp with hp | hp
      · exact h5 n p hp
      · exact q3 n p hp

theorem lk_of_mem {α : Type} {l : List (Nat × α)} {n : Nat} {x : α} (h : lk l n = some x) : (n, x) ∈ l := by
  induction l with
  | nil => cases h
  | cons p l ih =>
    obtain ⟨k, y⟩ := p
    simp only [lk] at h
    split at h
    · rename_i hb; cases h; rw [Nat.eq_of_beq_eq_true hb]; simp
    · exact List.mem_cons_of_mem _ (ih h)

theorem lk_none {α : Type} {l : List (Nat × α)} {n : Nat} (h : lk l n = none) : n ∉ l.map (·.1) := by
  induction l with
  | nil => simp
  | cons p l ih =>
    obtain ⟨k, y⟩ := p
    simp only [lk] at h
    split at h
    · cases h
    · rename_i hb
      intro hm
      rcases List.mem_cons.1 hm with hm | hm
      · subst hm; simp [Nat.beq_refl] at hb
      · exact ih h hm

theorem lk_isSome {α : Type} {l : List (Nat × α)} {n : Nat} (h : n ∈ l.map (·.1)) : ∃ x, lk l n = some x := by
  cases hl : lk l n with
  | some x => exact ⟨x, rfl⟩
  | none => exact absurd h (lk_none hl)

/-- The blocks that are not a results': those of the rows ks are left out. -/
def Bv (S : Nat → Prop) (ι : Inj) (ks : List Nat) : Nat → Prop := fun b => S b ∨ ∃ n l, n ∉ ks ∧ ι n = some l ∧ l.blk = some b

theorem Bv.av {S : Nat → Prop} {ι : Inj} {ks : List Nat} {b : Nat} (h : Bv S ι ks b) : Av S ι b := by
  rcases h with h | ⟨n, l, _, h1, h2⟩
  · exact .inl h
  · exact .inr ⟨n, l, h1, h2⟩

theorem lk_kill {u : List (Nat × Option Entry)} : ∀ {ks : List Nat} {m : Nat}, (m ∈ ks ∧ lk (ks.map (fun n => (n, (none : Option Entry))) ++ u) m = some none) ∨ (m ∉ ks ∧ lk (ks.map (fun n => (n, (none : Option Entry))) ++ u) m = lk u m)
  | [], m => .inr ⟨by simp, rfl⟩
  | k :: ks, m => by
    simp only [List.map_cons, List.cons_append, lk]
    by_cases h : k = m
    · subst h
      rw [Nat.beq_refl]
      exact .inl ⟨by simp, rfl⟩
    · have : Nat.beq k m = false := by cases hb : Nat.beq k m; rfl; exact absurd (Nat.eq_of_beq_eq_true hb) h
      rw [this]
      rcases lk_kill (u := u) (ks := ks) (m := m) with ⟨h1, h2⟩ | ⟨h1, h2⟩
      · exact .inl ⟨List.mem_cons_of_mem _ h1, h2⟩
      · refine .inr ⟨fun hm => ?_, h2⟩
        rcases List.mem_cons.1 hm with hm | hm
        · exact h hm.symm
        · exact h1 hm

/-- New rows under new names; the rows ks are given up. -/
theorem Inv.more {w' : World} (I : Inv S w0 ι T w) {lc : List Loc} {ks : List Nat} {u : List (Nat × Option Entry)} (hks : ∀ n ∈ ks, ¬ In16 nm n) (hk : lc.length ≤ 16) (hnm : ∀ n, In16 nm n → T n = none) (hfr : ∀ m p, T m = some p → ∀ q ∈ entNames p.2, ¬ In16 nm q)
    (hb : Below w.heap.size w w') (hfresh : ∀ b ∈ rows lc, w.heap.size ≤ b ∧ b < w'.heap.size) (hnd : (rows lc).Nodup) (hu : u.map (·.1) = List.range' nm lc.length)
    (he : ∀ ι' : Inj, named nm lc ι' → (∀ b, Av S ι' b → Bv S ι ks b ∨ b ∈ rows lc) → ∀ n p, (n, p) ∈ u → ∃ e, p = some e ∧ EntOk w' (Av S ι') ι' n e) :
    ∃ ι' : Inj, named nm lc ι' ∧ (∀ b, Av S ι' b → Bv S ι ks b ∨ b ∈ rows lc) ∧ (∀ m, ¬ In16 nm m → ι' m = ι m ∨ ι' m = none) ∧ Inv S w0 ι' (upd T (ks.map (fun n => (n, none)) ++ u)) w' ∧ Turn w w' (Av S ι) (Av S ι') := by
  have hnone : ∀ m, In16 nm m → ι m = none := fun m hm => by
    cases h : ι m with
    | none => rfl
    | some l' => have := I.dom m l' h; rw [hnm m hm] at this; cases this
  let ι' : Inj := fun m => if nm ≤ m ∧ m < nm + lc.length then lc[m - nm]? else if m ∈ ks then none else ι m
  have hnew : named nm lc ι' := fun j l hj => by
    have hlt := (List.getElem?_eq_some_iff.1 hj).1
    show (if nm ≤ nm + j ∧ nm + j < nm + lc.length then lc[nm + j - nm]? else if nm + j ∈ ks then none else ι (nm + j)) = some l
    rw [if_pos ⟨by omega, by omega⟩, Nat.add_sub_cancel_left]; exact hj
  have hin : ∀ m l, ι' m = some l → (∃ j, lc[j]? = some l ∧ m = nm + j) ∨ (ι m = some l ∧ ¬ In16 nm m ∧ m ∉ ks) := fun m l hm => by
    by_cases h : nm ≤ m ∧ m < nm + lc.length
    · have : ι' m = lc[m - nm]? := if_pos h
      rw [this] at hm
      exact .inl ⟨m - nm, hm, by omega⟩
    · have : ι' m = if m ∈ ks then none else ι m := if_neg h
      rw [this] at hm
      split at hm
      · cases hm
      · rename_i hmk
        exact .inr ⟨hm, fun h' => (by rw [hnone m h'] at hm; cases hm), hmk⟩
  have hrow : ∀ (j : Nat) (l : Loc) (b : Nat), lc[j]? = some l → l.blk = some b → b ∈ rows lc := fun j l b hj hbl => List.mem_filterMap.2 ⟨l, List.mem_of_getElem? hj, hbl⟩
  have hav : ∀ b, Av S ι' b → Bv S ι ks b ∨ b ∈ rows lc := fun b => by
    rintro (h | ⟨m, l, hm, hbl⟩)
    · exact .inl (.inl h)
    · rcases hin m l hm with ⟨j, hj, rfl⟩ | ⟨hm, _, hmk⟩
      · exact .inr (hrow j l b hj hbl)
      · exact .inl (.inr ⟨m, l, hmk, hm, hbl⟩)
  have hother : ∀ m, ¬ In16 nm m → ι' m = ι m ∨ ι' m = none := fun m hm => by
    have : ι' m = if m ∈ ks then none else ι m := if_neg fun h => hm ⟨h.1, by omega⟩
    rw [this]
    split
    · exact .inr rfl
    · exact .inl rfl
  have hsame : ∀ m, ¬ In16 nm m → m ∉ ks → ι' m = ι m := fun m hm hmk => by
    have : ι' m = if m ∈ ks then none else ι m := if_neg fun h => hm ⟨h.1, by omega⟩
    rw [this, if_neg hmk]
  have ht : Turn w w' (Av S ι) (Av S ι') := ⟨hb.size, fun b hlt _ => hb.block b hlt, fun b hlt hA => by
    rcases hav b hA with h | h
    · exact h.av
    · have := (hfresh b h).1; omega⟩
  have hle : w0.heap.size ≤ w.heap.size := I.below.size
  have hupd : ∀ m p, upd T (ks.map (fun n => (n, none)) ++ u) m = some p → (∃ e, lk u m = some (some e) ∧ p = (true, e)) ∨ (T m = some p ∧ lk u m = none ∧ m ∉ ks) := fun m p hp => by
    rcases lk_kill (u := u) (ks := ks) (m := m) with ⟨_, hl⟩ | ⟨hmk, hl⟩
    · simp only [upd, hl] at hp; cases hp
    · simp only [upd, hl] at hp
      split at hp
      · rename_i e hl; cases hp; exact .inl ⟨e, hl, rfl⟩
      · cases hp
      · rename_i hl; exact .inr ⟨hp, hl, hmk⟩
  refine ⟨ι', hnew, hav, hother, I.step (hb.mono hle) ht (fun m l b hm hbl => ?_) (fun m m' l l' b hm hm' hb1 hb2 => ?_) (fun m p hp => ?_) (fun m l hm => ?_), ht⟩
  · rcases hin m l hm with ⟨j, hj, rfl⟩ | ⟨hm, _⟩
    · have := hfresh b (hrow j l b hj hbl); omega
    · have := I.fresh m l b hm hbl
      have := hb.size
      omega
  · rcases hin m l hm with ⟨j, hj, rfl⟩ | ⟨hm, _⟩ <;> rcases hin m' l' hm' with ⟨j', hj', rfl⟩ | ⟨hm', _⟩
    · have : j = j' := by
        have key : ∀ (lc : List Loc) (j j' : Nat) (l l' : Loc), (rows lc).Nodup → lc[j]? = some l → lc[j']? = some l' → l.blk = some b → l'.blk = some b → j = j' := by
          intro lc
          induction lc with
          | nil => intro j j' l l' _ hj; cases hj
          | cons q lc ih =>
            intro j j' l l' hnd hj hj' hb1 hb2
            cases hq : q.blk with
            | none =>
              have hr : rows (q :: lc) = rows lc := by simp [rows, hq]
              rw [hr] at hnd
              cases j with
              | zero => cases hj; rw [hq] at hb1; cases hb1
              | succ j => cases j' with
                | zero => cases hj'; rw [hq] at hb2; cases hb2
                | succ j' => rw [ih j j' l l' hnd (by simpa using hj) (by simpa using hj') hb1 hb2]
            | some bq =>
              have hr : rows (q :: lc) = bq :: rows lc := by simp [rows, hq]
              rw [hr, List.nodup_cons] at hnd
              have mem : ∀ (i : Nat) (z : Loc), lc[i]? = some z → z.blk = some b → b ∈ rows lc := fun i z hi hz => List.mem_filterMap.2 ⟨z, List.mem_of_getElem? hi, hz⟩
              cases j with
              | zero =>
                cases hj
                rw [hq] at hb1; cases hb1
                cases j' with
                | zero => rfl
                | succ j' => exact absurd (mem j' l' (by simpa using hj') hb2) hnd.1
              | succ j => cases j' with
                | zero =>
                  cases hj'
                  rw [hq] at hb2; cases hb2
                  exact absurd (mem j l (by simpa using hj) hb1) hnd.1
                | succ j' => rw [ih j j' l l' hnd.2 (by simpa using hj) (by simpa using hj') hb1 hb2]
        exact key lc j j' l l' hnd hj hj' hb1 hb2
      rw [this]
    · have h1 := (hfresh b (hrow j l b hj hb1)).1
      have h2 := (I.fresh m' l' b hm' hb2).2
      omega
    · have h1 := (hfresh b (hrow j' l' b hj' hb2)).1
      have h2 := (I.fresh m l b hm hb1).2
      omega
    · exact I.inj m m' l l' b hm hm' hb1 hb2
  · rcases hupd m p hp with ⟨e, hl, rfl⟩ | ⟨hT, hl, hmk⟩
    · obtain ⟨e', he', hok⟩ := he ι' hnew hav m _ (lk_of_mem hl)
      cases he'
      exact .inr hok
    · have hm16 : ¬ In16 nm m := fun h => by rw [hnm m h] at hT; cases hT
      exact .inl ⟨p, hT, rfl, hsame m hm16 hmk, fun q hq => hother q (hfr m p hT q hq), fun l b hl' hb' => hb.block b (I.fresh m l b hl' hb').2⟩
  · rcases hin m l hm with ⟨j, hj, rfl⟩ | ⟨hm, hn, hmk⟩
    · have hjl := (List.getElem?_eq_some_iff.1 hj).1
      have hmem : nm + j ∈ u.map (·.1) := by rw [hu]; exact List.mem_range'_1.2 ⟨by omega, by omega⟩
      obtain ⟨p, hp⟩ := lk_isSome hmem
      obtain ⟨e, rfl, _⟩ := he ι' hnew hav _ _ (lk_of_mem hp)
      rcases lk_kill (u := u) (ks := ks) (m := nm + j) with ⟨hmk, _⟩ | ⟨_, hl⟩
      · exact absurd ⟨by omega, by omega⟩ (hks _ hmk)
      · simp [upd, hl, hp]
    · have hnot : lk u m = none := by
        cases hl : lk u m with
        | none => rfl
        | some p =>
          have : m ∈ u.map (·.1) := List.mem_map.2 ⟨_, lk_of_mem hl, rfl⟩
          rw [hu] at this
          have := List.mem_range'_1.1 this
          exact absurd ⟨by omega, by omega⟩ hn
      rcases lk_kill (u := u) (ks := ks) (m := m) with ⟨hmk', _⟩ | ⟨_, hl⟩
      · exact absurd hmk' hmk
      · simp only [upd, hl, hnot]
        exact I.dom m l hm

theorem ofVal_enc (I : Inv S w0 ι T w) {B : Nat → Prop} (hB : ∀ b, B b → Av S ι b) {τ : Ty} {g : Bool} {cs : List Leaf} {x : τ.den} {v : Value} (h : ofVal T τ g cs = some x) (hr : RelV1 w (Av S ι) ι g cs v)
    (hp : τ.plain = true) (hn : ∀ n ∈ ownNames cs, ∀ l b, ι n = some l → l.blk = some b → ¬ B b) : VEnc w B τ x v := by
  unfold ofVal at h
  unfold VEnc
  split at h
  · rename_i ha
    rw [ha]
    obtain ⟨vs, rfl, hr⟩ := hr
    exact ⟨vs, rfl, ofCs_enc I hB h hr hp hn⟩
  · rename_i ha
    rw [ha]
    exact ofCs_enc I hB h hr hp hn
  · cases h

theorem lstVal_enc (I : Inv S w0 ι T w) {B : Nat → Prop} (hB : ∀ b, B b → Av S ι b) {τ : Ty} {ls : List Leaf} {x : τ.den} {v : Value} (h : lstVal T τ ls = some x) (hr : RelV w (Av S ι) ι (.lst ls) v) (hp : τ.plain = true)
    (hn : ∀ n ∈ ownNames ls, ∀ l b, ι n = some l → l.blk = some b → ¬ B b) : VEnc w B τ x v := by
  unfold lstVal at h
  split at h
  case h_2 => cases h
  rename_i e
  split at h
  case h_2 => cases h
  rename_i hs
  have hs := Nat.eq_of_beq_eq_true hs
  obtain ⟨b, m, rfl, h1, h2, h3, h4⟩ := hr
  have key : ∀ (ls : List Leaf) (xs : List e.den), lstL T e ls = some xs → xs.length = ls.length ∧ ∀ (i : Nat) (x : e.den), xs[i]? = some x → ∃ l, ls[i]? = some l ∧ ofCs T e [l] = some x := by
    intro ls
    induction ls with
    | nil => intro xs h; cases h; exact ⟨rfl, fun i x hi => by cases hi⟩
    | cons l ls ih =>
      intro xs h
      simp only [lstL] at h
      obtain ⟨x0, k1, h⟩ := Option.bind_eq_some_iff.1 h
      obtain ⟨ys, k2, rfl⟩ := Option.map_eq_some_iff.1 h
      obtain ⟨q1, q2⟩ := ih ys k2
      refine ⟨by simp [q1], fun i x hi => ?_⟩
      cases i with
      | zero => cases hi; exact ⟨l, rfl, k1⟩
      | succ i => obtain ⟨l', r1, r2⟩ := q2 i x (by simpa using hi); exact ⟨l', by simpa using r1, r2⟩
  obtain ⟨k1, k2⟩ := key ls x h
  have hown : ∀ (ls : List Leaf) (l : Leaf), l ∈ ls → ∀ n ∈ ownNames [l], n ∈ ownNames ls := by
    intro ls
    induction ls with
    | nil => intro l hl; cases hl
    | cons y ls ih =>
      intro l hl n hn
      rcases List.mem_cons.1 hl with rfl | hl
      · have := ownNames_append [l] ls
        rw [show l :: ls = [l] ++ ls from rfl, this]
        exact List.mem_append_left _ hn
      · exact ownNames_cons y ls n (ih l hl n hn)
  show Enc w B (.sl e) x [_]
  refine .inr ⟨b, 0, m, by rw [k1], by rw [k1]; exact h1, fun h => h2 (hB b h), h3, fun i y hy => ?_⟩
  obtain ⟨l, q1, q2⟩ := k2 i y hy
  obtain ⟨u, r1, r2⟩ := h4 i l q1
  refine ⟨[u], ofCs_enc I hB q2 ⟨[u], [], rfl, r1, rfl⟩ hp (fun n hn' => hn n (hown ls l (List.mem_of_getElem? q1) n hn')), ?_⟩
  rw [hs, Nat.mul_one, Nat.zero_add]
  exact r2

theorem args1_enc (I : Inv S w0 ι T w) {B : Nat → Prop} (hB : ∀ b, B b → Av S ι b) {ev : Operand → Val} : ∀ {l : List Ty} {xs : List Operand} {x : (tup l).den}, args1 T l (xs.map ev) = some x → l.all Ty.plain = true →
    (∀ y ∈ xs, RelV w (Av S ι) ι (ev y) (a.eval y)) → (∀ y ∈ xs, ∀ n ∈ ownNamesL [ev y], ∀ l b, ι n = some l → l.blk = some b → ¬ B b) → ArgsOk w B l x (xs.map a.eval)
  | [], [], _, _, _, _, _ => rfl
  | [], _ :: _, _, h, _, _, _ => by cases h
  | [τ], [], _, h, _, _, _ => by cases h
  | [τ], y :: [], x, h, hp, hr, hn => by
    simp only [List.map_cons, List.map_nil] at h
    have hry := hr y (by simp)
    have hny := hn y (by simp)
    cases hv : ev y with
    | tup vs => rw [hv] at h; cases h
    | clo f l => rw [hv] at h; cases h
    | lst ls =>
      rw [hv] at h hry hny
      exact ⟨_, rfl, lstVal_enc I hB h hry (by simpa using hp) (fun n hn' => hny n (by simpa [ownNamesL] using hn'))⟩
    | v g cs =>
      rw [hv] at h hry hny
      exact ⟨_, rfl, ofVal_enc I hB h hry (by simpa using hp) (fun n hn' => hny n (by simpa [ownNamesL] using hn'))⟩
  | [τ], y :: z :: r, x, h, _, _, _ => by
    simp only [List.map_cons] at h
    cases hv : ev y with
    | tup vs => rw [hv] at h; cases h
    | clo f l => rw [hv] at h; cases h
    | lst ls => rw [hv] at h; cases h
    | v g cs => rw [hv] at h; cases h
  | τ :: b :: r, [], _, h, _, _, _ => by cases h
  | τ :: b :: r, y :: ys, x, h, hp, hr, hn => by
    simp only [List.map_cons] at h
    have hry := hr y (by simp)
    have hny := hn y (by simp)
    simp only [List.all_cons, Bool.and_eq_true] at hp
    cases hv : ev y with
    | tup vs => rw [hv] at h; cases h
    | clo f l => rw [hv] at h; cases h
    | lst ls =>
      rw [hv] at h hry hny
      obtain ⟨x1, h1, h⟩ := Option.bind_eq_some_iff.1 h
      obtain ⟨x2, h2, h⟩ := Option.bind_eq_some_iff.1 h
      cases h
      refine ⟨_, _, rfl, lstVal_enc I hB h1 hry hp.1 (fun n hn' => hny n (by simpa [ownNamesL] using hn')), ?_⟩
      exact args1_enc I hB h2 (by simp [hp.2]) (fun z hz => hr z (by simp [hz])) fun z hz => hn z (by simp [hz])
    | v g cs =>
      rw [hv] at h hry hny
      obtain ⟨x1, h1, h⟩ := Option.bind_eq_some_iff.1 h
      obtain ⟨x2, h2, h⟩ := Option.bind_eq_some_iff.1 h
      cases h
      refine ⟨_, _, rfl, ofVal_enc I hB h1 hry hp.1 (fun n hn' => hny n (by simpa [ownNamesL] using hn')), ?_⟩
      exact args1_enc I hB h2 (by simp [hp.2]) (fun z hz => hr z (by simp [hz])) fun z hz => hn z (by simp [hz])

theorem VEncO.avoid {A A' : Nat → Prop} {τ : Ty} {x : τ.den} {v : Value} {ls : List Loc} (h : VEncO w A τ x v ls) (k : τ.hasSl = false ∨ ∀ b, A' b → A b) : VEncO w A' τ x v ls := by
  have key : ∀ {vs : List Value}, EncO w A τ x vs ls → EncO w A' τ x vs ls := fun h => by
    rcases k with k | k
    · exact h.noSl k
    · exact h.turn (Turn.less w k) fun _ _ _ _ => rfl
  unfold VEncO at h ⊢
  split at h
  · obtain ⟨vs, e, h⟩ := h; exact ⟨vs, e, key h⟩
  · exact key h

theorem ResOk.avoid {A A' : Nat → Prop} : ∀ {l : List Ty} {x : (tup l).den} {vs : List Value} {ls : List Loc}, ResOk w A l x vs ls → (l.any Ty.hasSl = false ∨ ∀ b, A' b → A b) → ResOk w A' l x vs ls
  | [], _, _, _, h, _ => h
  | [τ], _, _, _, ⟨v, e, h⟩, k => ⟨v, e, h.avoid (k.imp (fun k => by simpa using k) id)⟩
  | τ :: b :: r, _, _, _, ⟨v, us, l1, l2, e1, e2, h1, h2⟩, k =>
    ⟨v, us, l1, l2, e1, e2, h1.avoid (k.imp (fun k => by simp only [List.any_cons, Bool.or_eq_false_iff] at k; exact k.1) id),
      ResOk.avoid h2 (k.imp (fun k => by simp only [List.any_cons, Bool.or_eq_false_iff] at k ⊢; exact k.2) id)⟩

theorem ownNamesL_cons (v : Val) (r : List Val) : ownNamesL (v :: r) = ownNamesL [v] ++ ownNamesL r := by cases v <;> simp [ownNamesL]

theorem ownNamesL_mem : ∀ {vs : List Val} {v : Val}, v ∈ vs → ∀ n ∈ ownNamesL [v], n ∈ ownNamesL vs
  | [], _, h, _, _ => by cases h
  | x :: r, v, h, n, hn => by
    rw [ownNamesL_cons]
    rcases List.mem_cons.1 h with rfl | h
    · exact List.mem_append_left _ hn
    · exact List.mem_append_right _ (ownNamesL_mem h n hn)

theorem own_names : ∀ (l : List Leaf) (n : Nat), n ∈ ownNames l → n ∈ namesV l := by
  intro l n
  induction l with
  | nil => intro h; cases h
  | cons x l ih => intro h; cases x <;> simp_all [ownNames, namesV] <;> (rcases h with h | h <;> simp_all)

theorem ownNamesL_names : ∀ {vs : List Val} {n : Nat}, n ∈ ownNamesL vs → ∃ v ∈ vs, n ∈ namesOf v
  | [], n, h => by cases h
  | x :: r, n, h => by
    rw [ownNamesL_cons] at h
    rcases List.mem_append.1 h with h | h
    · refine ⟨x, List.mem_cons_self, ?_⟩
      cases x with
      | tup l => cases h
      | clo f l => cases h
      | v g cs => exact own_names cs n (by simpa [ownNamesL] using h)
      | lst ls => exact own_names ls n (by simpa [ownNamesL] using h)
    · obtain ⟨v, hv, hn⟩ := ownNamesL_names (vs := r) h
      exact ⟨v, List.mem_cons_of_mem _ hv, hn⟩

theorem toCO_names : ∀ {τ : Ty} {x : τ.den} {c : Nat}, (toCO τ x c).2 = c + τ.owns ∧ (∀ n ∈ namesV (toCO τ x c).1.1, c ≤ n ∧ n < c + τ.owns) ∧
    ∀ p ∈ (toCO τ x c).1.2, (c ≤ p.1 ∧ p.1 < c + τ.owns) ∧ ∃ e xs, p.2 = some (.arr e xs) := by
  intro τ
  have flat : ∀ (τ : Ty) (x : τ.den) (c : Nat), toCO τ x c = ((toC τ x, []), c) → τ.owns = 0 → (toCO τ x c).2 = c + τ.owns ∧ (∀ n ∈ namesV (toCO τ x c).1.1, c ≤ n ∧ n < c + τ.owns) ∧
      ∀ p ∈ (toCO τ x c).1.2, (c ≤ p.1 ∧ p.1 < c + τ.owns) ∧ ∃ e xs, p.2 = some (.arr e xs) := by
    intro τ x c e h
    rw [e, h]
    refine ⟨rfl, ?_, ?_⟩
    · intro n hn; simp only [names_toC] at hn; cases hn
    · intro p hp; cases hp
  induction τ with
  | own e _ =>
    intro x c
    refine ⟨rfl, fun n hn => ?_, fun p hp => ?_⟩
    · simp [toCO, namesV] at hn; subst hn; simp [Ty.owns]
    · simp [toCO] at hp; subst hp; exact ⟨⟨Nat.le_refl _, by simp [Ty.owns]⟩, _, _, rfl⟩
  | pair a b iha ihb =>
    intro x c
    obtain ⟨a1, a2, a3⟩ := iha (x := x.1) (c := c)
    obtain ⟨b1, b2, b3⟩ := ihb (x := x.2) (c := (toCO a x.1 c).2)
    have e : toCO (.pair a b) x c = (((toCO a x.1 c).1.1 ++ (toCO b x.2 (toCO a x.1 c).2).1.1, (toCO a x.1 c).1.2 ++ (toCO b x.2 (toCO a x.1 c).2).1.2), (toCO b x.2 (toCO a x.1 c).2).2) := rfl
    rw [e]
    simp only [Ty.owns]
    refine ⟨by rw [b1, a1]; omega, fun n hn => ?_, fun p hp => ?_⟩
    · rw [namesV_append] at hn
      rcases List.mem_append.1 hn with hn | hn
      · have := a2 n hn; omega
      · have := b2 n hn; rw [a1] at this; omega
    · rcases List.mem_append.1 hp with hp | hp
      · have := a3 p hp; exact ⟨by omega, this.2⟩
      · have := b3 p hp; rw [a1] at this; exact ⟨by omega, this.2⟩
  | st t ih => intro x c; exact ih (x := x) (c := c)
  | _ => intro x c; exact flat _ x c rfl rfl

theorem res1_names : ∀ {l : List Ty} {x : (tup l).den} {c : Nat}, (∀ n ∈ namesT (res1 l x c).1, c ≤ n ∧ n < c + ownsL l) ∧ ∀ p ∈ (res1 l x c).2, (c ≤ p.1 ∧ p.1 < c + ownsL l) ∧ ∃ e xs, p.2 = some (.arr e xs)
  | [], _, _ => ⟨fun n hn => (by cases hn), fun p hp => (by cases hp)⟩
  | [a], x, c => by
    obtain ⟨a1, a2, a3⟩ := toCO_names (τ := a) (x := x) (c := c)
    have e : res1 [a] x c = ([(a.agg, (toCO a x c).1.1)], (toCO a x c).1.2) := rfl
    rw [e]
    simp only [ownsL, Nat.add_zero]
    exact ⟨fun n hn => a2 n (by simpa [namesT] using hn), a3⟩
  | a :: b :: r, x, c => by
    obtain ⟨a1, a2, a3⟩ := toCO_names (τ := a) (x := x.1) (c := c)
    obtain ⟨b2, b3⟩ := res1_names (l := b :: r) (x := x.2) (c := (toCO a x.1 c).2)
    have e : res1 (a :: b :: r) x c = ((a.agg, (toCO a x.1 c).1.1) :: (res1 (b :: r) x.2 (toCO a x.1 c).2).1, (toCO a x.1 c).1.2 ++ (res1 (b :: r) x.2 (toCO a x.1 c).2).2) := rfl
    rw [e]
    rw [a1] at b2 b3
    have eo : ownsL (a :: b :: r) = a.owns + ownsL (b :: r) := rfl
    rw [eo, a1]
    refine ⟨fun n hn => ?_, fun p hp => ?_⟩
    · simp only [namesT] at hn
      rcases List.mem_append.1 hn with hn | hn
      · have := a2 n hn; omega
      · have := b2 n hn; omega
    · rcases List.mem_append.1 hp with hp | hp
      · have := a3 p hp; exact ⟨by omega, this.2⟩
      · have := b3 p hp; exact ⟨by omega, this.2⟩

theorem good_callS (I : Inv S w0 ι T w) (hnm : ∀ n, In16 nm n → T n = none) (hfr : ∀ m p, T m = some p → ∀ q ∈ entNames p.2, ¬ In16 nm q) {ev : Operand → Val} {f : FuncId} {s : FSpec} {xs : List Operand} {args : Array Value} {K : Val → List (Nat × Option Entry) → Option ρ}
    (hrun : (execOp a.eval o).run P w = .ok (.enter f args) w) (hown : ownsL s.res ≤ 16)
    (hgo : ∀ (B : Nat → Prop) (x : (tup s.args).den) (y : (tup s.res).den), (∀ b, B b → b < w.heap.size) → ArgsOk w B s.args x (xs.map a.eval) → s.f x = some y →
      Calls P f args w fun e w' => ∃ vs lc, e = .returned (retV vs) ∧ Below w.heap.size w w' ∧ (∀ b ∈ rows lc, w.heap.size ≤ b ∧ b < w'.heap.size) ∧ (rows lc).Nodup ∧ ResOk w' (fun b => B b ∨ b ∈ rows lc) s.res y vs lc)
    (hx : ∀ x ∈ xs, RelV w (Av S ι) ι (ev x) (a.eval x)) (hN : ∀ x, ∀ n ∈ namesOf (ev x), N n) (h : callS s T nm (xs.map ev) K = some r) : Good P S w0 ι T w nm o a N K r := by
  unfold callS at h
  split at h
  · cases h
  rename_i hchk
  simp only [Bool.and_eq_true, List.all_eq_true] at hchk
  have hkill : ∀ n ∈ killed s (xs.map ev), ∃ e, T n = some (true, e) := fun n hn => by
    have := hchk.2 n hn
    unfold own at this
    split at this
    · rename_i e hT; exact ⟨e, hT⟩
    · cases this
  have hks : ∀ n ∈ killed s (xs.map ev), ¬ In16 nm n := fun n hn h16 => by
    obtain ⟨e, hT⟩ := hkill n hn
    rw [hnm n h16] at hT; cases hT
  split at h
  · cases h
  rename_i x hargs
  obtain ⟨y, hy, h⟩ := Option.bind_eq_some_iff.1 h
  -- what the callee is told to avoid
  let B : Nat → Prop := Bv S ι (ownNamesL (xs.map ev))
  have hBA : ∀ b, B b → Av S ι b := fun b h => h.av
  have hlt : ∀ b, B b → b < w.heap.size := fun b hb => by
    rcases hb.av with h | ⟨n, l, hl, hbl⟩
    · have := I.low b h; have := I.below.size; omega
    · exact (I.fresh n l b hl hbl).2
  have hok := args1_enc (a := a) I hBA hargs (by rw [List.all_eq_true]; exact hchk.1) hx (fun z hz n hn l b hl hbl hB => by
    have hmem := ownNamesL_mem (vs := xs.map ev) (List.mem_map_of_mem hz) n hn
    rcases hB with hS | ⟨n', l', hn', hl', hbl'⟩
    · have := I.low b hS; have := (I.fresh n l b hl hbl).1; omega
    · exact hn' (I.inj n n' l l' b hl hl' hbl hbl' ▸ hmem))
  have hcall := hgo B x y hlt hok hy
  cases hres : res1 s.res y nm with
  | mk rs u =>
    rw [hres] at h
    simp only at h
    -- the shape of the results' cells hangs on the types alone
    have hlenT : ∀ {w' : World} {A : Nat → Prop} {vs : List Value} {lc : List Loc}, ResOk w' A s.res y vs lc → lc.length = ownsL s.res := fun h => h.owns
    refine ⟨resV rs, _, h, fun next Q hn => ?_, ?_⟩
    · show o.upon P a next Q ((execOp a.eval o).run P w)
      rw [hrun]
      refine Calls.mono hcall fun e w' he => ?_
      obtain ⟨vs, lc, rfl, hb, hf, hnd, hr⟩ := he
      have hk : lc.length ≤ 16 := by rw [hlenT hr]; exact hown
      have hr' : ∀ ι' : Inj, (∀ b, Av S ι' b → Bv S ι (killed s (xs.map ev)) b ∨ b ∈ rows lc) → ResOk w' (Av S ι') s.res y vs lc := fun ι' hav => hr.avoid (by
        cases ho : s.res.any Ty.hasSl with
        | false => exact .inl rfl
        | true =>
          right
          intro b hb'
          have e : killed s (xs.map ev) = ownNamesL (xs.map ev) := by unfold killed; rw [ho]
          rw [e] at hav
          exact hav b hb')
      have hkeys : u.map (·.1) = List.range' nm lc.length := by
        have hn0 : named nm lc (fun m => lc[m - nm]?) := fun j l hj => by simpa using hj
        have := (res1_rel (c := nm) hr hn0).2.1
        rw [hres] at this
        exact this
      obtain ⟨ι', hnew, hav, hoth, I', ht⟩ := I.more hks hk hnm hfr hb hf hnd hkeys (fun ι' hnew hav n p hp => by
        have := (res1_rel (hr' ι' hav) hnew).2.2 n p (by rw [hres]; exact hp)
        obtain ⟨e, he, hok, _⟩ := this
        exact ⟨e, he, hok⟩)
      refine hn _ w' ι' I' ht (fun n => ?_) ?_
      · by_cases h16 : In16 nm n
        · exact .inr (.inr h16)
        · rcases hoth n h16 with e | e
          · exact .inl e
          · exact .inr (.inl e)
      · have hrel := (res1_rel (hr' ι' hav) hnew).1
        rw [hres] at hrel
        obtain ⟨hl, hrel⟩ := hrel
        match rs, hl, hrel with
        | [], hl, hrel =>
          have : vs = [] := List.eq_nil_of_length_eq_zero hl.symm
          subst this
          exact ⟨#[], rfl, fun i g cs hi => by cases hi⟩
        | [(g, cs)], hl, hrel =>
          obtain ⟨v, hv, hr1, _⟩ := hrel 0 g cs rfl
          have : vs = [v] := by
            match vs, hl, hv with
            | [v'], _, hv => cases hv; rfl
          subst this
          exact hr1
        | p :: q :: rs, hl, hrel =>
          have h2 : retV vs = .tuple vs.toArray := by
            match vs, hl with
            | v1 :: v2 :: vs, _ => rfl
          have h3 : resV (p :: q :: rs) = .tup (p :: q :: rs) := by obtain ⟨g, cs⟩ := p; rfl
          rw [h2, h3]
          refine ⟨vs.toArray, rfl, fun i g cs hi => ?_⟩
          obtain ⟨v, hv, hr1, _⟩ := hrel i g cs hi
          exact ⟨v, by simpa using hv, hr1⟩
    · have hnames := res1_names (l := s.res) (x := y) (c := nm)
      rw [hres] at hnames
      obtain ⟨h1, h2⟩ := hnames
      have h16 : ∀ n, nm ≤ n ∧ n < nm + ownsL s.res → In16 nm n := fun n hn => ⟨hn.1, by have := hown; omega⟩
      refine ⟨⟨fun n hn => .inr (h16 n (h1 n ?_)), fun p hp => ?_⟩, fun p hp => ?_⟩
      · match rs, hn with
        | [], hn => exact hn
        | [(g, cs)], hn => simp only [namesT]; exact List.mem_append_left _ hn
        | (g, cs) :: q :: rs, hn => exact hn
      · rcases List.mem_append.1 hp with hp | hp
        · obtain ⟨n, hn, rfl⟩ := List.mem_map.1 hp
          refine ⟨.inl ?_, fun e he => by cases he⟩
          have hn' : n ∈ ownNamesL (xs.map ev) := by
            unfold killed at hn
            split at hn
            · exact hn
            · cases hn
          obtain ⟨v, hv, hnv⟩ := ownNamesL_names hn'
          obtain ⟨x, _, rfl⟩ := List.mem_map.1 hv
          exact hN x n hnv
        · obtain ⟨k1, e', xs, k2⟩ := h2 p hp
          refine ⟨.inr (h16 _ k1), fun e he n hn => ?_⟩
          rw [k2] at he; cases he
          simp [entNames] at hn
      · rcases List.mem_append.1 hp with hp | hp
        · obtain ⟨n, hn, rfl⟩ := List.mem_map.1 hp
          exact .inr (hkill n hn)
        · exact .inl (h16 _ (h2 p hp).1)

theorem fn_enter {f : FuncId} {c : Call} (hop : o.op = .call c) (hc : c.callee = .value (.func f)) (hf : FnOk P f) : (execOp a.eval o).run P w = .ok (.enter f (c.args.map a.eval)) w := by
  obtain ⟨fn, hfn, hname, hbody⟩ := hf
  have hb : ¬ fn.body = none := fun h => by rw [h] at hbody; cases hbody
  have hnn : ¬ fn.name = "runtime.NumGoroutine" := fun hh => by rw [hh] at hname; simp at hname
  simp only [execOp, hop, resolve, hc]
  simp [Act.eval, Deferred.ofValue, invoke, callFunc, go_sem, hfn, hnn, hb]

theorem good_call (hS : ∀ f s, lk E.specs f = some s → Sound P f s) (hS2 : ∀ f s, lk E.nils f = some s → SoundN P f s) (I : Inv S w0 ι T w) (hnm : ∀ n, In16 nm n → T n = none) (hfr : ∀ m p, T m = some p → ∀ q ∈ entNames p.2, ¬ In16 nm q) {ev : Operand → Val} {f : FuncId} {c : Call} {K : Val → List (Nat × Option Entry) → Option ρ}
    (hop : o.op = .call c) (hc : c.callee = .value (.func f)) (hx : ∀ x ∈ c.args.toList, RelV w (Av S ι) ι (ev x) (a.eval x)) (hN : ∀ x, ∀ n ∈ namesOf (ev x), N n) (h : callK E T nm f (c.args.toList.map ev) K = some r) : Good P S w0 ι T w nm o a N K r := by
  unfold callK at h
  split at h
  · rename_i s hs
    have sd := hS f s hs
    exact good_callS I hnm hfr (fn_enter hop hc sd.ok) sd.own (fun B x y h1 h2 h3 => sd.run B w _ x y h1 (by simpa using h2) h3) hx hN h
  · split at h
    · rename_i s vs' hs hvs
      have sd := hS2 f s hs
      cases hl : c.args.toList with
      | nil => rw [hl] at hvs; cases hvs
      | cons y ys =>
        rw [hl] at hvs hx
        simp only [List.map_cons, List.cons.injEq] at hvs
        obtain ⟨hy, rfl⟩ := hvs
        have hry := hx y (by simp)
        rw [hy] at hry
        have hval : a.eval y = .slice none 0 0 := by
          have := RelC.leaf hry
          simp only [RelL] at this
          exact List.singleton_inj.1 this
        have hmap : c.args.map a.eval = #[.slice none 0 0] ++ (ys.map a.eval).toArray := by
          apply Array.ext'
          rw [Array.toList_map, hl]
          simp [hval]
        have he := fn_enter (P := P) (w := w) (a := a) hop hc sd.ok
        rw [hmap] at he
        exact good_callS I hnm hfr he sd.own (fun B x y h1 h2 h3 => sd.run B w _ x y h1 (by simpa using h2) h3) (fun z hz => hx z (by simp [hz])) hN h
    · cases h

/-! ### Function literals -/
theorem capsOf_rel {A : Nat → Prop} {ev : Operand → Val} : ∀ {xs : List Operand} {l : List (Bool × List Leaf)}, capsOf (xs.map ev) = some l → (∀ x ∈ xs, RelV w A ι (ev x) (a.eval x)) →
    xs.length = l.length ∧ ∀ (i : Nat) g cs, l[i]? = some (g, cs) → ∃ u, (xs.map a.eval)[i]? = some u ∧ RelV1 w A ι g cs u
  | [], l, h, _ => by
    cases h
    exact ⟨rfl, fun i g cs hi => by cases hi⟩
  | x :: xs, l, h, hx => by
    simp only [List.map_cons, capsOf] at h
    have hrx := hx x (by simp)
    cases hv : ev x with
    | tup vs => rw [hv] at h; cases h
    | clo f vs => rw [hv] at h; cases h
    | lst ls => rw [hv] at h; cases h
    | v g cs =>
      rw [hv] at h hrx
      obtain ⟨l', h1, rfl⟩ := Option.map_eq_some_iff.1 h
      obtain ⟨k1, k2⟩ := capsOf_rel h1 fun y hy => hx y (by simp [hy])
      refine ⟨by simp [k1], fun i g' cs' hi => ?_⟩
      cases i with
      | zero => cases hi; exact ⟨_, rfl, hrx⟩
      | succ i => exact k2 i g' cs' (by simpa using hi)

theorem capsOf_names {ev : Operand → Val} : ∀ {xs : List Operand} {l : List (Bool × List Leaf)}, capsOf (xs.map ev) = some l → ∀ n ∈ namesT l, ∃ x ∈ xs, n ∈ namesOf (ev x)
  | [], l, h, n, hn => by cases h; cases hn
  | x :: xs, l, h, n, hn => by
    simp only [List.map_cons, capsOf] at h
    cases hv : ev x with
    | tup vs => rw [hv] at h; cases h
    | clo f vs => rw [hv] at h; cases h
    | lst ls => rw [hv] at h; cases h
    | v g cs =>
      rw [hv] at h
      obtain ⟨l', h1, rfl⟩ := Option.map_eq_some_iff.1 h
      simp only [namesT] at hn
      rcases List.mem_append.1 hn with hn | hn
      · exact ⟨x, by simp, by rw [hv]; exact hn⟩
      · obtain ⟨y, hy, hn⟩ := capsOf_names h1 n hn
        exact ⟨y, by simp [hy], hn⟩

theorem litVal_some {fn : Fn} {first caps : List Val} {v : Val} (h : litVal fn first caps = some v) : ∃ f l, fn = .func f ∧ first = [] ∧ capsOf caps = some l ∧ v = .clo f l := by
  unfold litVal at h
  split at h
  · rename_i f l hl
    cases h
    exact ⟨f, l, rfl, rfl, hl, rfl⟩
  · cases h

theorem good_lit (I : Inv S w0 ι T w) {ev : Operand → Val} {fn : Fn} {first caps : Array Operand} {v : Val} {K : Val → List (Nat × Option Entry) → Option ρ} (hop : o.op = .makeFunc fn first caps)
    (hx : ∀ x, RelV w (Av S ι) ι (ev x) (a.eval x)) (hN : ∀ x, ∀ n ∈ namesOf (ev x), N n) (hv : litVal fn (first.toList.map ev) (caps.toList.map ev) = some v) (h : K v [] = some r) : Good P S w0 ι T w nm o a N K r := by
  obtain ⟨f, l, rfl, h1, h2, rfl⟩ := litVal_some hv
  have hf : first = #[] := by
    have := List.map_eq_nil_iff.1 h1
    exact Array.toList_eq_nil_iff.1 this
  subst hf
  obtain ⟨k1, k2⟩ := capsOf_rel (a := a) h2 fun x _ => hx x
  refine good_value I h (v' := .func (.func f) #[] (caps.map a.eval)) ?_ ⟨caps.map a.eval, rfl, by simpa using k1, fun i g cs hi => ?_⟩ (fun n hn => ?_)
  · simp [execOp, hop, Instr.makeFunc, go_sem]
  · obtain ⟨u, q1, q2⟩ := k2 i g cs hi
    refine ⟨u, ?_, q2⟩
    rw [← q1, ← Array.getElem?_toList, Array.toList_map]
  · obtain ⟨x, _, hn⟩ := capsOf_names h2 n hn
    exact .inl (hN x n hn)

end
end Go.Proofs.Ytacmfiddaklkiab.Lift
