/- 'Lift': the invariant of memory, and typed values read off cells. -/
import Derived.Test.YtacmfiddaklkiabLRel
namespace Go.Proofs.Ytacmfiddaklkiab.Lift
open Go Go.RowKit

def Av (S : Nat → Prop) (ι : Inj) : Nat → Prop := fun b => S b ∨ ∃ n l, ι n = some l ∧ l.blk = some b

def Unfrozen (fz : Nat × Nat) (n : Nat) : Prop := ∀ o, o < n → ¬ (fz.1 ≤ o ∧ o < fz.2)

/-- An owned row: where it lies, and what it holds. -/
def ArrOk (w : World) (A : Nat → Prop) (e : Ty) (xs : List e.den) (l : Loc) : Prop :=
  l.len = xs.length ∧ l.sz = e.size ∧ l.len ≤ l.cap ∧
    ((l.blk = none ∧ xs = [] ∧ l.cap = 0) ∨ ∃ b vs el fz, l.blk = some b ∧ w.heap[b]? = some (.cells vs el fz) ∧ Unfrozen fz vs.size ∧ vs.size = l.cap * e.size ∧
      ∀ i x, xs[i]? = some x → ∃ us, Enc w A e x us ∧ Cells w b (i * e.size) us)

def EntOk (w : World) (A : Nat → Prop) (ι : Inj) (n : Nat) : Entry → Prop
  | .box cs => ∃ l b vs el fz, ι n = some l ∧ l.blk = some b ∧ w.heap[b]? = some (.cells vs el fz) ∧ Unfrozen fz vs.size ∧ RelC w A ι cs vs.toList
  | .arr e xs => ∃ l, ι n = some l ∧ ArrOk w A e xs l

structure Inv (S : Nat → Prop) (w0 : World) (ι : Inj) (T : Tab) (w : World) : Prop where
  below : Below w0.heap.size w0 w
  low : ∀ b, S b → b < w0.heap.size
  fresh : ∀ n l b, ι n = some l → l.blk = some b → w0.heap.size ≤ b ∧ b < w.heap.size
  inj : ∀ n m l l' b, ι n = some l → ι m = some l' → l.blk = some b → l'.blk = some b → n = m
  ent : ∀ n p, T n = some p → EntOk w (Av S ι) ι n p.2
  dom : ∀ n l, ι n = some l → (T n).isSome = true

theorem heap_lt {w : World} {b : Nat} {o : Obj} (h : w.heap[b]? = some o) : b < w.heap.size := (Array.getElem?_eq_some_iff.1 h).1

theorem castL_some {e e' : Ty} {xs : List e'.den} {ys : List e.den} (h : castL e e' xs = some ys) : ∃ h : e' = e, ys = h ▸ xs := by
  unfold castL at h
  split at h
  · rename_i hb
    cases h
    exact ⟨Ty.eq_of_beq hb, rfl⟩
  · cases h

section
variable {S : Nat → Prop} {w0 w : World} {ι : Inj} {T : Tab} {B : Nat → Prop}

theorem slc_length {α : Type} (xs : List α) (lo hi : Int) (h0 : 0 ≤ lo) (h1 : lo ≤ hi) (h2 : hi ≤ xs.length) : (slc xs lo hi).length = (hi - lo).toNat := by
  simp [slc]; omega

theorem slc_get {α : Type} (xs : List α) (lo hi : Int) (i : Nat) (x : α) (h : (slc xs lo hi)[i]? = some x) : xs[lo.toNat + i]? = some x := by
  simp only [slc, List.getElem?_drop, List.getElem?_take] at h
  split at h
  · exact h
  · cases h

/-- An owned row seen as a slice. -/
theorem ArrOk.enc {A : Nat → Prop} {e : Ty} {xs : List e.den} {l : Loc} (h : ArrOk w A e xs l) (hB : ∀ b, B b → A b) (hl : ∀ b, l.blk = some b → ¬ B b) :
    Enc w B (.sl e) xs [.slice (base l) l.len l.cap] := by
  obtain ⟨h1, h2, h3, h4 | ⟨b, vs, el, fz, hb, hh, _, hs, hx⟩⟩ := h
  · obtain ⟨hb, rfl, hc⟩ := h4
    simp [Enc, base, hb, hc, h1]
  · simp only [Enc, base, hb, Option.map_some, h1]
    refine .inr ⟨b, 0, l.cap, rfl, by omega, hl b hb, heap_lt hh, fun i x hi => ?_⟩
    obtain ⟨us, k1, k2⟩ := hx i x hi
    exact ⟨us, k1.turn (Turn.less w hB), by simpa using k2⟩

theorem content_enc (I : Inv S w0 ι T w) (hB : ∀ b, B b → Av S ι b) {e : Ty} {lf : Leaf} {xs : List e.den} {vs : List Value}
    (h : content T e lf = some xs) (r : RelL w (Av S ι) ι lf vs) (hn : ∀ n ∈ leafNames lf, ∀ l b, ι n = some l → l.blk = some b → ¬ B b) : Enc w B (.sl e) xs vs := by
  cases lf <;> simp only [content] at h <;> try (cases h; done)
  case sl e' zs =>
    obtain ⟨rfl, rfl⟩ := castL_some h
    exact Enc.turn (Turn.less w hB) r
  case nils => cases h; simp only [RelL] at r; exact .inl ⟨rfl, r⟩
  case own n =>
    split at h
    · rename_i b' e' ys hT
      obtain ⟨rfl, rfl⟩ := castL_some h
      obtain ⟨l, hl, ho⟩ := I.ent n _ hT
      simp only [RelL] at r
      rw [r.2.2 l hl]
      exact ho.enc hB fun b hb => hn n (by simp [leafNames]) l b hl hb
    · cases h
  case view n lo hi =>
    split at h
    · rename_i b' e' ys hT
      obtain ⟨zs, hz, rfl⟩ := Option.map_eq_some_iff.1 h
      obtain ⟨rfl, rfl⟩ := castL_some hz
      obtain ⟨l, hl, ho⟩ := I.ent n _ hT
      simp only [RelL] at r
      obtain ⟨h0, h1, h2, h3⟩ := r.2.2 l hl
      obtain ⟨k1, k2, k3, k4⟩ := ho
      have hlen := slc_length zs lo hi h0 h1 (by rw [k1] at h2; exact h2)
      rcases h3 with ⟨hb, rfl⟩ | ⟨b, o, c, hb, rfl, hc, ho⟩
      · rcases k4 with ⟨_, rfl, _⟩ | ⟨b, _, _, _, hb', _⟩
        · exact .inl ⟨by simp [slc], rfl⟩
        · rw [hb] at hb'; cases hb'
      · rcases k4 with ⟨hb', _⟩ | ⟨b', vs', el, fz, hb', hh, _, hs, hx⟩
        · rw [hb] at hb'; cases hb'
        · rw [hb] at hb'
          cases hb'
          refine .inr ⟨b, o, c, by rw [hlen], by omega, hn n (by simp [leafNames]) l b hl hb, heap_lt hh, fun i x hi' => ?_⟩
          have hx' := slc_get zs lo hi i x hi'
          obtain ⟨us, q1, q2⟩ := hx _ x hx'
          have hil : i < (slc zs lo hi).length := (List.getElem?_eq_some_iff.1 hi').1
          have hlt : lo < hi := by omega
          refine ⟨us, q1.turn (Turn.less w hB), ?_⟩
          rw [ho hlt, k2, ← Nat.add_mul]
          exact q2
    · cases h

/-- A typed value with owned rows in it: where these lie. -/
def EncO (w : World) (A : Nat → Prop) : (τ : Ty) → τ.den → List Value → List Loc → Prop
  | .own e, xs, vs, ls => ∃ l, ls = [l] ∧ vs = [.slice (base l) l.len l.cap] ∧ ArrOk w A e xs l
  | .pair a b, x, vs, ls => ∃ us ts l1 l2, vs = us ++ ts ∧ ls = l1 ++ l2 ∧ EncO w A a x.1 us l1 ∧ EncO w A b x.2 ts l2
  | .st t, x, vs, ls => EncO w A t x vs ls
  | .bool, x, vs, ls => ls = [] ∧ Enc w A .bool x vs
  | .int k, x, vs, ls => ls = [] ∧ Enc w A (.int k) x vs
  | .str, x, vs, ls => ls = [] ∧ Enc w A .str x vs
  | .sl e, x, vs, ls => ls = [] ∧ Enc w A (.sl e) x vs
  | .arr n e, x, vs, ls => ls = [] ∧ Enc w A (.arr n e) x vs
  | .unit, x, vs, ls => ls = [] ∧ Enc w A .unit x vs

theorem EncO.length {A : Nat → Prop} : ∀ {τ : Ty} {x : τ.den} {vs : List Value} {ls : List Loc}, EncO w A τ x vs ls → vs.length = τ.size := by
  intro τ
  induction τ with
  | own e _ => intro x vs ls h; obtain ⟨l, _, rfl, _⟩ := h; rfl
  | pair a b iha ihb => intro x vs ls h; obtain ⟨us, ts, l1, l2, rfl, _, h1, h2⟩ := h; simp [Ty.size, iha h1, ihb h2]
  | st t ih => intro x vs ls h; exact ih (x := x) (ls := ls) h
  | bool => intro x vs ls h; exact h.2.length
  | int k => intro x vs ls h; exact h.2.length
  | str => intro x vs ls h; exact h.2.length
  | sl e _ => intro x vs ls h; exact h.2.length
  | arr n e _ => intro x vs ls h; exact h.2.length
  | unit => intro x vs ls h; exact h.2.length

theorem EncO.plain {A : Nat → Prop} : ∀ {τ : Ty} {x : τ.den} {vs : List Value} {ls : List Loc}, τ.plain = true → EncO w A τ x vs ls → ls = [] ∧ Enc w A τ x vs := by
  intro τ
  induction τ with
  | own e _ => intro x vs ls h; cases h
  | pair a b iha ihb =>
    intro x vs ls hp h
    simp only [Ty.plain, Bool.and_eq_true] at hp
    obtain ⟨us, ts, l1, l2, rfl, rfl, h1, h2⟩ := h
    obtain ⟨rfl, k1⟩ := iha hp.1 h1
    obtain ⟨rfl, k2⟩ := ihb hp.2 h2
    exact ⟨rfl, us, ts, rfl, k1, k2⟩
  | st t ih => intro x vs ls hp h; exact ih (x := x) hp h
  | bool => intro x vs ls _ h; exact h
  | int k => intro x vs ls _ h; exact h
  | str => intro x vs ls _ h; exact h
  | sl e _ => intro x vs ls _ h; exact h
  | arr n e _ => intro x vs ls _ h; exact h
  | unit => intro x vs ls _ h; exact h

theorem ownNames_cons (l : Leaf) (r : List Leaf) : ∀ n ∈ ownNames r, n ∈ ownNames (l :: r) := by
  intro n hn; cases l <;> simp [ownNames, hn]

theorem ownNames_append : ∀ (a b : List Leaf), ownNames (a ++ b) = ownNames a ++ ownNames b
  | [], _ => rfl
  | l :: r, b => by
    have := ownNames_append r b
    cases l <;> simp [ownNames, this]

theorem ownNames_one (l : Leaf) : ownNames [l] = (match l with | .own n => [n] | .view n _ _ => [n] | _ => []) := by cases l <;> rfl

theorem ownNames_leaf (l : Leaf) : ∀ n ∈ ownNames [l], n ∈ leafNames l := by
  intro n hn; cases l <;> simp_all [ownNames, leafNames]

theorem content_names {e : Ty} {lf : Leaf} {xs : List e.den} (h : content T e lf = some xs) : leafNames lf = ownNames [lf] := by
  cases lf <;> simp_all [content, leafNames, ownNames]

/-- What is read off cells, stands in memory. ns: the rows that the value takes over; ss: those that it shows as plain slices. -/
theorem ofC_enc (I : Inv S w0 ι T w) : ∀ {τ : Ty} {ls : List Leaf} {x : τ.den} {rest : List Leaf} {vs : List Value},
    ofC T τ ls = some (x, rest) → RelC w (Av S ι) ι ls vs →
    ∃ pre us ts lc ns ss, ls = pre ++ rest ∧ vs = us ++ ts ∧ RelC w (Av S ι) ι rest ts ∧ (ownNames pre).Perm (ns ++ ss) ∧ (τ.plain = true → ns = []) ∧
      lc.filterMap Loc.blk = ns.filterMap (fun n => (ι n).bind Loc.blk) ∧
      (∀ B : Nat → Prop, (∀ b, B b → Av S ι b) → (∀ n ∈ ss, ∀ l b, ι n = some l → l.blk = some b → ¬ B b) → EncO w B τ x us lc) := by
  intro τ
  induction τ with
  | bool =>
    intro ls x rest vs h r
    cases ls with
    | nil => simp [ofC] at h
    | cons l ls =>
      cases l <;> simp [ofC] at h
      obtain ⟨rfl, rfl⟩ := h
      obtain ⟨us, ts, rfl, r1, r2⟩ := r
      exact ⟨[_], us, ts, [], [], [], rfl, rfl, r2, by simp [ownNames], fun _ => rfl, rfl, fun B hB _ => ⟨rfl, r1⟩⟩
  | int k =>
    intro ls x rest vs h r
    cases ls with
    | nil => simp [ofC] at h
    | cons l ls =>
      cases l <;> simp [ofC] at h
      obtain ⟨rfl, rfl, rfl⟩ := h
      obtain ⟨us, ts, rfl, r1, r2⟩ := r
      exact ⟨[_], us, ts, [], [], [], rfl, rfl, r2, by simp [ownNames], fun _ => rfl, rfl, fun B hB _ => ⟨rfl, r1⟩⟩
  | str =>
    intro ls x rest vs h r
    cases ls with
    | nil => simp [ofC] at h
    | cons l ls =>
      cases l <;> simp [ofC] at h
      obtain ⟨rfl, rfl⟩ := h
      obtain ⟨us, ts, rfl, r1, r2⟩ := r
      exact ⟨[_], us, ts, [], [], [], rfl, rfl, r2, by simp [ownNames], fun _ => rfl, rfl, fun B hB _ => ⟨rfl, r1⟩⟩
  | sl e _ =>
    intro ls x rest vs h r
    cases ls with
    | nil => simp [ofC] at h
    | cons l ls =>
      simp only [ofC] at h
      obtain ⟨xs, hx, he⟩ := Option.map_eq_some_iff.1 h
      cases he
      obtain ⟨us, ts, rfl, r1, r2⟩ := r
      refine ⟨[l], us, ts, [], [], ownNames [l], rfl, rfl, r2, by simp, fun _ => rfl, rfl, fun B hB hs => ⟨rfl, content_enc I hB hx r1 fun n hn => hs n (by rwa [← content_names hx])⟩⟩
  | own e _ =>
    intro ls x rest vs h r
    cases ls with
    | nil => simp [ofC] at h
    | cons l ls =>
      simp only [ofC] at h
      obtain ⟨xs, hx, he⟩ := Option.map_eq_some_iff.1 h
      cases he
      obtain ⟨us, ts, rfl, r1, r2⟩ := r
      cases l <;> simp only [ownContent] at hx <;> try (cases hx; done)
      case nils =>
        cases hx
        refine ⟨[.nils], us, ts, [⟨none, 0, 0, e.size⟩], [], [], rfl, rfl, r2, by simp [ownNames], fun _ => rfl, rfl, fun B hB _ => ⟨_, rfl, r1, rfl, rfl, Nat.le_refl _, .inl ⟨rfl, rfl, rfl⟩⟩⟩
      case own n =>
        split at hx
        · rename_i e' ys hT
          obtain ⟨rfl, rfl⟩ := castL_some hx
          obtain ⟨l, hl, ho⟩ := I.ent n _ hT
          simp only [RelL] at r1
          refine ⟨[.own n], us, ts, [l], [n], [], rfl, rfl, r2, by simp [ownNames], fun hp => by simp [Ty.plain] at hp, by simp [hl, List.filterMap_cons], fun B hB _ => ⟨l, rfl, r1.2.2 l hl, ?_⟩⟩
          obtain ⟨k1, k2, k3, k4⟩ := ho
          refine ⟨k1, k2, k3, ?_⟩
          rcases k4 with k4 | ⟨b, vs', el, fz, hb, hh, hf, hs, hx⟩
          · exact .inl k4
          · refine .inr ⟨b, vs', el, fz, hb, hh, hf, hs, fun i x hi => ?_⟩
            obtain ⟨us', q1, q2⟩ := hx i x hi
            exact ⟨us', q1.turn (Turn.less w hB), q2⟩
        · cases hx
  | arr m e _ =>
    intro ls x rest vs h r
    cases ls with
    | nil => simp [ofC] at h
    | cons l ls =>
      cases l <;> simp only [ofC] at h <;> try (cases h; done)
      rename_i n' e' ys
      split at h
      · rename_i hn
        have hn' := Nat.eq_of_beq_eq_true hn
        subst hn'
        obtain ⟨xs, hx, he⟩ := Option.map_eq_some_iff.1 h
        cases he
        obtain ⟨rfl, rfl⟩ := castL_some hx
        obtain ⟨us, ts, rfl, r1, r2⟩ := r
        exact ⟨[_], us, ts, [], [], [], rfl, rfl, r2, by simp [ownNames], fun _ => rfl, rfl, fun B hB _ => ⟨rfl, Enc.turn (Turn.less w hB) r1⟩⟩
      · cases h
  | st t ih => intro ls x rest vs h r; exact ih (x := x) h r
  | unit =>
    intro ls x rest vs h r
    simp [ofC] at h
    subst h
    exact ⟨[], [], vs, [], [], [], rfl, rfl, r, by simp [ownNames], fun _ => rfl, rfl, fun B hB _ => ⟨rfl, rfl⟩⟩
  | pair a b iha ihb =>
    intro ls x rest vs h r
    simp only [ofC] at h
    obtain ⟨⟨xa, ra⟩, h1, h⟩ := Option.bind_eq_some_iff.1 h
    obtain ⟨⟨xb, rb⟩, h2, h⟩ := Option.bind_eq_some_iff.1 h
    cases h
    obtain ⟨p1, u1, t1, l1, n1, s1, e1, f1, r1, q1, pl1, b1, k1⟩ := iha h1 r
    obtain ⟨p2, u2, t2, l2, n2, s2, e2, f2, r2, q2, pl2, b2, k2⟩ := ihb h2 r1
    subst e2
    subst f2
    refine ⟨p1 ++ p2, u1 ++ u2, t2, l1 ++ l2, n1 ++ n2, s1 ++ s2, by rw [e1]; simp, by rw [f1]; simp, r2, ?_, ?_, by simp [List.filterMap_append, b1, b2], ?_⟩
    · rw [ownNames_append]
      have := q1.append q2
      refine this.trans ?_
      simp only [List.append_assoc]
      refine List.Perm.append_left n1 ?_
      rw [← List.append_assoc, ← List.append_assoc]
      exact List.Perm.append_right s2 List.perm_append_comm
    · intro hp
      simp only [Ty.plain, Bool.and_eq_true] at hp
      rw [pl1 hp.1, pl2 hp.2]; rfl
    · intro B hB hs
      exact ⟨u1, u2, l1, l2, rfl, rfl, k1 B hB fun n hn => hs n (by simp [hn]), k2 B hB fun n hn => hs n (by simp [hn])⟩

theorem EncO.turn {w w' : World} {A A' : Nat → Prop} (t : Turn w w' A A') : ∀ {τ : Ty} {x : τ.den} {vs : List Value} {lc : List Loc},
    EncO w A τ x vs lc → (∀ l ∈ lc, ∀ b, l.blk = some b → w'.heap[b]? = w.heap[b]?) → EncO w' A' τ x vs lc := by
  intro τ
  induction τ with
  | own e _ =>
    intro x vs lc h hk
    obtain ⟨l, rfl, rfl, k1, k2, k3, k4⟩ := h
    refine ⟨l, rfl, rfl, k1, k2, k3, ?_⟩
    rcases k4 with k4 | ⟨b, vs', el, fz, hb, hh, hf, hs, hx⟩
    · exact .inl k4
    · have he := hk l (by simp) b hb
      refine .inr ⟨b, vs', el, fz, hb, by rw [he, hh], hf, hs, fun i x hi => ?_⟩
      obtain ⟨us', q1, q2⟩ := hx i x hi
      exact ⟨us', q1.turn t, q2.turn he⟩
  | pair a b iha ihb =>
    intro x vs lc h hk
    obtain ⟨us, ts, l1, l2, rfl, rfl, h1, h2⟩ := h
    exact ⟨us, ts, l1, l2, rfl, rfl, iha h1 fun l hl => hk l (by simp [hl]), ihb h2 fun l hl => hk l (by simp [hl])⟩
  | st t ih => intro x vs lc h hk; exact ih (x := x) h hk
  | bool => intro x vs lc h _; exact ⟨h.1, h.2.turn t⟩
  | int k => intro x vs lc h _; exact ⟨h.1, h.2.turn t⟩
  | str => intro x vs lc h _; exact ⟨h.1, h.2.turn t⟩
  | sl e _ => intro x vs lc h _; exact ⟨h.1, h.2.turn t⟩
  | arr n e _ => intro x vs lc h _; exact ⟨h.1, h.2.turn t⟩
  | unit => intro x vs lc h _; exact ⟨h.1, h.2.turn t⟩

/-- Where the value takes no slice from elsewhere, what is to be avoided does not matter. -/
theorem Enc.noSl {w : World} {A A' : Nat → Prop} : ∀ {τ : Ty} {x : τ.den} {vs : List Value}, τ.hasSl = false → Enc w A τ x vs → Enc w A' τ x vs := by
  intro τ
  induction τ with
  | bool => intro x vs _ h; exact h
  | int k => intro x vs _ h; exact h
  | str => intro x vs _ h; exact h
  | sl e _ => intro x vs hp _; simp [Ty.hasSl] at hp
  | own e _ => intro x vs _ h; exact h
  | arr n e ih => intro x vs hp h; simp only [Enc] at h ⊢; exact ⟨h.1, h.2.1, fun i y hy => ih hp (h.2.2 i y hy)⟩
  | st t ih => intro x vs hp h; exact ih (x := x) hp h
  | unit => intro x vs _ h; exact h
  | pair a b iha ihb =>
    intro x vs hp h
    simp only [Ty.hasSl, Bool.or_eq_false_iff] at hp
    simp only [Enc] at h ⊢
    obtain ⟨us, ts, rfl, h1, h2⟩ := h
    exact ⟨us, ts, rfl, iha hp.1 h1, ihb hp.2 h2⟩

theorem EncO.noSl {w : World} {A A' : Nat → Prop} : ∀ {τ : Ty} {x : τ.den} {vs : List Value} {lc : List Loc}, τ.hasSl = false → EncO w A τ x vs lc → EncO w A' τ x vs lc := by
  intro τ
  induction τ with
  | own e _ =>
    intro x vs lc hp h
    obtain ⟨l, rfl, rfl, k1, k2, k3, k4⟩ := h
    refine ⟨l, rfl, rfl, k1, k2, k3, ?_⟩
    rcases k4 with k4 | ⟨b, vs', el, fz, hb, hh, hf, hs, hx⟩
    · exact .inl k4
    · refine .inr ⟨b, vs', el, fz, hb, hh, hf, hs, fun i x hi => ?_⟩
      obtain ⟨us', q1, q2⟩ := hx i x hi
      exact ⟨us', q1.noSl hp, q2⟩
  | pair a b iha ihb =>
    intro x vs lc hp h
    simp only [Ty.hasSl, Bool.or_eq_false_iff] at hp
    obtain ⟨us, ts, l1, l2, rfl, rfl, h1, h2⟩ := h
    exact ⟨us, ts, l1, l2, rfl, rfl, iha hp.1 h1, ihb hp.2 h2⟩
  | st t ih => intro x vs lc hp h; exact ih (x := x) hp h
  | bool => intro x vs lc hp h; exact ⟨h.1, h.2.noSl hp⟩
  | int k => intro x vs lc hp h; exact ⟨h.1, h.2.noSl hp⟩
  | str => intro x vs lc hp h; exact ⟨h.1, h.2.noSl hp⟩
  | sl e _ => intro x vs lc hp h; exact ⟨h.1, h.2.noSl hp⟩
  | arr n e _ => intro x vs lc hp h; exact ⟨h.1, h.2.noSl hp⟩
  | unit => intro x vs lc hp h; exact ⟨h.1, h.2.noSl hp⟩

/-- The rows of a value, under names from c on. -/
def named (c : Nat) (lc : List Loc) (ι : Inj) : Prop := ∀ j l, lc[j]? = some l → ι (c + j) = some l

theorem named.left {c : Nat} {l1 l2 : List Loc} {ι : Inj} (h : named c (l1 ++ l2) ι) : named c l1 ι := fun j l hj => h j l (by rw [List.getElem?_append_left (List.getElem?_eq_some_iff.1 hj).1]; exact hj)
theorem named.right {c : Nat} {l1 l2 : List Loc} {ι : Inj} (h : named c (l1 ++ l2) ι) : named (c + l1.length) l2 ι := fun j l hj => by
  have := h (l1.length + j) l (by rw [List.getElem?_append_right (by omega)]; simpa using hj)
  rwa [Nat.add_assoc]

/-- Cells of a typed value whose rows are entries. -/
theorem toCO_rel {w : World} {A : Nat → Prop} {ι : Inj} : ∀ {τ : Ty} {x : τ.den} {vs : List Value} {lc : List Loc} {c : Nat}, EncO w A τ x vs lc → named c lc ι →
    (toCO τ x c).2 = c + lc.length ∧ RelC w A ι (toCO τ x c).1.1 vs ∧ (∀ n ∈ namesV (toCO τ x c).1.1, c ≤ n ∧ n < c + lc.length) ∧
      (toCO τ x c).1.2.map (·.1) = List.range' c lc.length ∧ (∀ n p, (n, p) ∈ (toCO τ x c).1.2 → ∃ e, p = some e ∧ EntOk w A ι n e ∧ (∃ e' xs, e = .arr e' xs)) := by
  intro τ
  have flat : ∀ (τ : Ty) (x : τ.den) (vs : List Value) (lc : List Loc) (c : Nat), toCO τ x c = ((toC τ x, []), c) → (lc = [] ∧ Enc w A τ x vs) →
      (toCO τ x c).2 = c + lc.length ∧ RelC w A ι (toCO τ x c).1.1 vs ∧ (∀ n ∈ namesV (toCO τ x c).1.1, c ≤ n ∧ n < c + lc.length) ∧
      (toCO τ x c).1.2.map (·.1) = List.range' c lc.length ∧ (∀ n p, (n, p) ∈ (toCO τ x c).1.2 → ∃ e, p = some e ∧ EntOk w A ι n e ∧ (∃ e' xs, e = .arr e' xs)) := by
    intro τ x vs lc c e h
    obtain ⟨rfl, h⟩ := h
    rw [e]
    refine ⟨rfl, RelC.toC h, ?_, rfl, by simp⟩
    intro n hn
    exfalso
    revert hn
    have : ∀ (τ : Ty) (x : τ.den), namesV (toC τ x) = [] := by
      intro τ
      induction τ with
      | bool => intro x; rfl
      | int k => intro x; rfl
      | str => intro x; rfl
      | sl e _ => intro x; rfl
      | own e _ => intro x; rfl
      | arr n e _ => intro x; rfl
      | st t ih => intro x; exact ih x
      | unit => intro x; rfl
      | pair a b iha ihb =>
        intro x
        have ap : ∀ (p q : List Leaf), namesV (p ++ q) = namesV p ++ namesV q := by
          intro p q
          induction p with
          | nil => rfl
          | cons l r ih => rw [List.cons_append, namesV_cons, namesV_cons, ih, List.append_assoc]
        simp only [toC, ap]
        rw [iha, ihb]; rfl
    rw [this]
    simp
  induction τ with
  | own e _ =>
    intro x vs lc c h hn
    obtain ⟨l, rfl, rfl, ho⟩ := h
    have hl := hn 0 l rfl
    refine ⟨rfl, ⟨[.slice (base l) l.len l.cap], [], rfl, ⟨rfl, by simp [Value.oneCell'], fun l' hl' => ?_⟩, rfl⟩, ?_, rfl, ?_⟩
    · rw [Nat.add_zero] at hl; rw [hl] at hl'; cases hl'; rfl
    · intro n hn; simp [toCO, namesV] at hn; subst hn; simp
    · intro n p hp
      simp [toCO] at hp
      obtain ⟨rfl, rfl⟩ := hp
      exact ⟨_, rfl, ⟨l, by simpa using hl, ho⟩, _, _, rfl⟩
  | pair a b iha ihb =>
    intro x vs lc c h hn
    obtain ⟨us, ts, l1, l2, rfl, rfl, h1, h2⟩ := h
    obtain ⟨a1, a2, a3, a4, a5⟩ := iha h1 hn.left
    obtain ⟨b1, b2, b3, b4, b5⟩ := ihb (c := (toCO a x.1 c).2) h2 (by rw [a1]; exact hn.right)
    have e : toCO (.pair a b) x c = (((toCO a x.1 c).1.1 ++ (toCO b x.2 (toCO a x.1 c).2).1.1, (toCO a x.1 c).1.2 ++ (toCO b x.2 (toCO a x.1 c).2).1.2), (toCO b x.2 (toCO a x.1 c).2).2) := rfl
    rw [e]
    simp only
    refine ⟨by rw [b1, a1]; simp; omega, a2.append b2, ?_, ?_, ?_⟩
    · intro n hn'
      have ap : ∀ (p q : List Leaf), namesV (p ++ q) = namesV p ++ namesV q := by
        intro p q
        induction p with
        | nil => rfl
        | cons l r ih => rw [List.cons_append, namesV_cons, namesV_cons, ih, List.append_assoc]
      rw [ap] at hn'
      rcases List.mem_append.1 hn' with h' | h'
      · have := a3 n h'; simp; omega
      · have := b3 n h'; rw [a1] at this; simp; omega
    · rw [List.map_append, a4, b4, a1]; simp [List.range'_append_1]
    · intro n p hp
      rcases List.mem_append.1 hp with h' | h'
      · exact a5 n p h'
      · exact b5 n p h'
  | st t ih => intro x vs lc c h hn; exact ih (x := x) h hn
  | bool => intro x vs lc c h _; exact flat _ x vs lc c rfl h
  | int k => intro x vs lc c h _; exact flat _ x vs lc c rfl h
  | str => intro x vs lc c h _; exact flat _ x vs lc c rfl h
  | sl e _ => intro x vs lc c h _; exact flat _ x vs lc c rfl h
  | arr n e _ => intro x vs lc c h _; exact flat _ x vs lc c rfl h
  | unit => intro x vs lc c h _; exact flat _ x vs lc c rfl h

end
end Go.Proofs.Ytacmfiddaklkiab.Lift
