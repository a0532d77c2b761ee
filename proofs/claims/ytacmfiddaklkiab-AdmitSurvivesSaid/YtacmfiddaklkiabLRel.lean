/- 'Lift': how the evaluator's values stand to the machine's, and what keeps that. -/
import Derived.Test.YtacmfiddaklkiabLDef
import Derived.ArgAppend
namespace Go.Proofs.Ytacmfiddaklkiab.Lift
open Go

structure Loc where
  blk : Option Nat
  len : Nat
  cap : Nat
  sz : Nat

abbrev Inj := Nat → Option Loc

def Cells (w : World) (b o : Nat) (vs : List Value) : Prop := ∀ j v, vs[j]? = some v → w.cell? ⟨b, o + j, none⟩ = some v

/-- The cells vs hold the value x of type τ; of the blocks that this takes, none is in A. -/
def Enc (w : World) (A : Nat → Prop) : (τ : Ty) → τ.den → List Value → Prop
  | .bool, b, vs => vs = [.bool b]
  | .int k, n, vs => vs = [.int k n]
  | .str, s, vs => vs = [.string s]
  | .sl e, xs, vs => (xs = [] ∧ vs = [.slice none 0 0]) ∨ ∃ b o cap, vs = [.slice (some ⟨b, o, none⟩) xs.length cap] ∧ xs.length ≤ cap ∧ ¬ A b ∧ b < w.heap.size ∧
      ∀ i x, xs[i]? = some x → ∃ us, Enc w A e x us ∧ Cells w b (o + i * e.size) us
  | .own _, _, _ => False
  | .arr n e, xs, vs => xs.length = n ∧ vs.length = n * e.size ∧ ∀ i x, xs[i]? = some x → Enc w A e x ((vs.drop (i * e.size)).take e.size)
  | .st t, x, vs => Enc w A t x vs
  | .unit, _, vs => vs = []
  | .pair a b, x, vs => ∃ us ts, vs = us ++ ts ∧ Enc w A a x.1 us ∧ Enc w A b x.2 ts

theorem Enc.length {w : World} {A : Nat → Prop} : ∀ {τ : Ty} {x : τ.den} {vs : List Value}, Enc w A τ x vs → vs.length = τ.size := by
  intro τ
  induction τ with
  | bool => intro x vs h; simp only [Enc] at h; simp [h, Ty.size]
  | int k => intro x vs h; simp only [Enc] at h; simp [h, Ty.size]
  | str => intro x vs h; simp only [Enc] at h; simp [h, Ty.size]
  | sl e _ => intro x vs h; simp only [Enc] at h; rcases h with ⟨_, rfl⟩ | ⟨b, o, cap, rfl, _⟩ <;> rfl
  | own e _ => intro x vs h; simp only [Enc] at h
  | arr n e _ => intro x vs h; simp only [Enc] at h; exact h.2.1
  | st t ih => intro x vs h; exact ih (x := x) (vs := vs) h
  | unit => intro x vs h; simp only [Enc] at h; simp [h, Ty.size]
  | pair a b iha ihb => intro x vs h; simp only [Enc] at h; obtain ⟨us, ts, rfl, h1, h2⟩ := h; simp [Ty.size, iha h1, ihb h2]

/-- What a step does to memory: blocks outside A stay, and no old block comes into A. -/
structure Turn (w w' : World) (A A' : Nat → Prop) : Prop where
  size : w.heap.size ≤ w'.heap.size
  kept : ∀ b, b < w.heap.size → ¬ A b → w'.heap[b]? = w.heap[b]?
  avoid : ∀ b, b < w.heap.size → A' b → A b

theorem Turn.refl (w : World) (A : Nat → Prop) : Turn w w A A := ⟨Nat.le_refl _, fun _ _ _ => rfl, fun _ _ h => h⟩
theorem Turn.less (w : World) {A A' : Nat → Prop} (h : ∀ b, A' b → A b) : Turn w w A A' := ⟨Nat.le_refl _, fun _ _ _ => rfl, fun _ _ h' => h _ h'⟩
theorem Turn.trans {w w' w'' : World} {A A' A'' : Nat → Prop} (h : Turn w w' A A') (k : Turn w' w'' A' A'') : Turn w w'' A A'' :=
  ⟨Nat.le_trans h.size k.size, fun b hb ha => (k.kept b (Nat.lt_of_lt_of_le hb h.size) (fun ha' => ha (h.avoid b hb ha'))).trans (h.kept b hb ha),
   fun b hb ha => h.avoid b hb (k.avoid b (Nat.lt_of_lt_of_le hb h.size) ha)⟩

theorem Cells.turn {w w' : World} {b o : Nat} {vs : List Value} (hb : w'.heap[b]? = w.heap[b]?) (h : Cells w b o vs) : Cells w' b o vs := by
  intro j v hj
  have := h j v hj
  rw [World.cell?_of_block (w := w) (w' := w') (a := ⟨b, o + j, none⟩) hb]
  exact this

theorem Enc.turn {w w' : World} {A A' : Nat → Prop} (T : Turn w w' A A') : ∀ {τ : Ty} {x : τ.den} {vs : List Value}, Enc w A τ x vs → Enc w' A' τ x vs := by
  intro τ
  induction τ with
  | bool => intro x vs h; exact h
  | int k => intro x vs h; exact h
  | str => intro x vs h; exact h
  | sl e ih =>
    intro x vs h
    simp only [Enc] at h ⊢
    rcases h with h | ⟨b, o, cap, rfl, hc, hA, hb, h⟩
    · exact .inl h
    · refine .inr ⟨b, o, cap, rfl, hc, fun ha => hA (T.avoid b hb ha), Nat.lt_of_lt_of_le hb T.size, fun i y hy => ?_⟩
      obtain ⟨us, h1, h2⟩ := h i y hy
      exact ⟨us, ih h1, h2.turn (T.kept b hb hA)⟩
  | own e _ => intro x vs h; exact h
  | arr n e ih => intro x vs h; simp only [Enc] at h ⊢; exact ⟨h.1, h.2.1, fun i y hy => ih (h.2.2 i y hy)⟩
  | st t ih => intro x vs h; exact ih (x := x) h
  | unit => intro x vs h; exact h
  | pair a b iha ihb => intro x vs h; simp only [Enc] at h ⊢; obtain ⟨us, ts, rfl, h1, h2⟩ := h; exact ⟨us, ts, rfl, iha h1, ihb h2⟩

/-- Every cell of an encoded value is one scalar. -/
theorem Enc.one {w : World} {A : Nat → Prop} : ∀ {τ : Ty} {x : τ.den} {vs : List Value}, Enc w A τ x vs → ∀ v ∈ vs, v.oneCell' = true := by
  intro τ
  induction τ with
  | bool => intro x vs h; simp only [Enc] at h; simp [h, Value.oneCell']
  | int k => intro x vs h; simp only [Enc] at h; simp [h, Value.oneCell']
  | str => intro x vs h; simp only [Enc] at h; simp [h, Value.oneCell']
  | sl e _ => intro x vs h; simp only [Enc] at h; rcases h with ⟨_, rfl⟩ | ⟨b, o, cap, rfl, _⟩ <;> simp [Value.oneCell']
  | own e _ => intro x vs h; simp only [Enc] at h
  | arr n e ih =>
    intro x vs h v hv
    simp only [Enc] at h
    obtain ⟨h1, h2, h3⟩ := h
    obtain ⟨j, hj, rfl⟩ := List.mem_iff_getElem.1 hv
    have hs : 0 < e.size := by
      rcases Nat.eq_zero_or_pos e.size with h0 | h0
      · rw [h0] at h2; simp at h2; simp [h2] at hj
      · exact h0
    have hi : j / e.size < n := by rw [Nat.div_lt_iff_lt_mul hs]; omega
    have hx : x[j / e.size]? = some x[j / e.size] := List.getElem?_eq_getElem (by omega)
    have he := ih (h3 _ _ hx)
    refine he vs[j] ?_
    have hm := Nat.mod_lt j hs
    have hd := Nat.div_add_mod j e.size
    rw [Nat.mul_comm] at hd
    apply List.mem_iff_getElem?.2
    refine ⟨j % e.size, ?_⟩
    rw [List.getElem?_take, if_pos hm, List.getElem?_drop, hd]
    simp [hj]
  | st t ih => intro x vs h; exact ih (x := x) h
  | unit => intro x vs h; simp only [Enc] at h; simp [h]
  | pair a b iha ihb =>
    intro x vs h
    simp only [Enc] at h
    obtain ⟨us, ts, rfl, h1, h2⟩ := h
    intro v hv
    rcases List.mem_append.1 hv with hv | hv
    · exact iha h1 v hv
    · exact ihb h2 v hv

/-! ### Leaves -/
def base (l : Loc) : Option Addr := l.blk.map fun b => ⟨b, 0, none⟩

def RelL (w : World) (A : Nat → Prop) (ι : Inj) : Leaf → List Value → Prop
  | .undef, vs => vs.length = 1
  | .skp, vs => vs = [undef]
  | .anyb, vs => ∃ b, vs = [.bool b]
  | .bool b, vs => vs = [.bool b]
  | .int k n, vs => vs = [.int k n]
  | .str s, vs => vs = [.string s]
  | .sl e xs, vs => Enc w A (.sl e) xs vs
  | .nils, vs => vs = [.slice none 0 0]
  | .own n, vs => vs.length = 1 ∧ (∀ v ∈ vs, v.oneCell' = true) ∧ ∀ l, ι n = some l → vs = [.slice (base l) l.len l.cap]
  | .view n lo hi, vs => vs.length = 1 ∧ (∀ v ∈ vs, v.oneCell' = true) ∧ ∀ l, ι n = some l → 0 ≤ lo ∧ lo ≤ hi ∧ hi ≤ l.len ∧
      ((l.blk = none ∧ vs = [.slice none 0 0]) ∨ ∃ b o c, l.blk = some b ∧ vs = [.slice (some ⟨b, o, none⟩) (hi - lo).toNat c] ∧ (hi - lo).toNat ≤ c ∧ (lo < hi → o = lo.toNat * l.sz))
  | .ptr n off, vs => vs.length = 1 ∧ (∀ v ∈ vs, v.oneCell' = true) ∧ ∀ l, ι n = some l → ∃ b, l.blk = some b ∧ vs = [.pointer (some ⟨b, off, none⟩)]
  | .aptr n off i m sz inner, vs => vs.length = 1 ∧ (∀ v ∈ vs, v.oneCell' = true) ∧ ∀ l, ι n = some l → 0 ≤ i ∧ i < m ∧ ∃ b, l.blk = some b ∧ vs = [.pointer (some ⟨b, off + i.toNat * sz + inner, none⟩)]
  | .eptr n i inner, vs => vs.length = 1 ∧ (∀ v ∈ vs, v.oneCell' = true) ∧ ∀ l, ι n = some l → 0 ≤ i ∧ i < l.len ∧ ∃ b, l.blk = some b ∧ vs = [.pointer (some ⟨b, i.toNat * l.sz + inner, none⟩)]
  | .eaptr n i off j m sz, vs => vs.length = 1 ∧ (∀ v ∈ vs, v.oneCell' = true) ∧ ∀ l, ι n = some l → 0 ≤ i ∧ i < l.len ∧ 0 ≤ j ∧ j < m ∧ ∃ b, l.blk = some b ∧ vs = [.pointer (some ⟨b, i.toNat * l.sz + off + j.toNat * sz, none⟩)]
  | .rptr e x inner, vs => ∃ b o us, vs = [.pointer (some ⟨b, o + inner, none⟩)] ∧ ¬ A b ∧ b < w.heap.size ∧ Enc w A e x us ∧ Cells w b o us
  | .arrv n e xs, vs => Enc w A (.arr n e) xs vs

def RelC (w : World) (A : Nat → Prop) (ι : Inj) : List Leaf → List Value → Prop
  | [], vs => vs = []
  | l :: r, vs => ∃ us ts, vs = us ++ ts ∧ RelL w A ι l us ∧ RelC w A ι r ts

def RelV1 (w : World) (A : Nat → Prop) (ι : Inj) (a : Bool) (cs : List Leaf) (v : Value) : Prop :=
  match a with
  | false => RelC w A ι cs [v]
  | true => ∃ vs : Array Value, v = Value.agg vs ∧ RelC w A ι cs vs.toList

def RelV (w : World) (A : Nat → Prop) (ι : Inj) : Val → Value → Prop
  | .v a cs, v => RelV1 w A ι a cs v
  | .tup l, v => ∃ vs : Array Value, v = .tuple vs ∧ ∀ (i : Nat) (a : Bool) (cs : List Leaf), l[i]? = some (a, cs) → ∃ u, vs[i]? = some u ∧ RelV1 w A ι a cs u
  | .lst ls, v => ∃ b m, v = .slice (some ⟨b, 0, none⟩) ls.length m ∧ ls.length ≤ m ∧ ¬ A b ∧ b < w.heap.size ∧ ∀ (j : Nat) l, ls[j]? = some l → ∃ u, RelL w A ι l [u] ∧ Cells w b j [u]
  | .clo f l, v => ∃ vs : Array Value, v = .func (.func f) #[] vs ∧ vs.size = l.length ∧ ∀ (i : Nat) (a : Bool) (cs : List Leaf), l[i]? = some (a, cs) → ∃ u, vs[i]? = some u ∧ RelV1 w A ι a cs u

section
variable {w w' : World} {A A' : Nat → Prop} {ι ι' : Inj}

theorem RelL.length : ∀ {l : Leaf} {vs : List Value}, RelL w A ι l vs → vs.length = l.width := by
  intro l vs h
  cases l <;> simp only [RelL] at h
  case undef => exact h
  case skp => simp [h, Leaf.width]
  case anyb => obtain ⟨b, rfl⟩ := h; simp [Leaf.width]
  case bool => simp [h, Leaf.width]
  case int => simp [h, Leaf.width]
  case str => simp [h, Leaf.width]
  case sl e xs => exact Enc.length h
  case nils => simp [h, Leaf.width]
  case own => exact h.1
  case view => exact h.1
  case ptr => exact h.1
  case aptr => exact h.1
  case eptr => exact h.1
  case eaptr => exact h.1
  case rptr => obtain ⟨b, o, us, rfl, _⟩ := h; rfl
  case arrv n e xs => exact Enc.length h

theorem RelL.one : ∀ {l : Leaf} {vs : List Value}, RelL w A ι l vs → l.ok = true → ∀ v ∈ vs, v.oneCell' = true := by
  intro l vs h hok
  cases l <;> simp only [RelL] at h
  case undef => simp [Leaf.ok] at hok
  case skp => simp [Leaf.ok] at hok
  case anyb => obtain ⟨b, rfl⟩ := h; simp [Value.oneCell']
  case bool => simp [h, Value.oneCell']
  case int => simp [h, Value.oneCell']
  case str => simp [h, Value.oneCell']
  case sl e xs => exact Enc.one h
  case nils => simp [h, Value.oneCell']
  case own => exact h.2.1
  case view => exact h.2.1
  case ptr => exact h.2.1
  case aptr => exact h.2.1
  case eptr => exact h.2.1
  case eaptr => exact h.2.1
  case rptr => obtain ⟨b, o, us, rfl, _⟩ := h; simp [Value.oneCell']
  case arrv n e xs => exact Enc.one h

def leafNames : Leaf → List Nat
  | .own n => [n]
  | .view n _ _ => [n]
  | .ptr n _ => [n]
  | .aptr n _ _ _ _ _ => [n]
  | .eptr n _ _ => [n]
  | .eaptr n _ _ _ _ _ => [n]
  | _ => []

theorem namesV_cons (l : Leaf) (r : List Leaf) : namesV (l :: r) = leafNames l ++ namesV r := by cases l <;> rfl

theorem RelL.turn (T : Turn w w' A A') : ∀ {l : Leaf} {vs : List Value}, RelL w A ι l vs → (∀ n ∈ leafNames l, ι' n = ι n ∨ ι' n = none) → RelL w' A' ι' l vs := by
  intro l vs h hn
  cases l <;> simp only [RelL] at h ⊢
  case undef => exact h
  case skp => exact h
  case anyb => exact h
  case bool => exact h
  case int => exact h
  case str => exact h
  case sl e xs => exact Enc.turn T h
  case nils => exact h
  case own n => exact ⟨h.1, h.2.1, fun l hl => h.2.2 l (by rcases hn n (by simp [leafNames]) with e | e <;> simp_all)⟩
  case view n lo hi => exact ⟨h.1, h.2.1, fun l hl => h.2.2 l (by rcases hn n (by simp [leafNames]) with e | e <;> simp_all)⟩
  case ptr n off => exact ⟨h.1, h.2.1, fun l hl => h.2.2 l (by rcases hn n (by simp [leafNames]) with e | e <;> simp_all)⟩
  case aptr n off i m sz inner => exact ⟨h.1, h.2.1, fun l hl => h.2.2 l (by rcases hn n (by simp [leafNames]) with e | e <;> simp_all)⟩
  case eptr n i inner => exact ⟨h.1, h.2.1, fun l hl => h.2.2 l (by rcases hn n (by simp [leafNames]) with e | e <;> simp_all)⟩
  case eaptr n i off j m sz => exact ⟨h.1, h.2.1, fun l hl => h.2.2 l (by rcases hn n (by simp [leafNames]) with e | e <;> simp_all)⟩
  case rptr e x inner =>
    obtain ⟨b, o, us, rfl, ha, hb, h1, h2⟩ := h
    exact ⟨b, o, us, rfl, fun h' => ha (T.avoid b hb h'), Nat.lt_of_lt_of_le hb T.size, Enc.turn T h1, h2.turn (T.kept b hb ha)⟩
  case arrv n e xs => exact Enc.turn T h

theorem RelC.turn (T : Turn w w' A A') : ∀ {ls : List Leaf} {vs : List Value}, RelC w A ι ls vs → (∀ n ∈ namesV ls, ι' n = ι n ∨ ι' n = none) → RelC w' A' ι' ls vs
  | [], _, h, _ => h
  | l :: r, _, ⟨us, ts, e, h1, h2⟩, hn => ⟨us, ts, e, h1.turn T fun n hm => hn n (by rw [namesV_cons]; simp [hm]), RelC.turn T h2 fun n hm => hn n (by rw [namesV_cons]; simp [hm])⟩

theorem namesT_mem {l : List (Bool × List Leaf)} {i : Nat} {a : Bool} {cs : List Leaf} (h : l[i]? = some (a, cs)) {n : Nat} (hn : n ∈ namesV cs) : n ∈ namesT l := by
  induction l generalizing i with
  | nil => simp at h
  | cons p r ih =>
    cases i with
    | zero => simp at h; subst h; simp [namesT, hn]
    | succ i => simp at h; simp [namesT, ih h]

theorem RelV1.turn (T : Turn w w' A A') : ∀ {a : Bool} {cs : List Leaf} {v : Value}, RelV1 w A ι a cs v → (∀ n ∈ namesV cs, ι' n = ι n ∨ ι' n = none) → RelV1 w' A' ι' a cs v
  | false, _, _, h, hn => RelC.turn (ls := _) (vs := [_]) T h hn
  | true, _, _, ⟨vs, e, h⟩, hn => ⟨vs, e, RelC.turn T h hn⟩

theorem RelV.turn (T : Turn w w' A A') : ∀ {x : Val} {v : Value}, RelV w A ι x v → (∀ n ∈ namesOf x, ι' n = ι n ∨ ι' n = none) → RelV w' A' ι' x v
  | .v _ _, _, h, hn => RelV1.turn T h hn
  | .tup l, _, ⟨vs, e, h⟩, hn => ⟨vs, e, fun i a cs hi => by
      obtain ⟨u, hu, h'⟩ := h i a cs hi
      exact ⟨u, hu, h'.turn T fun n hm => hn n (namesT_mem hi hm)⟩⟩
  | .lst ls, _, ⟨b, m, e, h1, h2, h3, h⟩, hn => ⟨b, m, e, h1, fun h' => h2 (T.avoid b h3 h'), Nat.lt_of_lt_of_le h3 T.size, fun j l hj => by
      obtain ⟨u, k1, k2⟩ := h j l hj
      refine ⟨u, k1.turn T fun n hm => hn n ?_, k2.turn (T.kept b h3 h2)⟩
      have hmem := List.mem_of_getElem? hj
      clear hj h hn e h1
      induction ls with
      | nil => cases hmem
      | cons x ls ih =>
        simp only [namesOf] at ih ⊢
        rw [namesV_cons]
        rcases List.mem_cons.1 hmem with rfl | hmem
        · exact List.mem_append_left _ hm
        · exact List.mem_append_right _ (ih hmem)⟩
  | .clo f l, _, ⟨vs, e, hl, h⟩, hn => ⟨vs, e, hl, fun i a cs hi => by
      obtain ⟨u, hu, h'⟩ := h i a cs hi
      exact ⟨u, hu, h'.turn T fun n hm => hn n (namesT_mem hi hm)⟩⟩

theorem RelC.length : ∀ {ls : List Leaf} {vs : List Value}, RelC w A ι ls vs → vs.length = widths ls
  | [], _, h => by simp only [RelC] at h; simp [h, widths]
  | l :: r, _, ⟨us, ts, e, h1, h2⟩ => by subst e; simp [widths, h1.length, RelC.length h2]

theorem RelC.one : ∀ {ls : List Leaf} {vs : List Value}, RelC w A ι ls vs → ls.all Leaf.ok = true → ∀ v ∈ vs, v.oneCell' = true
  | [], _, h, _ => by simp only [RelC] at h; simp [h]
  | l :: r, _, ⟨us, ts, e, h1, h2⟩, hok => by
    subst e
    simp only [List.all_cons, Bool.and_eq_true] at hok
    intro v hv
    rcases List.mem_append.1 hv with hv | hv
    · exact h1.one hok.1 v hv
    · exact RelC.one h2 hok.2 v hv

theorem RelC.append : ∀ {l1 l2 : List Leaf} {v1 v2 : List Value}, RelC w A ι l1 v1 → RelC w A ι l2 v2 → RelC w A ι (l1 ++ l2) (v1 ++ v2)
  | [], _, _, _, h1, h2 => by simp only [RelC] at h1; subst h1; exact h2
  | l :: r, _, _, _, ⟨us, ts, e, h1, h2⟩, h3 => ⟨us, ts ++ _, by rw [e, List.append_assoc], h1, RelC.append h2 h3⟩

theorem RelC.drop : ∀ {ls : List Leaf} {n : Nat} {ls' : List Leaf} {vs : List Value}, RelC w A ι ls vs → dropC ls n = some ls' → RelC w A ι ls' (vs.drop n)
  | [], 0, _, _, h, e => by simp only [dropC, Option.some.injEq] at e; subst e; simpa using h
  | [], n + 1, _, _, _, e => by simp [dropC] at e
  | l :: r, 0, _, _, h, e => by simp only [dropC, Option.some.injEq] at e; subst e; simpa using h
  | l :: r, n + 1, ls', _, ⟨us, ts, e', h1, h2⟩, e => by
    subst e'
    simp only [dropC] at e
    split at e
    · rename_i hle
      have hle' := Nat.le_of_ble_eq_true hle
      have := RelC.drop h2 e
      have hl := h1.length
      rw [show (us ++ ts).drop (n + 1) = ts.drop (n + 1 - l.width) by rw [List.drop_append, ← hl, List.drop_eq_nil_of_le (by omega)]; rfl]
      exact this
    · simp at e

theorem RelC.take : ∀ {ls : List Leaf} {n : Nat} {ls' : List Leaf} {vs : List Value}, RelC w A ι ls vs → takeC ls n = some ls' → RelC w A ι ls' (vs.take n)
  | ls, 0, _, _, h, e => by
    have : takeC ls 0 = some [] := by cases ls <;> rfl
    rw [this] at e; cases e; simp [RelC]
  | [], n + 1, _, _, _, e => by simp [takeC] at e
  | l :: r, n + 1, ls', _, ⟨us, ts, e', h1, h2⟩, e => by
    subst e'
    simp only [takeC] at e
    split at e
    · rename_i hle
      have hle' := Nat.le_of_ble_eq_true hle
      obtain ⟨q, hq, rfl⟩ := Option.map_eq_some_iff.1 e
      have hl := h1.length
      have := RelC.take h2 hq
      rw [show (us ++ ts).take (n + 1) = us ++ ts.take (n + 1 - l.width) by rw [List.take_append, ← hl, List.take_of_length_le (by omega)]]
      exact ⟨us, _, rfl, h1, this⟩
    · simp at e

theorem RelC.get {ls : List Leaf} {off n : Nat} {ls' : List Leaf} {vs : List Value} (h : RelC w A ι ls vs) (e : getC ls off n = some ls') : RelC w A ι ls' ((vs.drop off).take n) := by
  obtain ⟨q, hq, e'⟩ := Option.bind_eq_some_iff.1 e
  exact (h.drop hq).take e'

theorem RelC.set {ls new : List Leaf} {off n : Nat} {ls' : List Leaf} {vs us : List Value} (h : RelC w A ι ls vs) (hn : RelC w A ι new us) (e : setC ls off n new = some ls') :
    RelC w A ι ls' (vs.take off ++ (us ++ vs.drop (off + n))) := by
  obtain ⟨a, ha, e'⟩ := Option.bind_eq_some_iff.1 e
  obtain ⟨b, hb, e''⟩ := Option.bind_eq_some_iff.1 e'
  cases e''
  exact (h.take ha).append (hn.append (h.drop hb))

theorem RelC.toC : ∀ {τ : Ty} {x : τ.den} {vs : List Value}, Enc w A τ x vs → RelC w A ι (Lift.toC τ x) vs := by
  intro τ
  induction τ with
  | bool => intro x vs h; exact ⟨vs, [], by simp, h, rfl⟩
  | int k => intro x vs h; exact ⟨vs, [], by simp, h, rfl⟩
  | str => intro x vs h; exact ⟨vs, [], by simp, h, rfl⟩
  | sl e _ => intro x vs h; exact ⟨vs, [], by simp, h, rfl⟩
  | own e _ => intro x vs h; simp only [Enc] at h
  | arr n e _ => intro x vs h; exact ⟨vs, [], by simp, h, rfl⟩
  | st t ih => intro x vs h; exact ih (x := x) h
  | unit => intro x vs h; exact h
  | pair a b iha ihb => intro x vs h; simp only [Enc] at h; obtain ⟨us, ts, rfl, h1, h2⟩ := h; exact (iha h1).append (ihb h2)

end
end Go.Proofs.Ytacmfiddaklkiab.Lift
