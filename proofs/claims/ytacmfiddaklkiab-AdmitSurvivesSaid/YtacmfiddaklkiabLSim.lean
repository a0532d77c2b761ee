/- 'Lift': one operation, whichever; the relation of states to the machine. -/
import Derived.Test.YtacmfiddaklkiabLCall
set_option linter.unusedVariables false
set_option linter.unusedSimpArgs false
namespace Go.Proofs.Ytacmfiddaklkiab.Lift
open Go Go.RowKit

/-- Every temporary that code sets is below n. -/
def belowC (n : Nat) : Code → Bool
  | .region _ ops _ => ops.toList.all fun o => match o.dst with | some d => Nat.blt d n | none => true
  | .seq a b => belowC n a && belowC n b
  | .cond _ a b => belowC n a && belowC n b
  | .block _ c => belowC n c
  | .loop c => belowC n c
  | _ => true

structure InlOk (P : Program) (f : FuncId) (fn : Func) : Prop where
  here : P.funcs[f]? = some fn
  name : (fn.name == "runtime.NumGoroutine") = false
  body : fn.body.isSome = true
  below : ∀ c, fn.body = some c → belowC fn.ntmps c = true

structure EnvOk (P : Program) (E : Env) : Prop where
  tys : TysOk P E
  specs : ∀ f s, lk E.specs f = some s → Sound P f s
  nils : ∀ f s, lk E.nils f = some s → SoundN P f s
  inls : ∀ f fn, lk E.inls f = some fn → InlOk P f fn
  mixed : P.follows .mixedOrders = true

section
variable {P : Program} {S : Nat → Prop} {w0 w : World} {ι : Inj} {T : Tab} {nm : Nat} {o : Oper} {a : Act} {N : Nat → Prop} {ρ : Type} {r : ρ} {E : Env}

theorem opK_good (hE : EnvOk P E) (I : Inv S w0 ι T w) (hnm : ∀ n, In16 nm n → T n = none) (hfr : ∀ m p, T m = some p → ∀ q ∈ entNames p.2, ¬ In16 nm q) (hNnm : ∀ n, N n → ¬ In16 nm n)
    (hTN : ∀ m e, N m → T m = some e → ∀ n ∈ entNames e.2, N n) {ev : Operand → Val} (hx : ∀ x, RelV w (Av S ι) ι (ev x) (a.eval x)) (hN : ∀ x, ∀ n ∈ namesOf (ev x), N n)
    {K : Val → List (Nat × Option Entry) → Option ρ} (h : opK E T nm ev o.op K = some r) : Good P S w0 ι T w nm o a N K r := by
  cases hop : o.op <;> rw [hop] at h <;> try (simp only [opK] at h; cases h; done)
  case move x => simp only [opK] at h; exact good_move I (.inl hop) (hx x) (hN x) h
  case assign x => simp only [opK] at h; exact good_move I (.inr hop) (hx x) (hN x) h
  case pick c x y => simp only [opK] at h; exact good_pick I hop (hx c) (hx x) (hx y) (hN x) (hN y) h
  case alloc t =>
    simp only [opK] at h
    split at h
    · rename_i τ ht; exact good_alloc hE.tys I hnm hfr hNnm hop ht h
    · cases h
  case box t x =>
    simp only [opK] at h
    split at h
    · rename_i τ g cs ht ex
      split at h
      · rename_i hchk
        simp only [Bool.and_eq_true] at hchk
        exact good_box hE.tys I hnm hfr hNnm hop ex hchk.2 (hx x) (hN x) h
      · cases h
    · cases h
  case build t ps => exact good_build hE.tys I hop (fun p _ => hx p.2) (fun p _ => hN p.2) h
  case buildSlice t n ps => exact good_buildSlice hE.tys I hnm hfr hop (fun p _ => hx p.2) (fun p _ => hN p.2) h
  case load t x => simp only [opK] at h; exact good_load hE.tys I hop (hx x) (hN x) hTN h
  case store t x y => simp only [opK] at h; exact good_store hE.tys I hop (hx x) (hx y) (hN x) (hN y) hTN h
  case nilCheck x => exact good_nil I hop (hx x) (hN x) h
  case binOp op t x y z => simp only [opK] at h; exact good_bin hE.tys I hop (hx x) (hx y) h
  case unOp op t x => simp only [opK] at h; exact good_un I hop (hx x) h
  case convert s d x => simp only [opK] at h; exact good_convert hE.tys I hnm hfr hop (hx x) h
  case makeSlice t x y => simp only [opK] at h; exact good_make hE.tys I hnm hfr hop (hx x) (hx y) h
  case slice t x lo hi mx => simp only [opK] at h; exact good_slice hE.tys I hop (hx x) (fun y _ => hx y) (fun y _ => hx y) (hN x) h
  case fieldAddr t x f => simp only [opK] at h; exact good_addr hE.tys I hop (hx x) (hN x) h
  case field t x f => exact good_field (E' := E) hE.tys I hop (hx x) (hN x) h
  case indexAddr t x i => simp only [opK] at h; exact good_indexAddr hE.tys I hop (hx x) (hx i) (hN x) h
  case index t x i => simp only [opK] at h; exact good_index hE.tys I hop (hx x) (hx i) h
  case extract x j => simp only [opK] at h; exact good_extract I hop (hx x) (hN x) h
  case call c =>
    simp only [opK] at h
    split at h
    · rename_i hc
      split at h
      · rename_i x t ha ht; exact good_len hE.tys I hop hc ha ht (hx x) h
      · cases h
    · rename_i hc
      split at h
      · rename_i s x t t2 ha ht; exact good_append hE.tys I hnm hfr hop hc ha ht (hx s) (hx x) (hN s) h
      · cases h
    · rename_i hc
      split at h
      · rename_i s x t t2 ha ht; exact good_copy hE.tys I hop hc ha ht (hx s) (hx x) (hN s) h
      · cases h
    · rename_i hc; exact good_min (mx := false) I hop hc (fun x _ => hx x) h
    · rename_i hc; exact good_min (mx := true) I hop hc (fun x _ => hx x) h
    · rename_i f hc; exact good_call hE.specs hE.nils I hnm hfr hop hc (fun x _ => hx x) hN h
    · cases h
  case makeFunc fn first caps =>
    simp only [opK] at h
    split at h
    · rename_i v hv; exact good_lit I hop hx hN hv h
    · cases h

/-! ### States -/
structure SimF (S : Nat → Prop) (w0 : World) (N : Nat → Prop) (n : Nat) (τ : Nat → Val) (T : Tab) (a : Act) (w : World) (ι : Inj) : Prop where
  inv : Inv S w0 ι T w
  tmp : ∀ t, RelV w (Av S ι) ι (τ t) (a.eval (.tmp t))
  size : n ≤ a.tmps.size
  defers : a.defers = []
  vals : ∀ t, ∀ m ∈ namesOf (τ t), N m
  tabs : ∀ m p, T m = some p → N m ∧ ∀ q ∈ entNames p.2, N q

/-- From one moment to a later one. -/
structure Ev (S : Nat → Prop) (nx : Nat) (w : World) (ι : Inj) (w' : World) (ι' : Inj) : Prop where
  turn : Turn w w' (Av S ι) (Av S ι')
  keep : ∀ m, m < nx → ι' m = ι m ∨ ι' m = none

theorem Ev.refl {nx : Nat} : Ev S nx w ι w ι := ⟨Turn.refl _ _, fun _ _ => .inl rfl⟩

theorem Ev.trans {nx nx' : Nat} {w1 w2 w3 : World} {ι1 ι2 ι3 : Inj} (h : Ev S nx w1 ι1 w2 ι2) (k : Ev S nx' w2 ι2 w3 ι3) (hn : nx ≤ nx') : Ev S nx w1 ι1 w3 ι3 :=
  ⟨h.turn.trans k.turn, fun m hm => by
    rcases k.keep m (by omega) with e | e
    · rw [e]; exact h.keep m hm
    · exact .inr e⟩

theorem rel_undef {A : Nat → Prop} {v : Value} : RelV w A ι (.v false [.undef]) v := rel1 rfl

theorem constL_rel {A : Nat → Prop} (v : Value) : RelL w A ι (constL v) [v] := by
  unfold constL
  split <;> rfl

theorem constV_rel {A : Nat → Prop} (v : Value) : RelV w A ι (constV v) v := by
  unfold constV
  split
  · rename_i cs
    refine ⟨cs, rfl, ?_⟩
    have : ∀ l : List Value, RelC w A ι (l.map constL) l := by
      intro l
      induction l with
      | nil => rfl
      | cons x l ih => exact ⟨[x], l, rfl, constL_rel x, ih⟩
    exact this _
  · exact rel1 (constL_rel v)

theorem constL_names (v : Value) : leafNames (constL v) = [] := by
  unfold constL
  split <;> rfl

theorem constV_names (v : Value) : namesOf (constV v) = [] := by
  unfold constV
  split
  · rename_i cs
    have : ∀ l : List Value, namesV (l.map constL) = [] := by
      intro l
      induction l with
      | nil => rfl
      | cons x l ih => simp only [List.map_cons]; rw [namesV_cons, constL_names, ih]; rfl
    exact this _
  · simp only [namesOf]; rw [namesV_cons, constL_names]; rfl

def evF (τ : Nat → Val) : Operand → Val
  | .tmp t => τ t
  | .const x => constV x
  | .func f => .clo f []
  | _ => .v false [.undef]

theorem ev_evF (σ : St) : σ.ev = evF σ.tmp := by
  funext x
  cases x <;> rfl

theorem SimF.ev {n : Nat} {τ : Nat → Val} (h : SimF S w0 N n τ T a w ι) (x : Operand) : RelV w (Av S ι) ι (evF τ x) (a.eval x) := by
  cases x with
  | tmp t => exact h.tmp t
  | const v => exact constV_rel v
  | global g => exact rel_undef
  | func f => exact ⟨#[], rfl, rfl, fun i g cs hi => by cases hi⟩

theorem SimF.evN {n : Nat} {τ : Nat → Val} (h : SimF S w0 N n τ T a w ι) (x : Operand) : ∀ m ∈ namesOf (evF τ x), N m := by
  cases x with
  | tmp t => exact h.vals t
  | const v => intro m hm; simp only [evF, constV_names] at hm; cases hm
  | global g => intro m hm; cases hm
  | func f => intro m hm; cases hm

def putF (τ : Nat → Val) (d : Option Nat) (v : Val) : Nat → Val := fun t => if d = some t then v else τ t

theorem tmp_dst (σ : St) (d : Option Nat) (v : Val) : (σ.dst d v).tmp = putF σ.tmp d v := by
  funext t
  cases d with
  | none => simp [St.dst, putF]
  | some d =>
    simp only [St.dst, St.tmp, St.set, lk, putF]
    by_cases h : d = t
    · subst h; simp [Nat.beq_refl]
    · have : Nat.beq d t = false := by cases hb : Nat.beq d t; rfl; exact absurd (Nat.eq_of_beq_eq_true hb) h
      simp [this, h]

theorem tmp_put (σ : St) (u : List (Nat × Option Entry)) : (σ.put u).tmp = σ.tmp := rfl
theorem ent_dst (σ : St) (d : Option Nat) (v : Val) : (σ.dst d v).ent = σ.ent := by cases d <;> rfl

theorem lk_append {α : Type} : ∀ (l k : List (Nat × α)) (n : Nat), lk (l ++ k) n = match lk l n with | some x => some x | none => lk k n
  | [], _, _ => rfl
  | (i, x) :: l, k, n => by
    simp only [List.cons_append, lk]
    split
    · rfl
    · exact lk_append l k n

theorem ent_put (σ : St) (u : List (Nat × Option Entry)) : (σ.put u).ent = upd σ.ent u := by
  funext n
  simp only [St.put, St.ent, upd, lk_append]
  cases lk u n with
  | none => rfl
  | some p => cases p <;> rfl

theorem eval_put {a : Act} {d : Option Nat} {v : Value} {n : Nat} (hn : n ≤ a.tmps.size) (hd : ∀ t, d = some t → t < n) (t : Nat) :
    (a.put d v).eval (.tmp t) = if d = some t then v else a.eval (.tmp t) := by
  cases d with
  | none => simp [Act.put]
  | some d =>
    have hlt := hd d rfl
    simp only [Act.put, Act.eval]
    by_cases h : d = t
    · subst h
      have : d < a.tmps.size := by omega
      simp [this]
    · have : ¬ some d = some t := fun he => h (by cases he; rfl)
      rw [if_neg this]
      simp [Array.getD_eq_getD_getElem?, Array.getElem?_setIfInBounds, h]

theorem put_size {a : Act} {d : Option Nat} {v : Value} : (a.put d v).tmps.size = a.tmps.size := by cases d <;> simp [Act.put]
theorem put_defers {a : Act} {d : Option Nat} {v : Value} : (a.put d v).defers = a.defers := by cases d <;> rfl

/-- One operation that is wanted. -/
theorem SimF.step (hE : EnvOk P E) {n : Nat} {τ : Nat → Val} (h : SimF S w0 N n τ T a w ι) (hN16 : ∀ m, N m → ¬ In16 nm m) (hd : ∀ t, o.dst = some t → t < n) {v : Val} {u : List (Nat × Option Entry)}
    (hk : opK E T nm (evF τ) o.op (fun v u => some (v, u)) = some (v, u)) {next : Act → World → Prop} {Q : Exit → Act → World → Prop}
    (hn : ∀ a' w' ι', SimF S w0 (fun m => N m ∨ In16 nm m) n (putF τ o.dst v) (upd T u) a' w' ι' → Turn w w' (Av S ι) (Av S ι') → (∀ m, ι' m = ι m ∨ ι' m = none ∨ In16 nm m) → Wr T nm u → next a' w') :
    o.wp P a w next Q := by
  have hnm : ∀ m, In16 nm m → T m = none := fun m hm => by
    cases hT : T m with
    | none => rfl
    | some p => exact absurd hm (hN16 m (h.tabs m p hT).1)
  have hfr : ∀ m p, T m = some p → ∀ q ∈ entNames p.2, ¬ In16 nm q := fun m p hT q hq => hN16 q ((h.tabs m p hT).2 q hq)
  obtain ⟨v', u', he, hdoes, hok, hwr⟩ := opK_good hE h.inv hnm hfr hN16 (fun m e _ hT => (h.tabs m e hT).2) h.ev h.evN hk
  cases he
  refine hdoes next Q fun v' w' ι' I' ht hι hr => hn _ w' ι' ⟨I', fun t => ?_, by rw [put_size]; exact h.size, by rw [put_defers]; exact h.defers, fun t m hm => ?_, fun m p hT => ?_⟩ ht hι hwr
  · rw [eval_put h.size hd]
    unfold putF
    split
    · exact hr
    · exact (h.tmp t).turn ht fun m hm => by
        rcases hι m with e | e | e
        · exact .inl e
        · exact .inr e
        · exact absurd e (hN16 m (h.vals t m hm))
  · unfold putF at hm
    split at hm
    · exact hok.v m hm
    · exact .inl (h.vals t m hm)
  · simp only [upd] at hT
    split at hT
    · rename_i e hl
      cases hT
      obtain ⟨k1, k2⟩ := hok.u _ (lk_of_mem hl)
      exact ⟨k1, k2 _ rfl⟩
    · cases hT
    · obtain ⟨k1, k2⟩ := h.tabs m p hT
      exact ⟨.inl k1, fun q hq => .inl (k2 q hq)⟩

/-- One that is not. -/
theorem SimF.skip {n : Nat} {τ : Nat → Val} (h : SimF S w0 N n τ T a w ι) (hd : ∀ t, o.dst = some t → t < n) : SimF S w0 N n (putF τ o.dst (.v false [.skp])) T (a.put o.dst undef) w ι := by
  refine ⟨h.inv, fun t => ?_, by rw [put_size]; exact h.size, by rw [put_defers]; exact h.defers, fun t m hm => ?_, h.tabs⟩
  · rw [eval_put h.size hd]
    unfold putF
    split
    · exact rel1 rfl
    · exact h.tmp t
  · unfold putF at hm
    split at hm
    · cases hm
    · exact h.vals t m hm

theorem SimF.weaken {n : Nat} {τ : Nat → Val} {N' : Nat → Prop} (h : SimF S w0 N n τ T a w ι) (k : ∀ m, N m → N' m) : SimF S w0 N' n τ T a w ι :=
  ⟨h.inv, h.tmp, h.size, h.defers, fun t m hm => k m (h.vals t m hm), fun m p hp => ⟨k m (h.tabs m p hp).1, fun q hq => k q ((h.tabs m p hp).2 q hq)⟩⟩

/-- The whole relation. N: the names that are in use. -/
structure Sim (S : Nat → Prop) (w0 : World) (N : Nat → Prop) (n : Nat) (σ : St) (a : Act) (w : World) (ι : Inj) : Prop where
  core : SimF S w0 N n σ.tmp σ.ent a w ι
  lt : ∀ m, N m → m < σ.next
  disj : ∀ p ∈ σ.ktab, ∀ q ∈ σ.tab, p.1 ≠ q.1
  kb : ∀ p ∈ σ.ktab, p.1 < σ.next
  tb : ∀ p ∈ σ.tab, p.1 < σ.next

/-- The names in use later. -/
def Post (N : Nat → Prop) (σ σ' : St) : Nat → Prop := fun m => N m ∨ (σ.next ≤ m ∧ m < σ'.next)

/-- What stays of a state. -/
structure Out (σ σ' : St) : Prop where
  kt : σ'.kt = σ.kt
  ktab : σ'.ktab = σ.ktab
  next : σ.next ≤ σ'.next

theorem Out.refl (σ : St) : Out σ σ := ⟨rfl, rfl, Nat.le_refl _⟩
theorem Out.trans {σ σ1 σ2 : St} (h : Out σ σ1) (k : Out σ1 σ2) : Out σ σ2 := ⟨k.kt.trans h.kt, k.ktab.trans h.ktab, Nat.le_trans h.next k.next⟩

/-- Where a part lets go of the state: what holds. -/
structure Done (S : Nat → Prop) (w0 : World) (N : Nat → Prop) (n : Nat) (σ : St) (w : World) (ι : Inj) (σ' : St) (a' : Act) (w' : World) (ι' : Inj) : Prop where
  sim : Sim S w0 (Post N σ σ') n σ' a' w' ι'
  ev : Ev S σ.next w ι w' ι'
  out : Out σ σ'

theorem Done.refl {n : Nat} {σ : St} (h : Sim S w0 N n σ a w ι) : Done S w0 N n σ w ι σ a w ι :=
  ⟨⟨h.core.weaken fun m hm => .inl hm, fun m hm => by rcases hm with hm | hm; exact h.lt m hm; exact hm.2, h.disj, h.kb, h.tb⟩, Ev.refl, Out.refl σ⟩

theorem Done.trans {n : Nat} {σ σ1 σ2 : St} {a1 a2 : Act} {w1 w2 : World} {ι1 ι2 : Inj} (h : Done S w0 N n σ w ι σ1 a1 w1 ι1) (k : Done S w0 (Post N σ σ1) n σ1 w1 ι1 σ2 a2 w2 ι2) :
    Done S w0 N n σ w ι σ2 a2 w2 ι2 := by
  have hsub : ∀ m, Post (Post N σ σ1) σ1 σ2 m → Post N σ σ2 m := fun m hm => by
    rcases hm with (hm | hm) | hm
    · exact .inl hm
    · exact .inr ⟨hm.1, Nat.lt_of_lt_of_le hm.2 k.out.next⟩
    · exact .inr ⟨Nat.le_trans h.out.next hm.1, hm.2⟩
  have hlt : ∀ m, N m → m < σ2.next := fun m hm => k.sim.lt m (.inl (.inl hm))
  exact ⟨⟨k.sim.core.weaken hsub, fun m hm => by rcases hm with hm | hm; exact hlt m hm; exact hm.2, k.sim.disj, k.sim.kb, k.sim.tb⟩, h.ev.trans k.ev h.out.next, h.out.trans k.out⟩

theorem litK_some {σ : St} {t : Nat} {b : Bool} {K : St → Option ρ} (h : litK σ (.tmp t) b K = some r) (ht : σ.tmp t = .v false [.bool b]) :
    ∃ σ', K σ' = some r ∧ σ'.tmp = σ.tmp ∧ σ'.tab = σ.tab ∧ σ'.ktab = σ.ktab ∧ σ'.kt = σ.kt ∧ σ'.next = σ.next := by
  unfold litK at h
  simp only at h
  split at h
  · refine ⟨_, h, ?_, rfl, rfl, rfl, rfl⟩
    have := tmp_dst σ (some t) (.v false [.bool b])
    simp only [St.dst] at this
    rw [this]
    funext t'
    unfold putF
    split
    · rename_i e; cases e; exact ht.symm
    · rfl
  · exact ⟨σ, h, rfl, rfl, rfl, rfl, rfl⟩

theorem ent_eq {σ σ' : St} (h1 : σ'.tab = σ.tab) (h2 : σ'.ktab = σ.ktab) : σ'.ent = σ.ent := by
  funext n; simp only [St.ent, h1, h2]

theorem ent_true {σ : St} {n : Nat} {e : Entry} (h : σ.ent n = some (true, e)) : ∃ q ∈ σ.tab, q.1 = n := by
  simp only [St.ent] at h
  split at h
  · rename_i e' hl; exact ⟨_, lk_of_mem hl, rfl⟩
  · cases h
  · split at h <;> cases h

end
end Go.Proofs.Ytacmfiddaklkiab.Lift
