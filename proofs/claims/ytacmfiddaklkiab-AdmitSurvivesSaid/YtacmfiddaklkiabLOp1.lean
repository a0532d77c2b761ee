/- 'Lift': operations that leave memory alone. -/
import Derived.Test.YtacmfiddaklkiabLTy
namespace Go.Proofs.Ytacmfiddaklkiab.Lift
open Go Go.RowKit

def upd (T : Tab) (u : List (Nat × Option Entry)) : Tab := fun n =>
  match lk u n with
  | some (some e) => some (true, e)
  | some none => none
  | none => T n

theorem upd_nil (T : Tab) : upd T [] = T := rfl

def entNames : Entry → List Nat
  | .box cs => namesV cs
  | .arr _ _ => []

def In16 (nm n : Nat) : Prop := nm ≤ n ∧ n < nm + 16

/-- What is called: a function with a body. -/
def FnOk (P : Program) (f : FuncId) : Prop := ∃ fn, P.funcs[f]? = some fn ∧ (fn.name == "runtime.NumGoroutine") = false ∧ fn.body.isSome = true

/-- The operation does what the evaluator says, in whatever world stands to the entries so. -/
def Does (P : Program) (S : Nat → Prop) (w0 : World) (ι : Inj) (T : Tab) (w : World) (nm : Nat) (o : Oper) (a : Act) (v : Val) (u : List (Nat × Option Entry)) : Prop :=
  ∀ (next : Act → World → Prop) (Q : Exit → Act → World → Prop),
    (∀ v' w' ι', Inv S w0 ι' (upd T u) w' → Turn w w' (Av S ι) (Av S ι') → (∀ n, ι' n = ι n ∨ ι' n = none ∨ In16 nm n) → RelV w' (Av S ι') ι' v v' → next (a.put o.dst v') w') → o.wp P a w next Q

structure NOk (N : Nat → Prop) (nm : Nat) (v : Val) (u : List (Nat × Option Entry)) : Prop where
  v : ∀ n ∈ namesOf v, N n ∨ In16 nm n
  u : ∀ p ∈ u, (N p.1 ∨ In16 nm p.1) ∧ ∀ e, p.2 = some e → ∀ n ∈ entNames e, N n ∨ In16 nm n

/-- Only an entry of the part's own is written, or a new one. -/
def Wr (T : Tab) (nm : Nat) (u : List (Nat × Option Entry)) : Prop := ∀ p ∈ u, In16 nm p.1 ∨ ∃ e, T p.1 = some (true, e)

def Good {ρ : Type} (P : Program) (S : Nat → Prop) (w0 : World) (ι : Inj) (T : Tab) (w : World) (nm : Nat) (o : Oper) (a : Act) (N : Nat → Prop) (K : Val → List (Nat × Option Entry) → Option ρ) (r : ρ) : Prop :=
  ∃ v u, K v u = some r ∧ Does P S w0 ι T w nm o a v u ∧ NOk N nm v u ∧ Wr T nm u

section
variable {P : Program} {S : Nat → Prop} {w0 w : World} {ι : Inj} {T : Tab} {nm : Nat} {o : Oper} {a : Act} {N : Nat → Prop} {ρ : Type} {r : ρ}

theorem does_value (I : Inv S w0 ι T w) {v : Val} {v' : Value} (h : (execOp a.eval o).run P w = .ok (.value v') w) (hr : RelV w (Av S ι) ι v v') : Does P S w0 ι T w nm o a v [] := by
  intro next Q hn
  show o.upon P a next Q ((execOp a.eval o).run P w)
  rw [h]
  exact hn v' w ι (by rw [upd_nil]; exact I) (Turn.refl _ _) (fun n => .inl rfl) hr

theorem good_value (I : Inv S w0 ι T w) {v : Val} {v' : Value} {K : Val → List (Nat × Option Entry) → Option ρ} (hk : K v [] = some r) (h : (execOp a.eval o).run P w = .ok (.value v') w)
    (hr : RelV w (Av S ι) ι v v') (hn : ∀ n ∈ namesOf v, N n ∨ In16 nm n) : Good P S w0 ι T w nm o a N K r :=
  ⟨v, [], hk, does_value I h hr, ⟨hn, by simp⟩, by simp [Wr]⟩

/-! ### Names -/
theorem namesV_append : ∀ (p q : List Leaf), namesV (p ++ q) = namesV p ++ namesV q
  | [], _ => rfl
  | l :: r, q => by rw [List.cons_append, namesV_cons, namesV_cons, namesV_append r q, List.append_assoc]

theorem names_drop : ∀ {ls : List Leaf} {n : Nat} {ls' : List Leaf}, dropC ls n = some ls' → ∀ m ∈ namesV ls', m ∈ namesV ls
  | [], 0, _, h => by cases h; simp
  | [], n + 1, _, h => by cases h
  | l :: r, 0, _, h => by cases h; simp
  | l :: r, n + 1, ls', h => by
    simp only [dropC] at h
    split at h
    · intro m hm; rw [namesV_cons]; exact List.mem_append_right _ (names_drop h m hm)
    · cases h

theorem names_take : ∀ {ls : List Leaf} {n : Nat} {ls' : List Leaf}, takeC ls n = some ls' → ∀ m ∈ namesV ls', m ∈ namesV ls
  | ls, 0, _, h => by have : takeC ls 0 = some [] := by cases ls <;> rfl
                      rw [this] at h; cases h; simp [namesV]
  | [], n + 1, _, h => by cases h
  | l :: r, n + 1, ls', h => by
    simp only [takeC] at h
    split at h
    · obtain ⟨q, hq, rfl⟩ := Option.map_eq_some_iff.1 h
      intro m hm
      rw [namesV_cons] at hm ⊢
      rcases List.mem_append.1 hm with hm | hm
      · exact List.mem_append_left _ hm
      · exact List.mem_append_right _ (names_take hq m hm)
    · cases h

theorem names_get {ls ls' : List Leaf} {off n : Nat} (h : getC ls off n = some ls') : ∀ m ∈ namesV ls', m ∈ namesV ls := by
  obtain ⟨q, hq, e⟩ := Option.bind_eq_some_iff.1 h
  exact fun m hm => names_drop hq m (names_take e m hm)

theorem names_set {ls new ls' : List Leaf} {off n : Nat} (h : setC ls off n new = some ls') : ∀ m ∈ namesV ls', m ∈ namesV ls ∨ m ∈ namesV new := by
  obtain ⟨a, ha, e⟩ := Option.bind_eq_some_iff.1 h
  obtain ⟨b, hb, e'⟩ := Option.bind_eq_some_iff.1 e
  cases e'
  intro m hm
  rw [namesV_append, namesV_append] at hm
  rcases List.mem_append.1 hm with hm | hm
  · exact .inl (names_take ha m hm)
  · rcases List.mem_append.1 hm with hm | hm
    · exact .inr hm
    · exact .inl (names_drop hb m hm)

theorem names_toC : ∀ {τ : Ty} {x : τ.den}, namesV (toC τ x) = [] := by
  intro τ
  induction τ with
  | bool => intro x; rfl
  | int k => intro x; rfl
  | str => intro x; rfl
  | sl e _ => intro x; rfl
  | own e _ => intro x; rfl
  | arr n e _ => intro x; rfl
  | st t ih => intro x; exact ih (x := x)
  | unit => intro x; rfl
  | pair a b iha ihb => intro x; simp only [toC, namesV_append, iha, ihb]; rfl

theorem names_zeroC : ∀ {τ : Ty}, namesV (zeroC τ) = [] := by
  intro τ
  induction τ with
  | pair a b iha ihb => simp only [zeroC, namesV_append, iha, ihb]; rfl
  | st t ih => exact ih
  | _ => rfl

/-! ### Values of one leaf -/
theorem RelC.leaf {A : Nat → Prop} {l : Leaf} {v : Value} (h : RelC w A ι [l] [v]) : RelL w A ι l [v] := by
  obtain ⟨us, ts, e, h1, h2⟩ := h
  simp only [RelC] at h2
  subst h2
  rw [List.append_nil] at e
  rw [e]; exact h1

theorem rel1 {A : Nat → Prop} {l : Leaf} {v : Value} (h : RelL w A ι l [v]) : RelV w A ι (.v false [l]) v := ⟨[v], [], rfl, h, rfl⟩

theorem rel_int {A : Nat → Prop} {k : IntKind} {n : Int} {v : Value} (h : RelV w A ι (.v false [.int k n]) v) : v = .int k n := by
  have := RelC.leaf h; simpa [RelL] using this
theorem rel_bool {A : Nat → Prop} {b : Bool} {v : Value} (h : RelV w A ι (.v false [.bool b]) v) : v = .bool b := by
  have := RelC.leaf h; simpa [RelL] using this
theorem rel_str {A : Nat → Prop} {s : ByteArray} {v : Value} (h : RelV w A ι (.v false [.str s]) v) : v = .string s := by
  have := RelC.leaf h; simpa [RelL] using this
theorem rel_skp {A : Nat → Prop} {v : Value} (h : RelV w A ι (.v false [.skp]) v) : v = undef := by
  have := RelC.leaf h; simpa [RelL] using this

/-! ### Moves, tests, numbers -/
theorem good_move (I : Inv S w0 ι T w) {ev : Operand → Val} {x : Operand} {K : Val → List (Nat × Option Entry) → Option ρ} (hop : o.op = .move x ∨ o.op = .assign x) (hx : RelV w (Av S ι) ι (ev x) (a.eval x))
    (hN : ∀ n ∈ namesOf (ev x), N n) (h : K (ev x) [] = some r) : Good P S w0 ι T w nm o a N K r := by
  refine good_value I h (v' := a.eval x) ?_ hx fun n hn => .inl (hN n hn)
  rcases hop with hop | hop <;> simp [execOp, hop]

theorem good_pick (I : Inv S w0 ι T w) {ev : Operand → Val} {c x y : Operand} {K : Val → List (Nat × Option Entry) → Option ρ} (hop : o.op = .pick c x y)
    (hc : RelV w (Av S ι) ι (ev c) (a.eval c)) (hx : RelV w (Av S ι) ι (ev x) (a.eval x)) (hy : RelV w (Av S ι) ι (ev y) (a.eval y))
    (hNx : ∀ n ∈ namesOf (ev x), N n) (hNy : ∀ n ∈ namesOf (ev y), N n) (h : pickK (ev c) (ev x) (ev y) (fun v => K v []) = some r) : Good P S w0 ι T w nm o a N K r := by
  have run : ∀ b, a.eval c = .bool b → (execOp a.eval o).run P w = .ok (.value (if b then a.eval x else a.eval y)) w := by
    intro b hb
    simp only [execOp, hop, hb, asBool]
    cases b <;> rfl
  unfold pickK at h
  split at h
  · rename_i b e
    rw [e] at hc
    have hb := rel_bool hc
    have hrun := run b hb
    split at h
    · rename_i p q e1 e2
      rw [e1] at hx; rw [e2] at hy
      refine good_value I h hrun ?_ (by simp [namesOf, namesV])
      cases b
      · exact hy
      · exact hx
    · rename_i k p k' q e1 e2
      rw [e1] at hx; rw [e2] at hy
      split at h
      · rename_i hk; subst hk
        refine good_value I h hrun ?_ (by simp [namesOf, namesV])
        cases b
        · exact hy
        · exact hx
      · cases h
    · cases b
      · exact good_value I h hrun hy fun n hn => .inl (hNy n hn)
      · exact good_value I h hrun hx fun n hn => .inl (hNx n hn)
  · cases h

theorem good_un (I : Inv S w0 ι T w) {ev : Operand → Val} {x : Operand} {op : UnOp} {t : TypeId} {K : Val → List (Nat × Option Entry) → Option ρ} (hop : o.op = .unOp op t x)
    (hx : RelV w (Av S ι) ι (ev x) (a.eval x)) (h : unK op (ev x) (fun v => K v []) = some r) : Good P S w0 ι T w nm o a N K r := by
  unfold unK at h
  split at h <;> try (cases h; done)
  all_goals
    rename_i e
    rw [e] at hx
    first
      | (have hv := rel_int hx
         refine good_value I h (v' := _) (by simp only [execOp, hop, hv]; rfl) (rel1 rfl) (by simp [namesOf, namesV]))
      | (have hv := rel_bool hx
         refine good_value I h (v' := _) (by simp only [execOp, hop, hv]; rfl) (rel1 rfl) (by simp [namesOf, namesV]))

end
end Go.Proofs.Ytacmfiddaklkiab.Lift
