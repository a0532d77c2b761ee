/- 'Lift': the arguments of a law, opened. -/
import Derived.Test.YtacmfiddaklkiabLFn
import Derived.Deep.Slices
import Derived.OpenShut
import Derived.ChangeOld
import Derived.SizedLaws
import Derived.Carry
set_option linter.unusedVariables false
set_option linter.unusedSimpArgs false
namespace Go.Proofs.Ytacmfiddaklkiab.Lift
open Go Go.RowKit

/-- What every input of the type fulfils. -/
def Wf : (τ : Ty) → τ.den → Prop
  | .bool, _ => True
  | .int k, n => k.min ≤ n ∧ n ≤ k.max
  | .str, s => s.size ≤ maxLen
  | .sl e, xs => xs.length ≤ maxLen ∧ ∀ x ∈ xs, Wf e x
  | .own _, _ => True
  | .arr n e, xs => xs.length = n ∧ ∀ x ∈ xs, Wf e x
  | .st t, x => Wf t x
  | .unit, _ => True
  | .pair a b, x => Wf a x.1 ∧ Wf b x.2

def WfL : (l : List Ty) → (tup l).den → Prop
  | [], _ => True
  | [a], x => Wf a x
  | a :: b :: r, x => Wf a x.1 ∧ WfL (b :: r) x.2

/-- No slices within slices. -/
def Ty.flat : Ty → Bool
  | .sl e => !e.hasSl && e.flat
  | .own _ => false
  | .arr _ e => e.flat
  | .st t => t.flat
  | .pair a b => a.flat && b.flat
  | _ => true

def Led (w : World) (v : Value) : Prop := ∀ a len cap, v = .slice (some a) len cap → a.spot = none ∧ a.block < w.heap.size

section
variable {P : Program} {W : World} {H : Type} {enc : TypeId × Value → H}

theorem build_list {α : Type} {Q : Nat → α → Prop} : ∀ {n : Nat}, (∀ i, i < n → ∃ x, Q i x) → ∃ xs : List α, xs.length = n ∧ ∀ (i : Nat) x, xs[i]? = some x → Q i x
  | 0, _ => ⟨[], rfl, fun i x h => by cases h⟩
  | n + 1, h => by
    obtain ⟨xs, h1, h2⟩ := build_list (n := n) fun i hi => h i (by omega)
    obtain ⟨x, hx⟩ := h n (by omega)
    refine ⟨xs ++ [x], by simp [h1], fun i y hy => ?_⟩
    rw [List.getElem?_append] at hy
    split at hy
    · exact h2 i y hy
    · rename_i hi
      have : i - xs.length = 0 := by
        cases hj : i - xs.length with
        | zero => rfl
        | succ j => rw [hj] at hy; simp at hy
      rw [this] at hy
      simp at hy
      subst hy
      have : i = n := by omega
      subst this
      exact hx

theorem Info.cells {τ : Ty} {t : TypeId} {i : TypeInfo} (h : Info P τ t i) : P.cellsOf t = τ.size := by simp [Program.cellsOf, h.info, h.size]

theorem TyOk.cells {τ : Ty} {t : TypeId} (h : TyOk P τ t) : P.cellsOf t = τ.size := by obtain ⟨i, hi⟩ := h.info; exact hi.cells
theorem TyOk.pos {τ : Ty} {t : TypeId} (h : TyOk P τ t) : 0 < τ.size := by obtain ⟨i, hi⟩ := h.info; exact hi.pos

theorem FldOk.pair {a b : Ty} {fs : List Field} {off : Nat} (h : FldOk P (.pair a b) fs off) : ∃ f r, fs = f :: r ∧ f.offset = off ∧ TyOk P a f.type ∧ FldOk P b r (off + a.size) := by
  obtain ⟨n, h⟩ := h
  cases n with
  | zero => simp [tyChk] at h
  | succ n =>
    match fs, h with
    | f :: r, h =>
      simp only [tyChk, Bool.and_eq_true] at h
      exact ⟨f, r, rfl, Nat.eq_of_beq_eq_true h.1.1.1, ⟨n, h.1.2⟩, ⟨n, h.2⟩⟩

theorem FldOk.one {τ : Ty} (hτ : ∀ a b, τ ≠ .pair a b) {fs : List Field} {off : Nat} (h : FldOk P τ fs off) : ∃ f, fs = [f] ∧ f.offset = off ∧ TyOk P τ f.type := by
  obtain ⟨n, h⟩ := h
  cases n with
  | zero => simp [tyChk] at h
  | succ n =>
    match fs, h with
    | [], h => cases τ <;> simp [tyChk] at h
    | [f], h =>
      have h' : (Nat.beq f.offset off && !(f.name == "_") && tyChk P n τ (.inl f.type)) = true := by
        cases τ <;> first | exact h | exact absurd rfl (hτ _ _)
      simp only [Bool.and_eq_true] at h'
      exact ⟨f, rfl, Nat.eq_of_beq_eq_true h'.1.1, ⟨n, h'.2⟩⟩
    | f :: g :: r, h => cases τ <;> first | (simp [tyChk] at h; done) | exact absurd rfl (hτ _ _)

def T1 (enc : TypeId × Value → H) (P : Program) (W : World) (τ : Ty) : Prop :=
  ∀ (n : Nat) (t : TypeId) (cs : List Value) (r : DataW H × List MemPlace), TyOk P τ t → DataW.trod enc P W 0 (fun _ => true) true n t cs = some r → (τ.hasSl = true → ∀ v ∈ cs, Led W v) →
    ∃ x : τ.den, Wf τ x ∧ Enc W (fun _ => False) τ x cs

def T2 (enc : TypeId × Value → H) (P : Program) (W : World) (τ : Ty) : Prop :=
  ∀ (n : Nat) (fs : List Field) (off : Nat) (cs : List Value) (xs : List (DataW H × List MemPlace)), FldOk P τ fs off → xs.length = fs.length →
    (∀ (i : Nat) (f : Field), fs[i]? = some f → DataW.trod enc P W 0 (fun _ => true) true n f.type ((cs.drop f.offset).take (P.cellsOf f.type)) = xs[i]?) → cs.length = off + τ.size → (τ.hasSl = true → ∀ v ∈ cs, Led W v) →
    ∃ x : τ.den, Wf τ x ∧ Enc W (fun _ => False) τ x (cs.drop off)

theorem T2.of_one {τ : Ty} (hτ : ∀ a b, τ ≠ .pair a b) (h : T1 enc P W τ) : T2 enc P W τ := by
  intro n fs off cs xs hf hl hx hlen hled
  obtain ⟨f, rfl, rfl, ht⟩ := hf.one hτ
  have h0 := hx 0 f rfl
  have : 0 < xs.length := by rw [hl]; exact Nat.one_pos
  rw [List.getElem?_eq_getElem this] at h0
  rw [ht.cells] at h0
  have e : (cs.drop f.offset).take τ.size = cs.drop f.offset := List.take_of_length_le (by simp [hlen])
  rw [e] at h0
  exact h n f.type _ _ ht h0 fun hs v hv => hled hs v (List.mem_of_mem_drop hv)

theorem cells_list {a : Addr} (hs : a.spot = none) {k n : Nat} {cs : List Value} (h : W.cells? 0 (a.add k) n = some cs) : Cells W a.block (a.off + k) cs := by
  obtain ⟨_, hl, hc⟩ := World.cells?_some h
  intro j v hj
  have hjlt : j < n := by rw [← hl]; exact (List.getElem?_eq_some_iff.1 hj).1
  have := hc j hjlt
  rw [hj] at this
  have e : (a.add k).add j = ⟨a.block, a.off + k + j, none⟩ := by
    obtain ⟨b, o, s⟩ := a
    simp only at hs
    subst hs
    simp only [Addr.add]
    by_cases hk : k = 0
    · subst hk
      by_cases hj0 : j = 0
      · subst hj0; simp
      · simp [hj0]
    · by_cases hj0 : j = 0
      · subst hj0; simp [hk]
      · simp [hk, hj0]
  rw [e] at this
  exact this

theorem trod_enc : ∀ {τ : Ty}, τ.flat = true → T1 enc P W τ ∧ T2 enc P W τ := by
  intro τ
  induction τ with
  | bool =>
    intro _
    have h1 : T1 enc P W .bool := fun n t cs r ht h _ => by
      obtain ⟨b, rfl, _⟩ := DataW.trod_bool ht.bool h
      exact ⟨b, trivial, rfl⟩
    exact ⟨h1, T2.of_one (fun a b h => by cases h) h1⟩
  | int k =>
    intro _
    have h1 : T1 enc P W (.int k) := fun n t cs r ht h _ => by
      obtain ⟨m, rfl, _, hw⟩ := DataW.trod_int ht.int h
      simp only [Lit.wf, Bool.and_eq_true, decide_eq_true_eq] at hw
      exact ⟨m, hw, rfl⟩
    exact ⟨h1, T2.of_one (fun a b h => by cases h) h1⟩
  | str =>
    intro _
    have h1 : T1 enc P W .str := fun n t cs r ht h _ => by
      obtain ⟨s, rfl, _, hw⟩ := DataW.trod_string ht.str h
      exact ⟨s, hw, rfl⟩
    exact ⟨h1, T2.of_one (fun a b h => by cases h) h1⟩
  | own e _ => intro h; cases h
  | unit =>
    intro _
    have h1 : T1 enc P W .unit := fun n t cs r ht h _ => ht.not_unit.elim
    exact ⟨h1, T2.of_one (fun a b h => by cases h) h1⟩
  | st c ih =>
    intro hf
    have h1 : T1 enc P W (.st c) := fun n t cs r ht h hled => by
      obtain ⟨fs, hu, hfl⟩ := ht.st
      obtain ⟨xs, m, rfl, _, hl, hxl, hx⟩ := DataW.trod_struct hu h
      rw [ht.cells] at hl
      obtain ⟨x, w, e⟩ := (ih hf).2 m fs.toList 0 cs xs hfl (by simpa using hxl) (fun i f hi => hx i f (by simpa using hi)) (by rw [hl]; simp [Ty.size]) hled
      refine ⟨x, w, ?_⟩
      have e : Enc W (fun _ => False) c x (cs.drop 0) := e
      rw [List.drop_zero] at e
      exact e
    exact ⟨h1, T2.of_one (fun a b h => by cases h) h1⟩
  | arr m e ih =>
    intro hf
    have h1 : T1 enc P W (.arr m e) := fun n t cs r ht h hled => by
      obtain ⟨te, hu, hte⟩ := ht.arr
      obtain ⟨xs, k, rfl, _, hl, hxl, hx⟩ := DataW.trod_array hu h
      rw [ht.cells] at hl
      rw [hte.cells] at hx
      obtain ⟨ys, hy1, hy2⟩ := build_list (n := m) (Q := fun i (y : e.den) => Wf e y ∧ Enc W (fun _ => False) e y ((cs.drop (i * e.size)).take e.size)) fun i hi => by
        have h0 := hx i hi
        rw [List.getElem?_eq_getElem (by rw [hxl]; exact hi)] at h0
        exact (ih hf).1 k te _ _ hte h0 fun hs v hv => hled hs v (List.mem_of_mem_drop (List.mem_of_mem_take hv))
      refine ⟨ys, ⟨hy1, fun y hy => ?_⟩, hy1, hl, fun i y hi => (hy2 i y hi).2⟩
      obtain ⟨i, hi⟩ := List.mem_iff_getElem?.1 hy
      exact (hy2 i y hi).1
    exact ⟨h1, T2.of_one (fun a b h => by cases h) h1⟩
  | sl e ih =>
    intro hf
    simp only [Ty.flat, Bool.and_eq_true, Bool.not_eq_true'] at hf
    have h1 : T1 enc P W (.sl e) := fun n t cs r ht h hled => by
      obtain ⟨te, hu, hte⟩ := ht.sl
      rcases Deep.open_slice hu h with ⟨rfl, _⟩ | ⟨a, len, cap, m, k, D, Pl, rfl, _, hlc, hcm, hm, _, hel⟩
      · exact ⟨[], ⟨Nat.zero_le _, fun x hx => by cases hx⟩, .inl ⟨rfl, rfl⟩⟩
      · simp only [if_true] at hm
        subst hm
        obtain ⟨hsp, hblk⟩ := hled rfl _ (List.mem_singleton.2 rfl) a len m rfl
        rw [hte.cells] at hel
        obtain ⟨ys, hy1, hy2⟩ := build_list (n := len) (Q := fun i (y : e.den) => Wf e y ∧ ∃ us, Enc W (fun _ => False) e y us ∧ Cells W a.block (a.off + i * e.size) us) fun i hi => by
          obtain ⟨us, h2, h3⟩ := hel i (by omega)
          obtain ⟨y, q1, q2⟩ := (ih hf.2).1 k te us _ hte h3 fun hs => by rw [hf.1] at hs; cases hs
          exact ⟨y, q1, us, q2, cells_list hsp h2⟩
        refine ⟨ys, ⟨by rw [hy1]; omega, fun y hy => ?_⟩, .inr ⟨a.block, a.off, m, ?_, by omega, fun h => h, hblk, fun i y hi => (hy2 i y hi).2⟩⟩
        · obtain ⟨i, hi⟩ := List.mem_iff_getElem?.1 hy
          exact (hy2 i y hi).1
        · obtain ⟨b, o, s⟩ := a
          simp only at hsp
          subst hsp
          rw [hy1]
    exact ⟨h1, T2.of_one (fun a b h => by cases h) h1⟩
  | pair a b iha ihb =>
    intro hf
    simp only [Ty.flat, Bool.and_eq_true] at hf
    refine ⟨fun n t cs r ht h hled => ht.not_pair.elim, fun n fs off cs xs hfl hl hx hlen hled => ?_⟩
    obtain ⟨f, r, rfl, rfl, hta, hfb⟩ := hfl.pair
    match xs, hl with
    | x0 :: xs, hl =>
      have h0 := hx 0 f rfl
      rw [hta.cells] at h0
      simp only [Ty.size] at hlen
      obtain ⟨xa, w1, e1⟩ := (iha hf.1).1 n f.type _ x0 hta h0 fun hs v hv => hled (by simp [Ty.hasSl, hs]) v (List.mem_of_mem_drop (List.mem_of_mem_take hv))
      obtain ⟨xb, w2, e2⟩ := (ihb hf.2).2 n r (f.offset + a.size) cs xs hfb (by simpa using hl) (fun i g hi => hx (i + 1) g (by simpa using hi)) (by omega) fun hs => hled (by simp [Ty.hasSl, hs])
      refine ⟨(xa, xb), ⟨w1, w2⟩, (cs.drop f.offset).take a.size, cs.drop (f.offset + a.size), ?_, e1, e2⟩
      rw [← List.drop_drop]
      exact (List.take_append_drop _ _).symm

theorem led_cell {r : Reach} {base : Nat} {u : TypeId} {v : Value} (h : Cell.okWide P W r base u v) : Led W v := by
  rintro a len cap rfl
  have h2 : Cell.ok P W r base u (.slice (some a) len cap) := by
    unfold Cell.okWide at h
    split at h <;> first | exact h | (rename_i hh; cases hh) | skip
    all_goals first | exact h | contradiction
  unfold Cell.ok at h2
  split at h2 <;> first | (exact h2.elim) | skip
  all_goals first | contradiction | skip
  · rename_i e he hv
    cases hv
  rename_i e he hv
  simp only [Value.slice.injEq, Option.some.injEq] at hv
  obtain ⟨rfl, rfl, rfl⟩ := hv
  have h3 := h2.2.2
  unfold World.has at h3
  obtain ⟨_, hs, row, cells, hsh, _⟩ := h3
  refine ⟨hs, ?_⟩
  unfold World.shape? at hsh
  split at hsh
  · rename_i hh; exact heap_lt hh
  · cases hsh

theorem trod_venc {τ : Ty} {t : TypeId} {v : Value} {d : DataW H} {ps : List MemPlace} {r : Reach} {base : Nat} (hf : τ.flat = true) (ht : TyOk P τ t) (hv : Value.okWide P W r base t v)
    (h : DataW.Trod enc P W 0 (fun _ => true) true t v d ps) : ∃ x : τ.den, Wf τ x ∧ VEnc W (fun _ => False) τ x v := by
  obtain ⟨n, h⟩ := h
  cases hag : τ.agg with
  | true =>
    have hs : (∃ fs, P.underlying t = some (.struct fs)) ∨ (∃ m e, P.underlying t = some (.array m e)) := by
      cases τ <;> simp [Ty.agg] at hag
      · obtain ⟨te, hu, _⟩ := ht.arr; exact .inr ⟨_, _, hu⟩
      · obtain ⟨fs, hu, _⟩ := ht.st; exact .inl ⟨_, hu⟩
    have hv' : ∃ cs, v = .agg cs ∧ cs.size = P.cellsOf t ∧ Row.okWide P W r base t cs := by
      unfold Value.okWide at hv
      rcases hs with ⟨fs, hu⟩ | ⟨m, e, hu⟩ <;> rw [hu] at hv <;> exact hv
    obtain ⟨cs, rfl, _, ts, _, _, hrow⟩ := hv'
    obtain ⟨x, w, e⟩ := (trod_enc hf).1 n t cs.toList _ ht (by simpa [Value.cells] using h) fun _ v hv => by
      obtain ⟨i, hi⟩ := List.mem_iff_getElem?.1 hv
      obtain ⟨u, _, hu⟩ := hrow i v (by simpa using hi)
      exact led_cell hu
    refine ⟨x, w, ?_⟩
    unfold VEnc
    rw [hag]
    exact ⟨cs, rfl, e⟩
  | false =>
    have hv' : Cell.okWide P W r base t v := by
      unfold Value.okWide at hv
      cases τ <;> simp [Ty.agg] at hag
      case bool => rw [ht.bool] at hv; exact hv
      case int => rw [ht.int] at hv; exact hv
      case str => rw [ht.str] at hv; exact hv
      case sl => obtain ⟨te, hu, _⟩ := ht.sl; rw [hu] at hv; exact hv
      case own => exact ht.not_own.elim
      case unit => exact ht.not_unit.elim
      case pair => exact ht.not_pair.elim
    have hne : ∀ cs, v ≠ .agg cs := by
      rintro cs rfl
      unfold Cell.okWide at hv'
      split at hv' <;> first | contradiction | skip
      unfold Cell.ok at hv'
      split at hv' <;> first | contradiction | exact hv'
    have hc : v.cells.toList = [v] := by cases v <;> first | rfl | exact absurd rfl (hne _)
    rw [hc] at h
    obtain ⟨x, w, e⟩ := (trod_enc hf).1 n t [v] _ ht h fun _ u hu => by
      rw [List.mem_singleton] at hu
      subst hu
      exact led_cell hv'
    refine ⟨x, w, ?_⟩
    unfold VEnc
    rw [hag]
    exact e

/-- The types of the parameters. -/
def tysOk (P : Program) : List Ty → List TypeId → Prop
  | [], [] => True
  | τ :: l, t :: ts => TyOk P τ t ∧ τ.flat = true ∧ tysOk P l ts
  | _, _ => False

theorem open_args : ∀ {l : List Ty} {ts : List TypeId} {vs : List Value} {ds : List (DataW H)} {ps : List MemPlace} {r : Reach} {base : Nat}, tysOk P l ts → DataW.TrodAll enc P W 0 (fun _ => true) true ts vs ds ps →
    (∀ (j : Nat) t v, ts[j]? = some t → vs[j]? = some v → Value.okWide P W r base t v) → ∃ x : (tup l).den, WfL l x ∧ ArgsOk W (fun _ => False) l x vs
  | [], [], vs, ds, ps, r, base, _, h, _ => by
    obtain ⟨rfl, _, _⟩ := ChangeShapes.trodAll_nil h
    exact ⟨(), trivial, rfl⟩
  | [], _ :: _, _, _, _, _, _, h, _, _ => h.elim
  | _ :: _, [], _, _, _, _, _, h, _, _ => by cases h
  | [τ], [t], vs, ds, ps, r, base, ht, h, hv => by
    obtain ⟨v, vs', d, ds', p, q, rfl, rfl, rfl, h1, h2⟩ := ChangeShapes.trodAll_cons h
    obtain ⟨rfl, rfl, rfl⟩ := ChangeShapes.trodAll_nil h2
    obtain ⟨x, w, e⟩ := trod_venc ht.2.1 ht.1 (hv 0 t v rfl rfl) h1
    exact ⟨x, w, v, rfl, e⟩
  | [τ], _ :: _ :: _, _, _, _, _, _, ht, _, _ => ht.2.2.elim
  | τ :: b :: l, t :: ts, vs, ds, ps, r, base, ht, h, hv => by
    obtain ⟨v, vs', d, ds', p, q, rfl, rfl, rfl, h1, h2⟩ := ChangeShapes.trodAll_cons h
    obtain ⟨x, w, e⟩ := trod_venc ht.2.1 ht.1 (hv 0 t v rfl rfl) h1
    obtain ⟨y, w', e'⟩ := open_args (l := b :: l) ht.2.2 h2 fun j u z hj hz => hv (j + 1) u z (by simpa using hj) (by simpa using hz)
    exact ⟨(x, y), ⟨w, w'⟩, v, vs', rfl, e, e'⟩

end
end Go.Proofs.Ytacmfiddaklkiab.Lift
