/- 'Lift': binary operations. -/
import Derived.Test.YtacmfiddaklkiabLOp1
namespace Go.Proofs.Ytacmfiddaklkiab.Lift
open Go Go.RowKit

section
variable {P : Program} {S : Nat → Prop} {w0 w : World} {ι : Inj} {T : Tab} {nm : Nat} {o : Oper} {a : Act} {N : Nat → Prop} {ρ : Type} {r : ρ}

theorem run_bin {op : BinOp} {t t' : TypeId} {x y : Operand} {z u v : Value} (hop : o.op = .binOp op t x y t') (hx : a.eval x = u) (hy : a.eval y = v)
    (hg : eqGuard op t x y u v = pure ()) (hb : (binOp op t u v).run P w = .ok z w) : (execOp a.eval o).run P w = .ok (.value z) w := by
  simp only [execOp, hop, hx, hy, hg]
  simp [hb]

theorem good_ii (I : Inv S w0 ι T w) {op : BinOp} {t t' : TypeId} {x y : Operand} {k k' k2 : IntKind} {m n q : Int} {K : Val → List (Nat × Option Entry) → Option ρ}
    (hop : o.op = .binOp op t x y t') (hx : a.eval x = .int k m) (hy : a.eval y = .int k' n) (h : K (.v false [.int k2 q]) [] = some r) (hb : (binOp op t (.int k m) (.int k' n)).run P w = .ok (.int k2 q) w) :
    Good P S w0 ι T w nm o a N K r :=
  good_value I h (run_bin hop hx hy (eqGuard_at_int ..) hb) (rel1 rfl) (by simp [namesOf, namesV])

theorem good_ib (I : Inv S w0 ι T w) {op : BinOp} {t t' : TypeId} {x y : Operand} {k k' : IntKind} {m n : Int} {q : Bool} {K : Val → List (Nat × Option Entry) → Option ρ}
    (hop : o.op = .binOp op t x y t') (hx : a.eval x = .int k m) (hy : a.eval y = .int k' n) (h : K (.v false [.bool q]) [] = some r) (hb : (binOp op t (.int k m) (.int k' n)).run P w = .ok (.bool q) w) :
    Good P S w0 ι T w nm o a N K r :=
  good_value I h (run_bin hop hx hy (eqGuard_at_int ..) hb) (rel1 rfl) (by simp [namesOf, namesV])

/-! ### Equality of typed values -/
def mkV (τ : Ty) (vs : List Value) : Value := if τ.agg then .agg vs.toArray else vs.getD 0 undef

theorem TyOk.agg {P : Program} {τ : Ty} {t : TypeId} (h : TyOk P τ t) : (isAgg t).run P w = .ok τ.agg w := by
  unfold isAgg
  cases τ with
  | bool => simp [run_underlying h.bool, Ty.agg]
  | int k => simp [run_underlying h.int, Ty.agg]
  | str => simp [run_underlying h.str, Ty.agg]
  | sl e => obtain ⟨te, hu, _⟩ := h.sl; simp [run_underlying hu, Ty.agg]
  | arr m e => obtain ⟨te, hu, _⟩ := h.arr; simp [run_underlying hu, Ty.agg]
  | st c => obtain ⟨fs, hu, _⟩ := h.st; simp [run_underlying hu, Ty.agg]
  | own e => exact h.not_own.elim
  | unit => exact h.not_unit.elim
  | pair a b => exact h.not_pair.elim

theorem TyOk.sizeOf {τ : Ty} {t : TypeId} (h : TyOk P τ t) : (sizeOf t).run P w = .ok τ.size w := by
  obtain ⟨i, hi⟩ := h.info
  simp [Go.sizeOf, typeInfo, hi.info, hi.size]

theorem split_take {α : Type} {L p q : List α} {m n : Nat} (e : L.take (m + n) = p ++ q) (hp : p.length = m) (hq : q.length = n) : p = L.take m ∧ q = (L.drop m).take n := by
  have h1 : (L.take (m + n)).take m = p := by rw [e, List.take_append_of_le_length (by omega), List.take_of_length_le (by omega)]
  have h2 : (L.take (m + n)).drop m = q := by rw [e, List.drop_append_of_le_length (by omega), List.drop_eq_nil_of_le (by omega), List.nil_append]
  rw [List.take_take, Nat.min_eq_left (by omega)] at h1
  rw [List.drop_take, Nat.add_sub_cancel_left] at h2
  exact ⟨h1.symm, h2.symm⟩

theorem list_extract {α : Type} (xs : Array α) (i j : Nat) : (xs.extract i j).toList = (xs.toList.drop i).take (j - i) := by
  rw [Array.toList_extract]

theorem run_part {τ : Ty} {t : TypeId} (h : TyOk P τ t) {A : Nat → Prop} {x : τ.den} {cs : Array Value} {off : Nat} (he : Enc w A τ x ((cs.toList.drop off).take τ.size)) :
    (part t cs off).run P w = .ok (mkV τ ((cs.toList.drop off).take τ.size)) w := by
  have hl := he.length
  unfold part mkV
  by_cases ha : τ.agg = true
  · simp [h.agg, ha, h.sizeOf]
    apply Array.ext'
    simp
  · have ha' : τ.agg = false := by simpa using ha
    have hs : τ.size = 1 := by cases τ <;> simp_all [Ty.agg, Ty.size] <;> first | exact h.not_unit.elim | exact h.not_pair.elim
    rw [hs] at hl ⊢
    simp [h.agg, ha']
    have hlt : off < cs.size := by
      simp at hl; omega
    have : cs[off]? = some cs[off] := Array.getElem?_eq_getElem hlt
    rw [this]
    simp

theorem bytes_beq (x y : ByteArray) : (x == y) = true ↔ x = y := by
  constructor
  · intro h
    cases x; cases y
    have := eq_of_beq (α := Array UInt8) h
    simp_all
  · rintro rfl
    show (x.data == x.data) = true
    simp

def AllRun {α : Type} (P : Program) (w : World) (g : α → Sem Bool) : List α → Bool → Prop
  | [], b => b = true
  | x :: l, b => ∃ c b', (g x).run P w = .ok c w ∧ AllRun P w g l b' ∧ b = (c && b')

theorem run_all {α : Type} {g : α → Sem Bool} : ∀ {l : List α} {b : Bool}, AllRun P w g l b →
    (forIn l ((none : Option Bool), ()) (fun x (_ : Option Bool × Unit) => (do
        let c ← g x
        if c = false then pure (ForInStep.done (some false, ())) else pure (ForInStep.yield (none, ())) : Sem (ForInStep (Option Bool × Unit)))) : Sem (Option Bool × Unit)).run P w = .ok (if b then (none, ()) else (some false, ())) w
  | [], b, h => by cases h; simp
  | x :: l, b, ⟨c, b', h1, h2, h3⟩ => by
    subst h3
    have := run_all h2
    cases c
    · simp [h1]
    · simp [h1]
      exact this

theorem run_fields {g : Field → Sem Bool} : ∀ {l : List Field} {b : Bool}, (∀ f ∈ l, (f.name == "_") = false) → AllRun P w g l b →
    (forIn l ((none : Option Bool), ()) (fun f (_ : Option Bool × Unit) => (if f.name = "_" then pure (ForInStep.yield (none, ())) else (do
        let c ← g f
        if c = false then pure (ForInStep.done (some false, ())) else pure (ForInStep.yield (none, ())) : Sem (ForInStep (Option Bool × Unit))))) : Sem (Option Bool × Unit)).run P w = .ok (if b then (none, ()) else (some false, ())) w
  | [], b, _, h => by cases h; simp
  | x :: l, b, hn, ⟨c, b', h1, h2, h3⟩ => by
    subst h3
    have h0 : ¬ x.name = "_" := by simpa using hn x (by simp)
    have := run_fields (fun f hf => hn f (by simp [hf])) h2
    cases c
    · simp [h0, h1]
    · simp [h0, h1]
      exact this

theorem Ty.decEq_iff (τ : Ty) (x y : τ.den) (b : Bool) (h : (b = true ↔ x = y)) : b = @decide (x = y) (τ.decEq x y) := by
  cases b
  · have : ¬ x = y := fun e => by have := h.2 e; cases this
    exact (@decide_eq_false _ (τ.decEq x y) this).symm
  · exact (@decide_eq_true _ (τ.decEq x y) (h.1 rfl)).symm

theorem Ty.deep_pos (τ : Ty) : 0 < τ.deep := by cases τ <;> simp [Ty.deep]

def EqV (P : Program) (w : World) (d : Nat) : Prop := ∀ (τ : Ty) (t : TypeId) (A : Nat → Prop) (x y : τ.den) (vs us : List Value), τ.cmp = true → τ.deep ≤ d → TyOk P τ t → Enc w A τ x vs → Enc w A τ y us →
  (Op.equalIn d t (mkV τ vs) (mkV τ us)).run P w = .ok (@decide (x = y) (τ.decEq x y)) w

theorem equal_fields {d : Nat} (hV : EqV P w d) : ∀ {τ : Ty} {fs : List Field} {off : Nat} {A : Nat → Prop} {x y : τ.den} {vs us : Array Value}, τ.cmp = true → τ.deep ≤ d → FldOk P τ fs off →
    Enc w A τ x ((vs.toList.drop off).take τ.size) → Enc w A τ y ((us.toList.drop off).take τ.size) →
      (∀ f ∈ fs, (f.name == "_") = false) ∧ AllRun P w (fun f => do Op.equalIn d f.type (← part f.type vs f.offset) (← part f.type us f.offset)) fs (@decide (x = y) (τ.decEq x y)) := by
  intro τ
  have one : ∀ (τ : Ty), (∀ a b, τ ≠ .pair a b) → ∀ {fs : List Field} {off : Nat} {A : Nat → Prop} {x y : τ.den} {vs us : Array Value}, τ.cmp = true → τ.deep ≤ d → FldOk P τ fs off →
    Enc w A τ x ((vs.toList.drop off).take τ.size) → Enc w A τ y ((us.toList.drop off).take τ.size) →
      (∀ f ∈ fs, (f.name == "_") = false) ∧ AllRun P w (fun f => do Op.equalIn d f.type (← part f.type vs f.offset) (← part f.type us f.offset)) fs (@decide (x = y) (τ.decEq x y)) := by
    intro τ hτ fs off A x y vs us hc hd hf hx hy
    obtain ⟨n, h⟩ := hf
    cases n with
    | zero => simp [tyChk] at h
    | succ n =>
      match fs, h with
      | [], h => cases τ <;> simp [tyChk] at h
      | [f], h =>
        have h' : (Nat.beq f.offset off && !(f.name == "_") && tyChk P n τ (.inl f.type)) = true := by
          cases τ <;> first | exact h | exact absurd rfl (hτ _ _)
        simp only [Bool.and_eq_true, Bool.not_eq_true'] at h'
        obtain ⟨⟨h1, h2⟩, h3⟩ := h'
        have h1' := Nat.eq_of_beq_eq_true h1
        have ht : TyOk P τ f.type := ⟨n, h3⟩
        refine ⟨by intro g hg; cases List.mem_singleton.1 hg; exact h2, _, true, ?_, rfl, (Bool.and_true _).symm⟩
        have p1 := run_part (w := w) ht (cs := vs) (off := off) hx
        have p2 := run_part (w := w) ht (cs := us) (off := off) hy
        simp only [h1', Sem.run_bind, p1, p2, Result.andThen_ok]
        exact hV _ _ _ _ _ _ _ hc hd ht hx hy
      | f :: g :: q, h => cases τ <;> first | (simp [tyChk] at h; done) | exact absurd rfl (hτ _ _)
  induction τ with
  | pair a b _ ihb =>
    intro fs off A x y vs us hc hd hf hx hy
    obtain ⟨n, h⟩ := hf
    simp only [Ty.cmp, Bool.and_eq_true] at hc
    simp only [Ty.deep] at hd
    cases n with
    | zero => simp [tyChk] at h
    | succ n =>
      match fs, h with
      | [], h => simp [tyChk] at h
      | f :: fs, h =>
        simp only [tyChk, Bool.and_eq_true, Bool.not_eq_true'] at h
        obtain ⟨⟨⟨h1, h2⟩, h3⟩, h4⟩ := h
        have h1' := Nat.eq_of_beq_eq_true h1
        have ht : TyOk P a f.type := ⟨n, h3⟩
        have cutA : ∀ {x : (Ty.pair a b).den} {vs : Array Value}, Enc w A (.pair a b) x ((vs.toList.drop off).take (Ty.pair a b).size) →
            Enc w A a x.1 ((vs.toList.drop off).take a.size) ∧ Enc w A b x.2 ((vs.toList.drop (off + a.size)).take b.size) := by
          intro x vs hx
          obtain ⟨p, q, e, ea, eb⟩ := hx
          have la := ea.length
          have lb := eb.length
          obtain ⟨rfl, rfl⟩ := split_take e la lb
          exact ⟨ea, by rw [← List.drop_drop]; exact eb⟩
        obtain ⟨xa, xb⟩ := cutA hx
        obtain ⟨ya, yb⟩ := cutA hy
        obtain ⟨k1, k2⟩ := ihb hc.2 (by omega) ⟨n, h4⟩ xb yb
        refine ⟨by intro g hg; rcases List.mem_cons.1 hg with rfl | hg; exact h2; exact k1 g hg, @decide (x.1 = y.1) (a.decEq x.1 y.1), _, ?_, k2, ?_⟩
        · have p1 := run_part (w := w) ht (cs := vs) (off := off) xa
          have p2 := run_part (w := w) ht (cs := us) (off := off) ya
          simp only [h1', Sem.run_bind, p1, p2, Result.andThen_ok]
          exact hV _ _ _ _ _ _ _ hc.1 (by omega) ht xa ya
        · symm
          refine Ty.decEq_iff (.pair a b) x y _ ?_
          have ea : (@decide (x.1 = y.1) (a.decEq x.1 y.1)) = true ↔ x.1 = y.1 := @decide_eq_true_iff _ (a.decEq x.1 y.1)
          have eb : (@decide (x.2 = y.2) (b.decEq x.2 y.2)) = true ↔ x.2 = y.2 := @decide_eq_true_iff _ (b.decEq x.2 y.2)
          rw [Bool.and_eq_true, ea, eb]
          exact Prod.ext_iff.symm
  | bool => exact fun hc hd hf hx hy => one .bool (by simp) hc hd hf hx hy
  | int k => exact fun hc hd hf hx hy => one (.int k) (by simp) hc hd hf hx hy
  | str => exact fun hc hd hf hx hy => one .str (by simp) hc hd hf hx hy
  | sl e _ => exact fun hc hd hf hx hy => one (.sl e) (by simp) hc hd hf hx hy
  | own e _ => exact fun hc hd hf hx hy => one (.own e) (by simp) hc hd hf hx hy
  | arr m e _ => exact fun hc hd hf hx hy => one (.arr m e) (by simp) hc hd hf hx hy
  | st t _ => exact fun hc hd hf hx hy => one (.st t) (by simp) hc hd hf hx hy
  | unit => exact fun hc hd hf hx hy => one .unit (by simp) hc hd hf hx hy

theorem mkV_one {τ : Ty} (h : τ.agg = false) (v : Value) : mkV τ [v] = v := by simp [mkV, h]
theorem mkV_agg {τ : Ty} (h : τ.agg = true) (vs : List Value) : mkV τ vs = .agg vs.toArray := by simp [mkV, h]

theorem arr_run {e : Ty} {A : Nat → Prop} {d : Nat} (hV : EqV P w d) {te : TypeId} (hc : e.cmp = true) (hd : e.deep ≤ d) (ht : TyOk P e te) (vs us : Array Value) :
    ∀ (m s : Nat) (x y : List e.den), x.length = m → y.length = m → (∀ i z, x[i]? = some z → Enc w A e z ((vs.toList.drop ((s + i) * e.size)).take e.size)) →
      (∀ i z, y[i]? = some z → Enc w A e z ((us.toList.drop ((s + i) * e.size)).take e.size)) →
      AllRun P w (fun i => do Op.equalIn d te (← part te vs (i * e.size)) (← part te us (i * e.size))) (List.range' s m) (@decide (x = y) ((Ty.sl e).decEq x y))
  | 0, s, x, y, hx, hy, _, _ => by
    cases List.eq_nil_of_length_eq_zero hx
    cases List.eq_nil_of_length_eq_zero hy
    exact @decide_eq_true _ ((Ty.sl e).decEq [] []) rfl
  | m + 1, s, x :: xs, y :: ys, hx, hy, hxs, hys => by
    rw [List.range'_succ]
    have x0 := hxs 0 x rfl
    have y0 := hys 0 y rfl
    rw [Nat.add_zero] at x0 y0
    refine ⟨@decide (x = y) (e.decEq x y), _, ?_, arr_run hV hc hd ht vs us m (s + 1) xs ys (by simpa using hx) (by simpa using hy) (fun i z hz => by
        have := hxs (i + 1) z (by simpa using hz); rwa [show s + (i + 1) = s + 1 + i by omega] at this) (fun i z hz => by
        have := hys (i + 1) z (by simpa using hz); rwa [show s + (i + 1) = s + 1 + i by omega] at this), ?_⟩
    · have p1 := run_part (w := w) ht (cs := vs) (off := s * e.size) x0
      have p2 := run_part (w := w) ht (cs := us) (off := s * e.size) y0
      simp only [Sem.run_bind, p1, p2, Result.andThen_ok]
      exact hV _ _ _ _ _ _ _ hc hd ht x0 y0
    · symm
      refine Ty.decEq_iff (.sl e) _ _ _ ?_
      have ea : (@decide (x = y) (e.decEq x y)) = true ↔ x = y := @decide_eq_true_iff _ (e.decEq x y)
      have eb : (@decide (xs = ys) ((Ty.sl e).decEq xs ys)) = true ↔ xs = ys := @decide_eq_true_iff _ ((Ty.sl e).decEq xs ys)
      rw [Bool.and_eq_true, ea, eb]
      constructor
      · rintro ⟨rfl, rfl⟩; rfl
      · intro h; injection h with h1 h2; exact ⟨h1, h2⟩

theorem eqV : ∀ d, EqV P w d
  | 0 => by
    intro τ t A x y vs us _ hd
    have := τ.deep_pos
    omega
  | d + 1 => by
    have hV := eqV d
    intro τ t A x y vs us hc hd ht hx hy
    cases τ with
    | bool =>
      simp only [Enc] at hx hy
      subst hx; subst hy
      rw [mkV_one rfl, mkV_one rfl]
      simp [Op.equalIn, run_underlying ht.bool]
      exact Ty.decEq_iff .bool x y _ (by simp)
    | int k =>
      simp only [Enc] at hx hy
      subst hx; subst hy
      rw [mkV_one rfl, mkV_one rfl]
      simp [Op.equalIn, run_underlying ht.int]
      exact Ty.decEq_iff (.int k) x y _ (by simp)
    | str =>
      simp only [Enc] at hx hy
      subst hx; subst hy
      rw [mkV_one rfl, mkV_one rfl]
      simp [Op.equalIn, run_underlying ht.str]
      exact Ty.decEq_iff .str x y _ (bytes_beq x y)
    | sl e => simp [Ty.cmp] at hc
    | own e => simp [Ty.cmp] at hc
    | unit => exact ht.not_unit.elim
    | pair a b => exact ht.not_pair.elim
    | st c =>
      obtain ⟨fs, hu, hf⟩ := ht.st
      obtain ⟨i, hi⟩ := ht.info
      have lx := hx.length
      have ly := hy.length
      have hd' : c.deep ≤ d := by simp only [Ty.deep] at hd; omega
      obtain ⟨hn, hr⟩ := equal_fields hV (τ := c) (fs := fs.toList) (off := 0) (A := A) (x := x) (y := y) (vs := vs.toArray) (us := us.toArray) hc hd' hf
        (by simp only [List.drop_zero]; rw [List.take_of_length_le (by simp only [Ty.size] at lx; simp [lx])]; exact hx)
        (by simp only [List.drop_zero]; rw [List.take_of_length_le (by simp only [Ty.size] at ly; simp [ly])]; exact hy)
      rw [mkV_agg rfl, mkV_agg rfl]
      obtain ⟨b, hb, hr⟩ : ∃ b, (b = true ↔ x = y) ∧ AllRun P w _ fs.toList b := ⟨_, @decide_eq_true_iff _ (c.decEq x y), hr⟩
      have hall := run_fields hn hr
      simp only [bind_assoc] at hall
      rw [← Ty.decEq_iff (.st c) x y b hb]
      simp [Op.equalIn, run_underlying hu, hi.held]
      rw [← Array.forIn_toList, hall]
      cases b <;> rfl
    | arr m e =>
      obtain ⟨te, hu, hte⟩ := ht.arr
      simp only [Enc] at hx hy
      have hd' : e.deep ≤ d := by simp only [Ty.deep] at hd; omega
      have hr := arr_run hV (by simpa [Ty.cmp] using hc) hd' hte vs.toArray us.toArray m 0 x y hx.1 hy.1 (by simpa using hx.2.2) (by simpa using hy.2.2)
      obtain ⟨b, hb, hr⟩ : ∃ b, (b = true ↔ x = y) ∧ AllRun P w _ (List.range' 0 m) b := ⟨_, @decide_eq_true_iff _ ((Ty.sl e).decEq x y), hr⟩
      have hall := run_all hr
      simp only [bind_assoc] at hall
      rw [mkV_agg rfl, mkV_agg rfl, ← Ty.decEq_iff (.arr m e) x y b hb]
      simp [Op.equalIn, run_underlying hu, hte.sizeOf]
      rw [hall]
      cases b <;> rfl

/-- A comparison of two structs or arrays. -/
theorem run_eq {τ : Ty} {t t' : TypeId} {A : Nat → Prop} {x y : τ.den} {vs us : Array Value} {p q : Operand} (ha : τ.agg = true) (hc : τ.cmp = true) (hd : τ.deep ≤ 1000) (ht : TyOk P τ t)
    (hx : Enc w A τ x vs.toList) (hy : Enc w A τ y us.toList) (hp : a.eval p = .agg vs) (hq : a.eval q = .agg us) {neg : Bool} (hop : o.op = .binOp (if neg then .neq else .eql) t p q t') :
    (execOp a.eval o).run P w = .ok (.value (.bool (if neg then !@decide (x = y) (τ.decEq x y) else @decide (x = y) (τ.decEq x y)))) w := by
  obtain ⟨i, hi⟩ := ht.info
  have h := eqV (P := P) (w := w) 10000 τ t A x y vs.toList us.toList hc (by omega) ht hx hy
  rw [mkV_agg ha, mkV_agg ha] at h
  simp only [Array.toArray_toList] at h
  cases neg
  · have hg : (eqGuard .eql t p q (.agg vs) (.agg us)).run P w = .ok () w := by simp [eqGuard, hi.guard]
    have hb : (binOp .eql t (.agg vs) (.agg us)).run P w = .ok (.bool (@decide (x = y) (τ.decEq x y))) w := by
      simp only [binOp, Op.equal, Op.maxDepth]
      simp [h]
    simp only [execOp, hop, hp, hq]
    simp [hg, hb]
  · have hg : (eqGuard .neq t p q (.agg vs) (.agg us)).run P w = .ok () w := by simp [eqGuard, hi.guard]
    have hb : (binOp .neq t (.agg vs) (.agg us)).run P w = .ok (.bool (!@decide (x = y) (τ.decEq x y))) w := by
      simp only [binOp, Op.equal, Op.maxDepth]
      simp [h]
    simp only [execOp, hop, hp, hq]
    simp [hg, hb]

end
end Go.Proofs.Ytacmfiddaklkiab.Lift
