/- 'Lift': a region whose order Go leaves open. -/
import Derived.Test.YtacmfiddaklkiabLReg
set_option linter.unusedVariables false
set_option linter.unusedSimpArgs false
namespace Go.Proofs.Ytacmfiddaklkiab.Lift
open Go Go.RowKit

/-- What one operation did: whether it ran, its value, what it wrote. -/
structure Stp where
  ex : Bool
  v : Val
  u : List (Nat × Option Entry)

/-- The operation does or does not run. -/
def runs (all : List Oper) (τ : Nat → Val) (o : Oper) : Option Bool :=
  match o.guard with
  | none => some true
  | some (g, want) => match dstOf all g with
    | none => none
    | some t => match τ t with
      | .v false [.bool b] => some (b == want)
      | .v false [.skp] => some false
      | _ => none

def dstAt (ops : Array Oper) (k : Nat) : Option Nat := (ops[k]?).bind (·.dst)
def looksAt (ops : Array Oper) (k : Nat) : List Nat := match ops[k]? with | some o => looksOf ops.toList o | none => []

/-- The state in which the operations of D have been done, in the order of the text. -/
def after (dst : Nat → Option Nat) (tr : Nat → Stp) (τ0 : Nat → Val) (T0 : Tab) (D : Nat → Bool) : Nat → (Nat → Val) × Tab
  | 0 => (τ0, T0)
  | k + 1 => match D k with
    | true => (putF (after dst tr τ0 T0 D k).1 (dst k) (tr k).v, upd (after dst tr τ0 T0 D k).2 (tr k).u)
    | false => after dst tr τ0 T0 D k

def keysOf (s : Stp) : List Nat := s.u.map (·.1)

section
variable {dst : Nat → Option Nat} {tr tr' : Nat → Stp} {τ0 : Nat → Val} {T0 : Tab} {D D' : Nat → Bool}

theorem upd_key {T : Tab} {u : List (Nat × Option Entry)} {n : Nat} (h : n ∉ u.map (·.1)) : upd T u n = T n := by
  have : lk u n = none := by
    cases hl : lk u n with
    | none => rfl
    | some p => exact absurd (List.mem_map.2 ⟨_, lk_of_mem hl, rfl⟩) h
  simp only [upd, this]

theorem upd_at {T T' : Tab} {u : List (Nat × Option Entry)} {n : Nat} (h : n ∈ u.map (·.1)) : upd T u n = upd T' u n := by
  obtain ⟨p, hp⟩ := lk_isSome h
  simp only [upd, hp]
  cases p <;> rfl

theorem agree_tmp {t : Nat} : ∀ k, (∀ j, j < k → dst j = some t → D j = D' j) → (after dst tr τ0 T0 D k).1 t = (after dst tr τ0 T0 D' k).1 t
  | 0, _ => rfl
  | k + 1, h => by
    have ih := agree_tmp k fun j hj hd => h j (by omega) hd
    by_cases hd : dst k = some t
    · have hk := h k (by omega) hd
      simp only [after]
      rw [hk]
      cases D' k
      · exact ih
      · simp [putF, hd]
    · have one : ∀ E : Nat → Bool, (after dst tr τ0 T0 E (k + 1)).1 t = (after dst tr τ0 T0 E k).1 t := fun E => by
        simp only [after]
        cases E k
        · rfl
        · simp [putF, hd]
      rw [one, one, ih]

theorem agree_ent {n : Nat} : ∀ k, (∀ j, j < k → n ∈ keysOf (tr j) → D j = D' j) → (after dst tr τ0 T0 D k).2 n = (after dst tr τ0 T0 D' k).2 n
  | 0, _ => rfl
  | k + 1, h => by
    have ih := agree_ent k fun j hj hd => h j (by omega) hd
    by_cases hd : n ∈ keysOf (tr k)
    · have hk := h k (by omega) hd
      simp only [after]
      rw [hk]
      cases D' k
      · exact ih
      · exact upd_at hd
    · have one : ∀ E : Nat → Bool, (after dst tr τ0 T0 E (k + 1)).2 n = (after dst tr τ0 T0 E k).2 n := fun E => by
        simp only [after]
        cases E k
        · rfl
        · exact upd_key hd
      rw [one, one, ih]

theorem after_congr : ∀ k, (∀ j, j < k → tr j = tr' j) → after dst tr τ0 T0 D k = after dst tr' τ0 T0 D k
  | 0, _ => rfl
  | k + 1, h => by
    simp only [after]
    rw [after_congr k fun j hj => h j (by omega), h k (by omega)]

/-- The last that sets a temporary. -/
theorem last_tmp {i t : Nat} (hi : D i = true) (hd : dst i = some t) : ∀ k, i < k → (∀ j, i < j → j < k → dst j = some t → D j = false) → (after dst tr τ0 T0 D k).1 t = (tr i).v
  | 0, h, _ => by omega
  | k + 1, h, hl => by
    by_cases hik : i = k
    · subst hik
      simp only [after, hi]
      simp [putF, hd]
    · have ih := last_tmp hi hd k (by omega) fun j h1 h2 => hl j h1 (by omega)
      by_cases hdk : dst k = some t
      · have := hl k (by omega) (by omega) hdk
        simp only [after, this]
        exact ih
      · simp only [after]
        cases D k
        · exact ih
        · simp only [putF, hdk]; exact ih

theorem last_ent {i n : Nat} {T : Tab} (hi : D i = true) (hd : n ∈ keysOf (tr i)) : ∀ k, i < k → (∀ j, i < j → j < k → n ∈ keysOf (tr j) → D j = false) → (after dst tr τ0 T0 D k).2 n = upd T (tr i).u n
  | 0, h, _ => by omega
  | k + 1, h, hl => by
    by_cases hik : i = k
    · subst hik
      simp only [after, hi]
      exact upd_at hd
    · have ih := last_ent (T := T) hi hd k (by omega) fun j h1 h2 => hl j h1 (by omega)
      by_cases hdk : n ∈ keysOf (tr k)
      · have := hl k (by omega) (by omega) hdk
        simp only [after, this]
        exact ih
      · simp only [after]
        cases D k
        · exact ih
        · show upd (after dst tr τ0 T0 D k).2 (tr k).u n = _
          rw [upd_key hdk]; exact ih

/-- Two operations that do not touch each other. rd: what is looked at among the entries. -/
structure Indep (ops : Array Oper) (tr : Nat → Stp) (rd : Nat → List Nat) (j i : Nat) : Prop where
  look : ∀ t, dstAt ops j = some t → t ∉ looksAt ops i
  look' : ∀ t, dstAt ops i = some t → t ∉ looksAt ops j
  dst : ∀ t, dstAt ops j = some t → dstAt ops i ≠ some t
  rdn : ∀ n ∈ keysOf (tr j), n ∉ rd i
  rdn' : ∀ n ∈ keysOf (tr i), n ∉ rd j
  wr : ∀ n ∈ keysOf (tr j), n ∉ keysOf (tr i)

/-- Done sets keep to the edges. -/
def Closed (ops : Array Oper) (D : Nat → Bool) : Prop := ∀ i o, D i = true → ops[i]? = some o → ∀ e ∈ o.after, Region.binds .any e = true → D e.on = true

def Ready (ops : Array Oper) (D : Nat → Bool) (i : Nat) : Prop := ∃ o, ops[i]? = some o ∧ ∀ e ∈ o.after, Region.binds .any e = true → D e.on = true

def Before (ops : Array Oper) (j i : Nat) : Prop := ∀ D, Closed ops D → Ready ops D i → D j = true

def rdAt (ops : Array Oper) (τ0 : Nat → Val) (T0 : Tab) (tr : Nat → Stp) (i : Nat) : List Nat :=
  match ops[i]? with
  | some o => match (tr i).ex with
    | true => namesL (o.op.operands.toList.map (evF (after (dstAt ops) tr τ0 T0 (fun _ => true) i).1))
    | false => []
  | none => []

structure TraceOk (E : Env) (ops : Array Oper) (base : Nat) (τ0 : Nat → Val) (T0 : Tab) (tr : Nat → Stp) (k : Nat) : Prop where
  run : ∀ i, i < k → ∀ o, ops[i]? = some o → runs ops.toList (after (dstAt ops) tr τ0 T0 (fun _ => true) i).1 o = some (tr i).ex ∧
    (if (tr i).ex then opK E (after (dstAt ops) tr τ0 T0 (fun _ => true) i).2 (base + 16 * i) (evF (after (dstAt ops) tr τ0 T0 (fun _ => true) i).1) o.op (fun v u => some (v, u)) = some ((tr i).v, (tr i).u)
     else (tr i).v = .v false [.skp] ∧ (tr i).u = [])
  ord : ∀ i, i < k → ∀ j, j < i → Indep ops tr (rdAt ops τ0 T0 tr) j i ∨ Before ops j i

end

section
variable {P : Program} {S : Nat → Prop} {w0 w : World} {ι : Inj} {a : Act} {N : Nat → Prop} {E : Env} {ops : Array Oper} {base n : Nat} {τ0 : Nat → Val} {T0 : Tab} {tr : Nat → Stp}

/-- The names in use when D is done. -/
def NamesD (N : Nat → Prop) (base : Nat) (D : Nat → Bool) : Nat → Prop := fun m => N m ∨ ∃ j, D j = true ∧ In16 (base + 16 * j) m

def StD (ops : Array Oper) (tr : Nat → Stp) (τ0 : Nat → Val) (T0 : Tab) (D : Nat → Bool) : (Nat → Val) × Tab := after (dstAt ops) tr τ0 T0 D ops.size

theorem full_lt (i k : Nat) (h : i ≤ k) : after (dstAt ops) tr τ0 T0 (fun j => Nat.blt j i) k = after (dstAt ops) tr τ0 T0 (fun _ => true) i := by
  induction k with
  | zero => have : i = 0 := by omega
            subst this; rfl
  | succ k ih =>
    by_cases hk : i = k + 1
    · subst hk
      have : ∀ m, m ≤ k + 1 → after (dstAt ops) tr τ0 T0 (fun j => Nat.blt j (k + 1)) m = after (dstAt ops) tr τ0 T0 (fun _ => true) m := by
        intro m
        induction m with
        | zero => intro _; rfl
        | succ m ihm =>
          intro hm
          have hb : Nat.blt m (k + 1) = true := by simp [Nat.blt]; omega
          simp only [after, hb, ihm (by omega)]
      exact this _ (Nat.le_refl _)
    · have hb : Nat.blt k i = false := by cases h : Nat.blt k i; rfl; simp [Nat.blt] at h; omega
      rw [after]
      simp only [hb]
      exact ih (by omega)

theorem blt_iff {j i : Nat} : (Nat.blt j i = true) ↔ j < i := by simp [Nat.blt]; omega

/-- Which of those that touch i are in D: those before it in the text. -/
theorem touched (hT : TraceOk E ops base τ0 T0 tr ops.size) {D : Nat → Bool} (hc : Closed ops D) {i : Nat} (hi : i < ops.size) (hD : D i = false) (hr : Ready ops D i) {j : Nat} (hj : j < ops.size)
    (h1 : j < i → ¬ Indep ops tr (rdAt ops τ0 T0 tr) j i) (h2 : i < j → ¬ Indep ops tr (rdAt ops τ0 T0 tr) i j) : D j = Nat.blt j i := by
  rcases Nat.lt_trichotomy j i with h | h | h
  · rw [blt_iff.2 h]
    rcases hT.ord i hi j h with k | k
    · exact absurd k (h1 h)
    · exact k D hc hr
  · subst h
    rw [hD]; cases hb : Nat.blt j j
    · rfl
    · have := blt_iff.1 hb; omega
  · have hb : Nat.blt j i = false := by cases hb : Nat.blt j i; rfl; have := blt_iff.1 hb; omega
    rw [hb]
    rcases hT.ord j hj i h with k | k
    · exact absurd k (h2 h)
    · cases hDj : D j with
      | false => rfl
      | true =>
        have hoj : ∃ o, ops[j]? = some o := ⟨ops[j], Array.getElem?_eq_getElem hj⟩
        obtain ⟨o, ho⟩ := hoj
        have := k D hc ⟨o, ho, hc j o hDj ho⟩
        rw [hD] at this; cases this

theorem same_tmp (hT : TraceOk E ops base τ0 T0 tr ops.size) {D : Nat → Bool} (hc : Closed ops D) {i : Nat} (hi : i < ops.size) (hD : D i = false) (hr : Ready ops D i) {t : Nat} (ht : t ∈ looksAt ops i) :
    (StD ops tr τ0 T0 D).1 t = (after (dstAt ops) tr τ0 T0 (fun _ => true) i).1 t := by
  rw [← full_lt i ops.size (by omega)]
  refine agree_tmp ops.size fun j hj hd => touched hT hc hi hD hr hj (fun _ k => k.look t hd ht) (fun _ k => k.look' t hd ht)

theorem same_ent (hT : TraceOk E ops base τ0 T0 tr ops.size) {D : Nat → Bool} (hc : Closed ops D) {i : Nat} (hi : i < ops.size) (hD : D i = false) (hr : Ready ops D i) {m : Nat} (hm : m ∈ rdAt ops τ0 T0 tr i) :
    (StD ops tr τ0 T0 D).2 m = (after (dstAt ops) tr τ0 T0 (fun _ => true) i).2 m := by
  rw [← full_lt i ops.size (by omega)]
  refine agree_ent ops.size fun j hj hd => touched hT hc hi hD hr hj (fun _ k => k.rdn m hd hm) (fun _ k => k.rdn' m hd hm)

def addD (D : Nat → Bool) (i : Nat) : Nat → Bool := fun j => if j = i then true else D j

theorem step_tmp (hT : TraceOk E ops base τ0 T0 tr ops.size) {D : Nat → Bool} (hc : Closed ops D) {i : Nat} (hi : i < ops.size) (hD : D i = false) (hr : Ready ops D i) :
    (StD ops tr τ0 T0 (addD D i)).1 = putF (StD ops tr τ0 T0 D).1 (dstAt ops i) (tr i).v := by
  funext t
  unfold putF
  split
  · rename_i hd
    refine last_tmp (by simp [addD]) hd ops.size hi fun j hij hj hdj => ?_
    have : addD D i j = D j := if_neg (by omega)
    rw [this, touched hT hc hi hD hr hj (fun h => by omega) (fun _ k => k.dst t hd hdj)]
    cases hb : Nat.blt j i
    · rfl
    · have := blt_iff.1 hb; omega
  · rename_i hd
    refine agree_tmp ops.size fun j hj hdj => if_neg fun h => ?_
    subst h; exact hd hdj

theorem step_ent (hT : TraceOk E ops base τ0 T0 tr ops.size) {D : Nat → Bool} (hc : Closed ops D) {i : Nat} (hi : i < ops.size) (hD : D i = false) (hr : Ready ops D i) :
    (StD ops tr τ0 T0 (addD D i)).2 = upd (StD ops tr τ0 T0 D).2 (tr i).u := by
  funext m
  by_cases hd : m ∈ keysOf (tr i)
  · refine last_ent (by simp [addD]) hd ops.size hi fun j hij hj hdj => ?_
    have : addD D i j = D j := if_neg (by omega)
    rw [this, touched hT hc hi hD hr hj (fun h => by omega) (fun _ k => k.wr m hd hdj)]
    cases hb : Nat.blt j i
    · rfl
    · have := blt_iff.1 hb; omega
  · rw [upd_key hd]
    refine agree_ent ops.size fun j hj hdj => if_neg fun h => ?_
    subst h; exact hd hdj

theorem after_same {D D' : Nat → Bool} : ∀ k, (∀ j, j < k → D j = D' j) → after (dstAt ops) tr τ0 T0 D k = after (dstAt ops) tr τ0 T0 D' k
  | 0, _ => rfl
  | k + 1, h => by
    simp only [after]
    rw [after_same k fun j hj => h j (by omega), h k (by omega)]

theorem flagged {D : Nat → Bool} {m : Nat} {e : Entry} : ∀ k, (after (dstAt ops) tr τ0 T0 D k).2 m = some (true, e) → (∃ e', T0 m = some (true, e')) ∨ ∃ j, j < k ∧ D j = true ∧ m ∈ keysOf (tr j)
  | 0, h => .inl ⟨e, h⟩
  | k + 1, h => by
    simp only [after] at h
    cases hD : D k with
    | false =>
      rw [hD] at h
      rcases flagged k h with h | ⟨j, h1, h2, h3⟩
      · exact .inl h
      · exact .inr ⟨j, by omega, h2, h3⟩
    | true =>
      rw [hD] at h
      by_cases hm : m ∈ keysOf (tr k)
      · exact .inr ⟨k, by omega, hD, hm⟩
      · have h : upd (after (dstAt ops) tr τ0 T0 D k).2 (tr k).u m = some (true, e) := h
        rw [upd_key hm] at h
        rcases flagged k h with h | ⟨j, h1, h2, h3⟩
        · exact .inl h
        · exact .inr ⟨j, by omega, h2, h3⟩

theorem backward_spec : ∀ {l : List Oper} {i : Nat}, backward l i = true → ∀ (j : Nat) (o : Oper), l[j]? = some o → ∀ e ∈ o.after, Region.binds .any e = true → e.on < i + j
  | [], _, _, j, o, h, _, _, _ => by simp at h
  | q :: l, i, hb, j, o, h, e, he, hbind => by
    simp only [backward, Bool.and_eq_true, List.all_eq_true] at hb
    cases j with
    | zero =>
      simp at h; subst h
      have := hb.1 e (by simpa using he)
      rw [hbind] at this
      simp only [Bool.not_true, Bool.false_or] at this
      exact blt_iff.1 this
    | succ j =>
      have := backward_spec hb.2 j o (by simpa using h) e he hbind
      omega

theorem cnt_step {p q : Nat → Bool} {i : Nat} (hp : p i = true) (hq : q i = false) (h : ∀ j, j ≠ i → q j = p j) : ∀ n, (i < n → (List.range n).countP q + 1 = (List.range n).countP p) ∧ (¬ i < n → (List.range n).countP q = (List.range n).countP p)
  | 0 => ⟨fun h => by omega, fun _ => rfl⟩
  | n + 1 => by
    obtain ⟨h1, h2⟩ := cnt_step hp hq h n
    rw [List.range_succ, List.countP_append, List.countP_append]
    refine ⟨fun hi => ?_, fun hi => ?_⟩
    · by_cases hin : i = n
      · subst hin
        have := h2 (by omega)
        simp [List.countP_cons, hp, hq, this]
      · have := h1 (by omega)
        simp only [List.countP_cons, List.countP_nil, h n (fun e => hin e.symm)]
        omega
    · have := h2 (by omega)
      simp only [List.countP_cons, List.countP_nil, h n (by omega)]
      omega

theorem runs_yields {o : Oper} {τ : Nat → Val} {b : Bool} (h : runs ops.toList τ o = some b) (ht : ∀ t, RelV w (Av S ι) ι (τ t) (a.eval (.tmp t))) : Region.wanted o (yielded ops a.tmps) = b := by
  unfold runs at h
  split at h
  · rename_i hg; cases h; simp [Region.wanted, hg]
  · rename_i g want hg
    split at h
    · cases h
    rename_i t hd
    have hr := ht t
    split at h
    · rename_i c e
      rw [e] at hr
      have hy := yielded_bool hd (rel_bool hr)
      cases h
      cases c <;> cases want <;> simp [Region.wanted, hg, hy]
    · rename_i e
      rw [e] at hr
      have hy := yielded_skp hd (rel_skp hr)
      cases h
      simp [Region.wanted, hg, hy]
    · cases h

theorem runs_congr {o : Oper} {τ τ' : Nat → Val} (h : ∀ t ∈ looksOf ops.toList o, τ t = τ' t) : runs ops.toList τ o = runs ops.toList τ' o := by
  unfold runs
  split
  · rfl
  · rename_i g want hg
    split
    · rfl
    · rename_i t ht
      rw [h t (by simp [looksOf, hg, ht])]

theorem tmpsOf_mem : ∀ {l : List Operand} {t : Nat}, .tmp t ∈ l → t ∈ tmpsOf l
  | [], _, h => by cases h
  | x :: l, t, h => by
    rcases List.mem_cons.1 h with h | h
    · subst h; simp [tmpsOf]
    · have := tmpsOf_mem h
      cases x <;> simp [tmpsOf, this]

theorem looks_operands {o : Oper} {t : Nat} (h : .tmp t ∈ o.op.operands.toList) : t ∈ looksOf ops.toList o := by
  have := tmpsOf_mem h
  unfold looksOf
  split
  · split
    · exact List.mem_cons_of_mem _ this
    · exact this
  · exact this

theorem wpAny_trace (hE : EnvOk P E) (hT : TraceOk E ops base τ0 T0 tr ops.size) (hbelow : ∀ o ∈ ops.toList, ∀ t, o.dst = some t → t < n) (hback : backward ops.toList 0 = true) (hNb : ∀ m, N m → m < base) {KO : Nat → Prop}
    (hK0 : ∀ m e, T0 m = some (true, e) → KO m) (hK1 : ∀ m, base ≤ m → m < base + 16 * ops.size → KO m) {Q : Exit → Act → World → Prop} :
    ∀ (fuel : Nat) (listed : Array Bool) (a : Act) (w : World) (ι : Inj), Closed ops (fun j => listed.getD j false) → listed.size = ops.size → (List.range ops.size).countP (fun j => !listed.getD j false) ≤ fuel →
      (∀ j, listed.getD j false = true → ∀ m ∈ keysOf (tr j), KO m) →
      SimF S w0 (NamesD N base fun j => listed.getD j false) n (StD ops tr τ0 T0 fun j => listed.getD j false).1 (StD ops tr τ0 T0 fun j => listed.getD j false).2 a w ι →
      (∀ a' w' ι', SimF S w0 (fun m => N m ∨ (base ≤ m ∧ m < base + 16 * ops.size)) n (after (dstAt ops) tr τ0 T0 (fun _ => true) ops.size).1 (after (dstAt ops) tr τ0 T0 (fun _ => true) ops.size).2 a' w' ι' → Ev S base w ι w' ι' →
        (∀ j, j < ops.size → ∀ m ∈ keysOf (tr j), KO m) → Q .normal a' w') →
      wpAny P .any ops Q fuel listed a w := by
  have fin : ∀ (listed : Array Bool) (a : Act) (w : World) (ι : Inj), (∀ j, j < ops.size → listed.getD j false = true) → listed.size = ops.size → (∀ j, listed.getD j false = true → ∀ m ∈ keysOf (tr j), KO m) →
      SimF S w0 (NamesD N base fun j => listed.getD j false) n (StD ops tr τ0 T0 fun j => listed.getD j false).1 (StD ops tr τ0 T0 fun j => listed.getD j false).2 a w ι →
      (∀ a' w' ι', SimF S w0 (fun m => N m ∨ (base ≤ m ∧ m < base + 16 * ops.size)) n (after (dstAt ops) tr τ0 T0 (fun _ => true) ops.size).1 (after (dstAt ops) tr τ0 T0 (fun _ => true) ops.size).2 a' w' ι' → Ev S base w ι w' ι' →
        (∀ j, j < ops.size → ∀ m ∈ keysOf (tr j), KO m) → Q .normal a' w') → Q .normal a w := by
    intro listed a w ι hall hsz hkey hs hQ
    have e : StD ops tr τ0 T0 (fun j => listed.getD j false) = after (dstAt ops) tr τ0 T0 (fun _ => true) ops.size := after_same _ fun j hj => hall j hj
    rw [e] at hs
    refine hQ a w ι (hs.weaken fun m hm => ?_) Ev.refl fun j hj => hkey j (hall j hj)
    rcases hm with hm | ⟨j, hj, h1, h2⟩
    · exact .inl hm
    · have hjs : j < ops.size := by
        rcases Nat.lt_or_ge j ops.size with h | h
        · exact h
        · simp [Array.getD_eq_getD_getElem?, Array.getElem?_eq_none (show listed.size ≤ j by omega)] at hj
      exact .inr ⟨by omega, by omega⟩
  have hready : ∀ (listed : Array Bool), listed.size = ops.size → Region.ready .any ops listed = [] → ∀ j, j < ops.size → listed.getD j false = true := by
    intro listed hsz hr j
    induction j using Nat.strongRecOn with
    | _ j ih =>
      intro hj
      cases hD : listed.getD j false with
      | true => rfl
      | false =>
        exfalso
        have hoj : ops[j]? = some ops[j] := Array.getElem?_eq_getElem hj
        have hm : j ∈ Region.ready .any ops listed := mem_ready.2 ⟨by
          have : j < listed.size := by omega
          simp [Array.getD_eq_getD_getElem?, Array.getElem?_eq_getElem this] at hD ⊢
          exact hD, _, hoj, fun e he hb => by
            have hlt := backward_spec hback j ops[j] (by simp) e he hb
            exact ih e.on (by omega) (by omega)⟩
        rw [hr] at hm; cases hm
  intro fuel
  induction fuel with
  | zero =>
    intro listed a w ι hc hsz hcnt hkey hs hQ
    have hall : ∀ j, j < ops.size → listed.getD j false = true := fun j hj => by
      have h0 : (List.range ops.size).countP (fun j => !listed.getD j false) = 0 := by omega
      rw [List.countP_eq_zero] at h0
      have := h0 j (List.mem_range.2 hj)
      simpa using this
    refine ⟨?_, fin listed a w ι hall hsz hkey hs hQ⟩
    apply List.eq_nil_iff_forall_not_mem.2
    intro j hj
    obtain ⟨h1, o, ho, _⟩ := mem_ready.1 hj
    have hjs := (Array.getElem?_eq_some_iff.1 ho).1
    have := hall j hjs
    have hjl : j < listed.size := by omega
    simp [Array.getD_eq_getD_getElem?, Array.getElem?_eq_getElem hjl] at this h1
    rw [this] at h1; cases h1
  | succ fuel ih =>
    intro listed a w ι hc hsz hcnt hkey hs hQ
    refine ⟨fun hr => fin listed a w ι (hready listed hsz hr) hsz hkey hs hQ, fun i hi => ?_⟩
    obtain ⟨h1, o, ho, hedge⟩ := mem_ready.1 hi
    have his := (Array.getElem?_eq_some_iff.1 ho).1
    have hil : i < listed.size := by omega
    have hD : listed.getD i false = false := by
      simp [Array.getD_eq_getD_getElem?, Array.getElem?_eq_getElem hil] at h1 ⊢
      exact h1
    have hrd : Ready ops (fun j => listed.getD j false) i := ⟨o, ho, hedge⟩
    have hnew : ∀ j, (listed.setIfInBounds i true).getD j false = addD (fun j => listed.getD j false) i j := fun j => by
      unfold addD
      split
      · rename_i e; subst e; simp [Array.getD_eq_getD_getElem?, hil]
      · rename_i e; exact getD_set_ne false (fun h => e h.symm)
    have hnewF : (fun j => (listed.setIfInBounds i true).getD j false) = addD (fun j => listed.getD j false) i := funext hnew
    have hlook : looksAt ops i = looksOf ops.toList o := by simp [looksAt, ho]
    have htm : ∀ t ∈ looksOf ops.toList o, (StD ops tr τ0 T0 fun j => listed.getD j false).1 t = (after (dstAt ops) tr τ0 T0 (fun _ => true) i).1 t := fun t ht => same_tmp hT hc his hD hrd (by rw [hlook]; exact ht)
    obtain ⟨hrun, hop⟩ := hT.run i his o ho
    have hrun' : runs ops.toList (StD ops tr τ0 T0 fun j => listed.getD j false).1 o = some (tr i).ex := by rw [runs_congr htm]; exact hrun
    have hwant := runs_yields hrun' hs.tmp
    have hdst : ∀ t, o.dst = some t → t < n := hbelow o (by rw [Array.mem_toList_iff]; exact Array.mem_of_getElem? ho)
    have hda : dstAt ops i = o.dst := by simp [dstAt, ho]
    have hcl : Closed ops (fun j => (listed.setIfInBounds i true).getD j false) := by
      rw [hnewF]
      intro j q hj hq e he hb
      have up : ∀ x, listed.getD x false = true → addD (fun j => listed.getD j false) i x = true := fun x hx => by unfold addD; split; rfl; exact hx
      by_cases hji : j = i
      · subst hji
        rw [ho] at hq; cases hq
        exact up _ (hedge e he hb)
      · have : addD (fun j => listed.getD j false) i j = listed.getD j false := if_neg hji
        rw [this] at hj
        exact up _ (hc j q hj hq e he hb)
    have hcnt' : (List.range ops.size).countP (fun j => !(listed.setIfInBounds i true).getD j false) ≤ fuel := by
      have := (cnt_step (p := fun j => !listed.getD j false) (q := fun j => !(listed.setIfInBounds i true).getD j false) (i := i) (by simp [hD]) (by simp [hnew, addD]) (fun j hj => by simp only [hnew, addD, if_neg hj]) ops.size).1 his
      omega
    have next : ∀ a1 w1 ι1, SimF S w0 (fun m => NamesD N base (fun j => listed.getD j false) m ∨ In16 (base + 16 * i) m) n (putF (StD ops tr τ0 T0 fun j => listed.getD j false).1 o.dst (tr i).v) (upd (StD ops tr τ0 T0 fun j => listed.getD j false).2 (tr i).u) a1 w1 ι1 →
        Ev S base w ι w1 ι1 → (∀ m ∈ keysOf (tr i), KO m) → wpAny P .any ops Q fuel (listed.setIfInBounds i true) a1 w1 := by
      intro a1 w1 ι1 hs1 hev hk
      refine ih _ a1 w1 ι1 hcl (by simp [hsz]) hcnt' (fun j hj => ?_) ?_ fun a' w' ι' hs' hev' hk' => hQ a' w' ι' hs' (hev.trans hev' (Nat.le_refl _)) hk'
      · rw [hnew] at hj
        unfold addD at hj
        split at hj
        · rename_i e; subst e; exact hk
        · exact hkey j hj
      · rw [hnewF, step_tmp hT hc his hD hrd, step_ent hT hc his hD hrd, hda]
        refine hs1.weaken fun m hm => ?_
        rcases hm with (hm | ⟨j, hj, hm⟩) | hm
        · exact .inl hm
        · exact .inr ⟨j, by unfold addD; split; rfl; exact hj, hm⟩
        · exact .inr ⟨i, by simp [addD], hm⟩
    unfold wpOp
    simp only [ho]
    rw [hwant]
    cases hex : (tr i).ex with
    | true =>
      rw [if_pos rfl]
      rw [hex, if_pos rfl] at hop
      refine .inl ?_
      have hevc : ∀ x ∈ o.op.operands.toList, evF (after (dstAt ops) tr τ0 T0 (fun _ => true) i).1 x = evF (StD ops tr τ0 T0 fun j => listed.getD j false).1 x := fun x hx => by
        cases x with
        | tmp t => exact (htm t (looks_operands hx)).symm
        | _ => rfl
      rw [opK_congr (T' := (StD ops tr τ0 T0 fun j => listed.getD j false).2) hevc (fun m hm => (same_ent hT hc his hD hrd (by simp only [rdAt, ho, hex]; exact hm)).symm)] at hop
      refine hs.step hE (nm := base + 16 * i) (fun m hm h16 => ?_) hdst hop fun a' w' ι' hs' ht hι hwr => next a' w' ι' hs' ⟨ht, fun m hm => ?_⟩ fun m hm => ?_
      · obtain ⟨h3, h4⟩ := h16
        rcases hm with hm | ⟨j, hj, h5, h6⟩
        · have := hNb m hm; omega
        · have : j = i := by omega
          subst this
          have hj : listed.getD j false = true := hj
          rw [hD] at hj; cases hj
      · rcases hι m with e | e | e
        · exact .inl e
        · exact .inr e
        · obtain ⟨h3, h4⟩ := e; omega
      · obtain ⟨p, hp, rfl⟩ := List.mem_map.1 hm
        rcases hwr p hp with ⟨h3, h4⟩ | ⟨e, h3⟩
        · exact hK1 _ (by omega) (by omega)
        · rcases flagged ops.size h3 with ⟨e', h⟩ | ⟨j, _, h5, h6⟩
          · exact hK0 _ _ h
          · exact hkey j h5 _ h6
    | false =>
      rw [hex, if_neg (by simp)] at hop
      rw [if_neg (by simp)]
      obtain ⟨hv, hu⟩ := hop
      refine next _ w ι ?_ Ev.refl (fun m hm => by simp [keysOf, hu] at hm)
      rw [hv, hu, upd_nil]
      exact (hs.skip hdst).weaken fun m hm => .inl hm

end
end Go.Proofs.Ytacmfiddaklkiab.Lift
