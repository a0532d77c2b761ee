/- Balance (chapter 40), in plain Lean: evacuation. -/
import Derived.Test.YtondojojpgmjcaaPureCh40d
set_option linter.unusedVariables false
set_option linter.unusedSimpArgs false
namespace Go.Proofs.Ytondojojpgmjcaa.Fn
open Go Lift

/-! ### What a choice is -/
def chOK (hosts : List Cap) (F : Int → List Dem) (d : Dem) (no : List Int) (h : Nat) : Prop := (h : Int) ∉ no ∧ admitOf (nth cap0 hosts h) (F h) d = 0
def chFr (hosts : List Cap) (F : Int → List Dem) (h : Nat) : Int := (frOf (nth cap0 hosts h) (F h)).1

theorem chFold_spec (hosts : List Cap) (F : Int → List Dem) (d : Dem) (no : List Int) : ∀ n, (chFold hosts F d no n = (-1, 0) ∧ ∀ h, h < n → ¬ chOK hosts F d no h) ∨
    ∃ h : Nat, h < n ∧ chFold hosts F d no n = ((h : Int), chFr hosts F h) ∧ chOK hosts F d no h ∧ ∀ k, k < n → chOK hosts F d no k → chFr hosts F k ≤ chFr hosts F h
  | 0 => .inl ⟨rfl, fun h hh => absurd hh (Nat.not_lt_zero _)⟩
  | n + 1 => by
    have ih := chFold_spec hosts F d no n
    have lt_of : ∀ k, k < n + 1 → k = n ∨ k < n := fun k hk => by omega
    have hst := chFold_succ hosts F d no n
    unfold chStep at hst
    by_cases c1 : (n : Int) ∈ no
    · rw [if_pos c1] at hst
      rw [hst]
      have hn : ¬ chOK hosts F d no n := fun h => h.1 c1
      rcases ih with ⟨e, h⟩ | ⟨h, h1, h2, h3, h4⟩
      · exact .inl ⟨e, fun k hk => by rcases lt_of k hk with rfl | hk <;> first | exact hn | exact h k hk⟩
      · exact .inr ⟨h, by omega, h2, h3, fun k hk hok => by rcases lt_of k hk with rfl | hk <;> first | exact absurd hok hn | exact h4 k hk hok⟩
    · rw [if_neg c1] at hst
      by_cases c2 : admitOf (nth cap0 hosts n) (F n) d = 0
      · rw [if_pos c2] at hst
        have hn : chOK hosts F d no n := ⟨c1, c2⟩
        rcases ih with ⟨e, h⟩ | ⟨h, h1, h2, h3, h4⟩
        · rw [e, if_pos (by decide)] at hst
          rw [hst]
          exact .inr ⟨n, by omega, rfl, hn, fun k hk hok => by rcases lt_of k hk with rfl | hk <;> first | exact Int.le_refl _ | exact absurd hok (h k hk)⟩
        · rw [h2, if_neg (show ¬ (h : Int) < 0 by omega)] at hst
          by_cases c3 : (frOf (nth cap0 hosts n) (F n)).1 > chFr hosts F h
          · rw [if_pos c3] at hst
            rw [hst]
            refine .inr ⟨n, by omega, rfl, hn, fun k hk hok => ?_⟩
            rcases lt_of k hk with rfl | hk
            · exact Int.le_refl _
            · have := h4 k hk hok
              unfold chFr at *
              omega
          · rw [if_neg c3] at hst
            rw [hst]
            refine .inr ⟨h, by omega, rfl, h3, fun k hk hok => ?_⟩
            rcases lt_of k hk with rfl | hk
            · unfold chFr at *
              omega
            · exact h4 k hk hok
      · rw [if_neg c2] at hst
        rw [hst]
        have hn : ¬ chOK hosts F d no n := fun h => c2 h.2
        rcases ih with ⟨e, h⟩ | ⟨h, h1, h2, h3, h4⟩
        · exact .inl ⟨e, fun k hk => by rcases lt_of k hk with rfl | hk <;> first | exact hn | exact h k hk⟩
        · exact .inr ⟨h, by omega, h2, h3, fun k hk hok => by rcases lt_of k hk with rfl | hk <;> first | exact absurd hok hn | exact h4 k hk hok⟩

theorem choose_spec (hosts : List Cap) (F : Int → List Dem) (d : Dem) (no : List Int) : (chooseOf hosts F d no = (0, false) ∧ ∀ h, h < hosts.length → ¬ chOK hosts F d no h) ∨
    ∃ h : Nat, h < hosts.length ∧ chooseOf hosts F d no = ((h : Int), true) ∧ chOK hosts F d no h ∧ ∀ k, k < hosts.length → chOK hosts F d no k → chFr hosts F k ≤ chFr hosts F h := by
  unfold chooseOf
  rcases chFold_spec hosts F d no hosts.length with ⟨e, h⟩ | ⟨h, h1, h2, h3, h4⟩
  · rw [e]; exact .inl ⟨by decide, h⟩
  · rw [h2]
    have e1 : max (h : Int) 0 = h := by omega
    have e2 : (h : Int) ≥ 0 := by omega
    refine .inr ⟨h, h1, ?_, h3, h4⟩
    simp only [e1, e2, decide_true]

/-! ### Lists put together -/
theorem concatI_eq (a b : List Int) (ha : a.length ≤ 1000) (hb : b.length ≤ 1000) : slices_Concat_int_int.f [a, b] = some (a ++ b) := by
  unfold slices_Concat_int_int.f
  refine bindE (loop_list (fun (s : Int) i => (s, i)) [a, b] (fun s x => .inl (s + (x.length : Int))) (fun s => .inl s) 0 (fun s i => 0 ≤ s ∧ s ≤ i * 1000) (by simp) (fun i x s hx hI => ⟨?_, fun s' hs' => ?_⟩) (fun s _ => ?_)) ?_
  rotate_left 3
  · simp only [foldE]
    have hg : slices_Grow_int_int.f ((0 : Int) + (a.length : Int) + (b.length : Int)) = some [] := by
      unfold slices_Grow_int_int.f
      rw [if_pos (by omega)]
    rw [hg, Option.bind_some]
    refine bindE (loop_list (fun (s : List Int) i => (s, i)) [a, b] (fun s x => .inl (s ++ x)) (fun s => .inl s) [] (fun s i => s.length ≤ i * 1000) (by simp) (fun i x s hx hI => ⟨?_, fun s' hs' => ?_⟩) (fun s _ => ?_)) ?_
    rotate_left 3
    · simp [foldE]
    · have hi := idx_lt hx
      have hm : x.length ≤ 1000 := by
        have := List.mem_of_getElem? hx
        simp at this
        rcases this with rfl | rfl <;> assumption
      have h2 : 0 ≤ (i : Int) ∧ (i : Int) < ([a, b] : List (List Int)).length := ⟨by omega, hi⟩
      have hi2 : i < 2 := by simp at hi; omega
      simp only [hi, decide_true, cond_true, h2, and_self, if_true, nth_some hx]
      rw [if_pos (by omega), wrap_i64 (n := (i : Int) + 1) (by omega) (by omega)]
    · have hm : x.length ≤ 1000 := by
        have := List.mem_of_getElem? hx
        simp at this
        rcases this with rfl | rfl <;> assumption
      cases hs'
      simp
      omega
    · simp
  · have hi := idx_lt hx
    have hm : x.length ≤ 1000 := by
      have := List.mem_of_getElem? hx
      simp at this
      rcases this with rfl | rfl <;> assumption
    have h2 : 0 ≤ (i : Int) ∧ (i : Int) < ([a, b] : List (List Int)).length := ⟨by omega, hi⟩
    have hi2 : i < 2 := by simp at hi; omega
    simp only [hi, decide_true, cond_true, h2, and_self, if_true, nth_some hx]
    rw [wrap_i64 (n := s + (x.length : Int)) (by omega) (by omega), wrap_i64 (n := (i : Int) + 1) (by omega) (by omega)]
    have : ¬ (s + (x.length : Int) < 0) := by omega
    simp only [this, decide_false, cond_false]
  · have hm : x.length ≤ 1000 := by
      have := List.mem_of_getElem? hx
      simp at this
      rcases this with rfl | rfl <;> assumption
    cases hs'
    constructor
    · omega
    · push_cast
      omega
  · simp

theorem concatD_eq (a b : List Dem) (ha : a.length ≤ 1000) (hb : b.length ≤ 1000) : slices_Concat_api_Demand_api_Demand.f [a, b] = some (a ++ b) := by
  unfold slices_Concat_api_Demand_api_Demand.f
  refine bindE (loop_list (fun (s : Int) i => (s, i)) [a, b] (fun s x => .inl (s + (x.length : Int))) (fun s => .inl s) 0 (fun s i => 0 ≤ s ∧ s ≤ i * 1000) (by simp) (fun i x s hx hI => ⟨?_, fun s' hs' => ?_⟩) (fun s _ => ?_)) ?_
  rotate_left 3
  · simp only [foldE]
    have hg : slices_Grow_api_Demand_api_Demand.f ((0 : Int) + (a.length : Int) + (b.length : Int)) = some [] := by
      unfold slices_Grow_api_Demand_api_Demand.f
      rw [if_pos (by omega)]
    rw [hg, Option.bind_some]
    refine bindE (loop_list (fun (s : List Dem) i => (s, i)) [a, b] (fun s x => .inl (s ++ x)) (fun s => .inl s) [] (fun s i => s.length ≤ i * 1000) (by simp) (fun i x s hx hI => ⟨?_, fun s' hs' => ?_⟩) (fun s _ => ?_)) ?_
    rotate_left 3
    · simp [foldE]
    · have hi := idx_lt hx
      have hm : x.length ≤ 1000 := by
        have := List.mem_of_getElem? hx
        simp at this
        rcases this with rfl | rfl <;> assumption
      have h2 : 0 ≤ (i : Int) ∧ (i : Int) < ([a, b] : List (List Dem)).length := ⟨by omega, hi⟩
      have hi2 : i < 2 := by simp at hi; omega
      simp only [hi, decide_true, cond_true, h2, and_self, if_true, nth_some hx]
      rw [if_pos (by omega), wrap_i64 (n := (i : Int) + 1) (by omega) (by omega)]
    · have hm : x.length ≤ 1000 := by
        have := List.mem_of_getElem? hx
        simp at this
        rcases this with rfl | rfl <;> assumption
      cases hs'
      simp
      omega
    · simp
  · have hi := idx_lt hx
    have hm : x.length ≤ 1000 := by
      have := List.mem_of_getElem? hx
      simp at this
      rcases this with rfl | rfl <;> assumption
    have h2 : 0 ≤ (i : Int) ∧ (i : Int) < ([a, b] : List (List Dem)).length := ⟨by omega, hi⟩
    have hi2 : i < 2 := by simp at hi; omega
    simp only [hi, decide_true, cond_true, h2, and_self, if_true, nth_some hx]
    rw [wrap_i64 (n := s + (x.length : Int)) (by omega) (by omega), wrap_i64 (n := (i : Int) + 1) (by omega) (by omega)]
    have : ¬ (s + (x.length : Int) < 0) := by omega
    simp only [this, decide_false, cond_false]
  · have hm : x.length ≤ 1000 := by
      have := List.mem_of_getElem? hx
      simp at this
      rcases this with rfl | rfl <;> assumption
    cases hs'
    constructor
    · omega
    · push_cast
      omega
  · simp

/-! ### One guest taken out, or put elsewhere -/
theorem split_at {α : Type} {l : List α} {i : Nat} (h : i < l.length) : l = l.take i ++ (l[i] :: l.drop (i + 1)) := by
  rw [← List.drop_eq_getElem_cons h, List.take_append_drop]

theorem put_split {l : List Int} {i : Nat} (x : Int) (h : i < l.length) : put l i x = l.take i ++ (x :: l.drop (i + 1)) := by
  unfold put
  rw [Int.toNat_natCast, List.set_eq_take_append_cons_drop, if_pos h]

def OUT {α : Type} (l : List α) (i : Nat) : List α := l.take i ++ l.drop (i + 1)

theorem GU_cons (a b : List Dem) (d : Dem) (p q : List Int) (x h : Int) (e : a.length = p.length) : GU (a ++ (d :: b)) (p ++ (x :: q)) h = GU a p h ++ ((if x = h then [d] else []) ++ GU b q h) := by
  rw [GU_append _ _ _ _ _ e]
  rfl

theorem GU_out (l : List Dem) (on : List Int) (h : Int) (i : Nat) (hi : i < l.length) (e : l.length = on.length) : GU (OUT l i) (OUT on i) h = GU (l.take i) (on.take i) h ++ GU (l.drop (i + 1)) (on.drop (i + 1)) h :=
  GU_append _ _ _ _ _ (by simp; omega)

theorem AT_out (l : List Dem) (on : List Int) (h : Int) (i : Nat) (hi : i < l.length) (e : l.length = on.length) : AT l on h i = GU (OUT l i) (OUT on i) h := by
  rw [GU_out l on h i hi e]
  conv => lhs; rw [split_at hi, split_at (show i < on.length by omega)]
  rw [AT_append _ _ _ _ _ _ (by simp; omega)]
  have e1 : (i : Int) - ((l.take i).length : Nat) = 0 := by simp; omega
  rw [e1]
  simp only [AT, not_true_eq_false, and_false, if_false, List.nil_append]
  rw [AT_neg _ _ _ (0 - 1) (by decide)]
  congr 1
  -- the guests before
  have : ∀ (a : List Dem) (p : List Int) (b : Int), (a.length : Int) ≤ b → AT a p h b = GU a p h := by
    intro a
    induction a with
    | nil => intro p b _; simp [AT, GU]
    | cons d a ih =>
      intro p b hb
      cases p with
      | nil => simp [AT, GU]
      | cons x p =>
        simp only [List.length_cons] at hb
        have h0 : ¬ b = 0 := by omega
        simp only [AT, GU, h0, not_false_eq_true, and_true]
        rw [ih p (b - 1) (by omega)]
  exact this _ _ _ (by simp; omega)

theorem GU_at (l : List Dem) (on : List Int) (h : Int) (i : Nat) (hi : i < l.length) (e : l.length = on.length) :
    GU l on h = GU (l.take i) (on.take i) h ++ ((if on[i]'(by omega) = h then [l[i]] else []) ++ GU (l.drop (i + 1)) (on.drop (i + 1)) h) := by
  conv => lhs; rw [split_at hi, split_at (show i < on.length by omega)]
  exact GU_cons _ _ _ _ _ _ _ (by simp; omega)

theorem GU_put (l : List Dem) (on : List Int) (h x : Int) (i : Nat) (hi : i < l.length) (e : l.length = on.length) :
    GU l (put on i x) h = GU (l.take i) (on.take i) h ++ ((if x = h then [l[i]] else []) ++ GU (l.drop (i + 1)) (on.drop (i + 1)) h) := by
  rw [put_split x (by omega)]
  conv => lhs; rw [split_at hi]
  exact GU_cons _ _ _ _ _ _ _ (by simp; omega)

theorem fits_out {hosts : List Cap} {l : List Dem} {on : List Int} (hv : vB hosts l on = true) {i : Nat} (hi : i < l.length) {h : Nat} (hh : h < hosts.length) : fitsOf (nth cap0 hosts h) (GU (OUT l i) (OUT on i) h) = true := by
  obtain ⟨h1, h2, h3, h4, h5, h6⟩ := (vB_iff _ _ _).1 hv
  have := h6 h hh
  rw [GU_at l on h i hi (by omega)] at this
  rw [GU_out l on h i hi (by omega)]
  split at this
  · rw [fits_insert, Bool.and_eq_true] at this
    exact this.1
  · rwa [List.nil_append] at this

theorem out_len {α : Type} {l : List α} {i : Nat} (h : i < l.length) : (OUT l i).length + 1 = l.length := by
  simp [OUT]; omega

/-- A valid placement stays valid without one guest. -/
theorem vB_out {hosts : List Cap} {l : List Dem} {on : List Int} (hv : vB hosts l on = true) {i : Nat} (hi : i < l.length) : vB hosts (OUT l i) (OUT on i) = true := by
  obtain ⟨h1, h2, h3, h4, h5, h6⟩ := (vB_iff _ _ _).1 hv
  have e1 := out_len hi
  have e2 := out_len (show i < on.length by omega)
  refine (vB_iff _ _ _).2 ⟨h1, h2, by omega, by omega, fun x hx => h5 x ?_, fun h hh => fits_out hv hi hh⟩
  rcases List.mem_append.1 hx with hx | hx
  · exact List.mem_of_mem_take hx
  · exact List.mem_of_mem_drop hx

/-- A valid placement stays valid when a guest goes where it is admitted. -/
theorem vB_put {hosts : List Cap} {l : List Dem} {on : List Int} (hv : vB hosts l on = true) {i : Nat} (hi : i < l.length) {x : Nat} (hx : x < hosts.length)
    (ha : admitOf (nth cap0 hosts x) (AT l on x i) (nth dem0 l i) = 0) : vB hosts l (put on i x) = true := by
  obtain ⟨h1, h2, h3, h4, h5, h6⟩ := (vB_iff _ _ _).1 hv
  refine (vB_iff _ _ _).2 ⟨h1, h2, h3, by rw [put_len]; exact h4, fun y hy => ?_, fun h hh => ?_⟩
  · rw [put_split _ (by omega)] at hy
    rcases List.mem_append.1 hy with hy | hy
    · exact h5 y (List.mem_of_mem_take hy)
    · rcases List.mem_cons.1 hy with rfl | hy
      · omega
      · exact h5 y (List.mem_of_mem_drop hy)
  · have hf := fits_out hv hi hh
    rw [GU_out l on h i hi (by omega)] at hf
    rw [GU_put l on h x i hi (by omega)]
    by_cases c : (x : Int) = h
    · have c' : x = h := by omega
      subst c'
      rw [if_pos rfl, fits_insert, hf, Bool.true_and, decide_eq_true_eq]
      rw [AT_out l on x i hi (by omega), GU_out l on x i hi (by omega), nth_lt hi] at ha
      exact ha
    · rw [if_neg c, List.nil_append]
      exact hf

/-! ### Evacuation -/
def foldO {S α : Type} (st : S → α → Option S) : S → List α → Option S
  | s, [] => some s
  | s, x :: l => (st s x).bind fun s' => foldO st s' l

def toE {S Z : Type} (bad : Z) : Option S → S ⊕ Z
  | some s => .inl s
  | none => .inr bad
def endE {S Z : Type} (fin : S → Z) (bad : Z) : Option S → Z
  | some s => fin s
  | none => bad

theorem foldE_O {S α Z : Type} (st : S → α → Option S) (fin : S → Z) (bad : Z) : ∀ (l : List α) (s : S), foldE (fun s x => toE bad (st s x)) fin s l = endE fin bad (foldO st s l)
  | [], _ => rfl
  | x :: l, s => by
    simp only [foldE, foldO]
    cases h : st s x with
    | none => rfl
    | some s' => exact foldE_O st fin bad l s'

theorem foldO_inv {S : Type} (st : S → Nat → Option S) (I : S → Nat → Prop) : ∀ (m k : Nat) (s s' : S), I s k → (∀ i s s', k ≤ i → i < k + m → I s i → st s i = some s' → I s' (i + 1)) → foldO st s (List.range' k m) = some s' → I s' (k + m)
  | 0, k, s, s', h, _, e => by cases e; exact h
  | m + 1, k, s, s', h, hs, e => by
    rw [List.range'_succ] at e
    simp only [foldO] at e
    obtain ⟨t, ht, e⟩ := Option.bind_eq_some_iff.1 e
    have := foldO_inv st I m (k + 1) t s' (hs k s t (Nat.le_refl _) (by omega) h ht) (fun i s s' h1 h2 => hs i s s' (by omega) (by omega)) e
    rwa [Nat.add_assoc, Nat.add_comm 1 m] at this

def evStep (hosts : List Cap) (l : List Dem) (host : Int) (s : List Int × List Mov) (i : Nat) : Option (List Int × List Mov) :=
  if nth (0 : Int) s.1 i = host then
    (if (chooseOf hosts (fun h => AT l s.1 h i) (nth dem0 l i) [host]).2 = true then some (put s.1 i (chooseOf hosts (fun h => AT l s.1 h i) (nth dem0 l i) [host]).1, s.2 ++ [((i : Int), host, (chooseOf hosts (fun h => AT l s.1 h i) (nth dem0 l i) [host]).1)]) else none)
  else some s
def evacOf (hosts : List Cap) (l : List Dem) (on : List Int) (host : Int) : List Mov × List Int × Bool :=
  if vB hosts l on = true ∧ 0 ≤ host ∧ host < hosts.length then (match foldO (evStep hosts l host) (on, []) (List.range l.length) with | some s => (s.2, s.1, true) | none => ([], [], false)) else ([], [], false)

/-- What holds on the way. -/
def evI (hosts : List Cap) (l : List Dem) (on : List Int) (s : List Int × List Mov) (i : Nat) : Prop :=
  vB hosts l s.1 = true ∧ s.1.length = on.length ∧ s.2.length ≤ i ∧ ∀ j : Nat, i ≤ j → nth (0 : Int) s.1 j = nth (0 : Int) on j

theorem nth_put_ne (l : List Int) (i j : Nat) (x : Int) (h : ¬ i = j) : nth (0 : Int) (put l i x) j = nth (0 : Int) l j := by
  simp [nth, put, List.getD_eq_getElem?_getD, List.getElem?_set_ne h]
theorem nth_put_self (l : List Int) (i : Nat) (x : Int) (h : i < l.length) : nth (0 : Int) (put l i x) i = x := by
  simp [nth, put, List.getD_eq_getElem?_getD, h]

theorem ev_step {hosts : List Cap} {l : List Dem} {on : List Int} {host : Int} {s s' : List Int × List Mov} {i : Nat} (hi : i < l.length) (hI : evI hosts l on s i) (h : evStep hosts l host s i = some s') : evI hosts l on s' (i + 1) := by
  obtain ⟨hv, hl, hm, ho⟩ := hI
  obtain ⟨h1, h2, h3, h4, h5, h6⟩ := (vB_iff _ _ _).1 hv
  unfold evStep at h
  split at h
  · split at h
    · rename_i hc
      cases h
      rcases choose_spec hosts (fun h => AT l s.1 h i) (nth dem0 l i) [host] with ⟨e, _⟩ | ⟨x, hx, e, hok, _⟩
      · rw [e] at hc; cases hc
      · rw [e]
        refine ⟨vB_put hv hi hx hok.2, by show (put s.1 _ _).length = _; rw [put_len]; exact hl, by simp; omega, fun j hj => ?_⟩
        show nth 0 (put s.1 _ _) _ = _
        rw [nth_put_ne _ _ _ _ (by omega)]
        exact ho j (by omega)
    · cases h
  · cases h
    exact ⟨hv, hl, by omega, fun j hj => ho j (by omega)⟩

theorem evac_some {hosts : List Cap} {l : List Dem} {on : List Int} {host : Int} {s : List Int × List Mov} (hv : vB hosts l on = true) (h : foldO (evStep hosts l host) (on, []) (List.range l.length) = some s) : evI hosts l on s l.length := by
  rw [List.range_eq_range'] at h
  have := foldO_inv (evStep hosts l host) (evI hosts l on) l.length 0 (on, []) s ⟨hv, rfl, Nat.zero_le _, fun _ _ => rfl⟩ (fun i s s' _ hi hI he => ev_step (by omega) hI he) h
  rwa [Nat.zero_add] at this

theorem pevac_eq (hosts : List Cap) (l : List Dem) (on : List Int) (host : Int) : balance_Evacuate.f hosts l on host = some (evacOf hosts l on host) := by
  unfold balance_Evacuate.f evacOf
  rw [pvalid_eq]
  cases hv : vB hosts l on with
  | false => simp
  | true =>
    obtain ⟨h1, h2, h3, h4, h5, h6⟩ := (vB_iff _ _ _).1 hv
    simp only [Option.bind_some, Bool.not_true, cond_false, true_and]
    by_cases c1 : host < 0
    · rw [if_neg (show ¬ (0 ≤ host ∧ host < (hosts.length : Int)) by omega)]
      simp only [c1, decide_true, cond_true]
    by_cases c2 : host ≥ (hosts.length : Int)
    · rw [if_neg (show ¬ (0 ≤ host ∧ host < (hosts.length : Int)) by omega)]
      simp only [c1, c2, decide_true, decide_false, cond_true, cond_false]
    rw [if_pos (show 0 ≤ host ∧ host < (hosts.length : Int) by omega)]
    simp only [c1, c2, decide_false, cond_false]
    rw [clone_eq on (by omega), Option.bind_some]
    refine bindE (loop_list (fun (s : List Int × List Mov) i => (s.1, s.2, i)) (List.range l.length) (fun s x => toE (Sum.inr (([], [], false) : List Mov × List Int × Bool)) (evStep hosts l host s x)) (fun s => (Sum.inl (s.1, s.2) : (List Int × List Mov) ⊕ (List Mov × List Int × Bool))) (on, []) (evI hosts l on) ⟨hv, rfl, Nat.zero_le _, fun _ _ => rfl⟩ (fun i x s hx hI => ⟨?_, fun s' hs' => ?_⟩) (fun s _ => ?_)) ?_
    rotate_left 3
    · rw [foldE_O]
      cases foldO (evStep hosts l host) (on, []) (List.range l.length) <;> rfl
    · obtain ⟨hi, rfl⟩ := range_get hx
      obtain ⟨hv', hl', hm', ho'⟩ := hI
      have g1 : (x : Int) < l.length := by omega
      have g2 : 0 ≤ (x : Int) ∧ (x : Int) < l.length := ⟨by omega, g1⟩
      have g3 : 0 ≤ (x : Int) ∧ (x : Int) < s.1.length := ⟨by omega, by omega⟩
      dsimp only
      rw [if_pos g2, if_pos g3, wrap_i64 (n := (x : Int) + 1) (by omega) (by omega)]
      simp only [g1, decide_true, cond_true]
      unfold evStep
      by_cases c : nth (0 : Int) s.1 x = host
      · have c' : decide (nth (0 : Int) s.1 x = host) = true := decide_eq_true c
        rw [if_pos c, c']
        simp only [Bool.not_true, cond_false]
        have e1 : slc l (0 : Int) x = l.take x := slc_take l x
        have e2 : slc l ((x : Int) + 1) l.length = l.drop (x + 1) := slc_drop l (x + 1)
        have e3 : slc s.1 (0 : Int) x = s.1.take x := slc_take s.1 x
        have e4 : slc s.1 ((x : Int) + 1) s.1.length = s.1.drop (x + 1) := slc_drop s.1 (x + 1)
        rw [if_pos (by omega), if_pos (by omega), e1, e2, concatD_eq _ _ (by simp; omega) (by simp; omega), Option.bind_some, if_pos (by omega), if_pos (by omega), e3, e4, concatI_eq _ _ (by simp; omega) (by simp; omega), Option.bind_some]
        have e5 : ((nth ((0 : Int), (0 : Int), (0 : Int), (0 : Int)) l x).1, (nth ((0 : Int), (0 : Int), (0 : Int), (0 : Int)) l x).2.1, (nth ((0 : Int), (0 : Int), (0 : Int), (0 : Int)) l x).2.2) = nth dem0 l x := rfl
        have e6 := pchoose_eq hosts (OUT l x) (OUT s.1 x) (nth dem0 l x) [host] (by simp)
        rw [vB_out hv' hi, if_pos rfl] at e6
        have e7 : (fun h => GU (OUT l x) (OUT s.1 x) h) = fun h => AT l s.1 h x := funext fun h => (AT_out l s.1 h x hi (by omega)).symm
        rw [e7] at e6
        unfold OUT at e6
        rw [e5, e6, Option.bind_some]
        cases (chooseOf hosts (fun h => AT l s.1 h x) (nth dem0 l x) [host]).2 with
        | false => rfl
        | true =>
          simp only [Bool.not_true, cond_false, if_true]
          rw [if_pos g3, if_pos (show (s.2.length + ([((x : Int), host, (chooseOf hosts (fun h => AT l s.1 h x) (nth dem0 l x) [host]).1)] : List Mov).length) * 24 ≤ 70368744177664 by simp only [List.length_singleton]; omega)]
          rfl
      · have c' : decide (nth (0 : Int) s.1 x = host) = false := decide_eq_false c
        rw [if_neg c, c']
        rfl
    · obtain ⟨hi, rfl⟩ := range_get hx
      cases he : evStep hosts l host s x with
      | none => rw [he] at hs'; cases hs'
      | some t => rw [he] at hs'; cases hs'; exact ev_step hi hI he
    · simp only [List.length_range, Int.lt_irrefl, decide_false, cond_false]

theorem revac_eq (hosts : List Cap) (l : List Dem) (on : List Int) (host : Int) : vmfleetref39_Evacuate.f hosts l on host = some (evacOf hosts l on host) := by
  unfold vmfleetref39_Evacuate.f evacOf
  rw [place_eq]
  cases hv : vB hosts l on with
  | false => simp
  | true =>
    obtain ⟨h1, h2, h3, h4, h5, h6⟩ := (vB_iff _ _ _).1 hv
    simp only [Option.bind_some, Bool.not_true, cond_false, true_and]
    rw [there_eq, Option.bind_some]
    by_cases c0 : 0 ≤ host ∧ host < (hosts.length : Int)
    · have hs : (([] : List Int).length + on.length) * 8 ≤ 70368744177664 := by simp only [List.length_nil]; omega
      rw [if_pos c0]
      simp only [c0.1, c0.2, decide_true, Bool.and_self, Bool.not_true, cond_false]
      rw [if_pos hs, List.nil_append]
      refine bindE (loop_list (fun (s : List Int × List Mov) i => (s.2, s.1, i)) (List.range l.length) (fun s x => toE (Sum.inr (([], [], false) : List Mov × List Int × Bool)) (evStep hosts l host s x)) (fun s => (Sum.inl (s.2, s.1) : (List Mov × List Int) ⊕ (List Mov × List Int × Bool))) (on, []) (evI hosts l on) ⟨hv, rfl, Nat.zero_le _, fun _ _ => rfl⟩ (fun i x s hx hI => ⟨?_, fun s' hs' => ?_⟩) (fun s _ => ?_)) ?_
      rotate_left 3
      · rw [foldE_O]
        cases foldO (evStep hosts l host) (on, []) (List.range l.length) <;> rfl
      · obtain ⟨hi, rfl⟩ := range_get hx
        obtain ⟨hv', hl', hm', ho'⟩ := hI
        have g1 : (x : Int) < l.length := by omega
        have g2 : 0 ≤ (x : Int) ∧ (x : Int) < l.length := ⟨by omega, g1⟩
        have g3 : 0 ≤ (x : Int) ∧ (x : Int) < on.length := ⟨by omega, by omega⟩
        dsimp only
        rw [if_pos g2, if_pos g3, wrap_i64 (n := (x : Int) + 1) (by omega) (by omega)]
        simp only [g1, decide_true, cond_true]
        rw [← ho' x (Nat.le_refl _)]
        unfold evStep
        by_cases c : nth (0 : Int) s.1 x = host
        · have c' : decide (nth (0 : Int) s.1 x = host) = true := decide_eq_true c
          rw [if_pos c, c']
          simp only [Bool.not_true, cond_false]
          have e5 : ((nth ((0 : Int), (0 : Int), (0 : Int), (0 : Int)) l x).1, (nth ((0 : Int), (0 : Int), (0 : Int), (0 : Int)) l x).2.1, (nth ((0 : Int), (0 : Int), (0 : Int), (0 : Int)) l x).2.2) = nth dem0 l x := rfl
          rw [e5, rchoose_eq hosts l s.1 x (nth dem0 l x) [host] (by omega) (by omega) (by omega) (by simp), Option.bind_some]
          cases (chooseOf hosts (fun h => AT l s.1 h x) (nth dem0 l x) [host]).2 with
          | false => rfl
          | true =>
            simp only [Bool.not_true, cond_false, if_true]
            rw [if_pos (show (s.2.length + ([((x : Int), host, (chooseOf hosts (fun h => AT l s.1 h x) (nth dem0 l x) [host]).1)] : List Mov).length) * 24 ≤ 70368744177664 by simp only [List.length_singleton]; omega), moved_eq s.1 x _ (by omega) (by omega) (by omega)]
            rfl
        · have c' : decide (nth (0 : Int) s.1 x = host) = false := decide_eq_false c
          rw [if_neg c, c']
          rfl
      · obtain ⟨hi, rfl⟩ := range_get hx
        cases he : evStep hosts l host s x with
        | none => rw [he] at hs'; cases hs'
        | some t => rw [he] at hs'; cases hs'; exact ev_step hi hI he
      · simp only [List.length_range, Int.lt_irrefl, decide_false, cond_false]
    · rw [if_neg c0]
      have : (decide (0 ≤ host) && decide (host < (hosts.length : Int))) = false := by
        rw [Bool.eq_false_iff]
        intro h
        simp only [Bool.and_eq_true, decide_eq_true_eq] at h
        exact c0 h
      rw [this]
      rfl

theorem evac_len (hosts : List Cap) (l : List Dem) (on : List Int) (host : Int) : (evacOf hosts l on host).1.length ≤ 1000000 ∧ (evacOf hosts l on host).2.1.length ≤ 1000000 := by
  unfold evacOf
  split
  · rename_i hc
    obtain ⟨h1, h2, h3, h4, h5, h6⟩ := (vB_iff _ _ _).1 hc.1
    cases hf : foldO (evStep hosts l host) (on, []) (List.range l.length) with
    | none => simp
    | some s =>
      obtain ⟨_, i2, i3, _⟩ := evac_some hc.1 hf
      simp only
      omega
  · simp

theorem ext_len (hosts : List Cap) (l : List Dem) : ∀ (k : Nat) (on : List Int), (extOf hosts l k on).1.length ≤ on.length + k
  | 0, on => by simp [extOf]
  | k + 1, on => by
    unfold extOf
    split
    · rename_i r hr
      obtain ⟨h, _, hh⟩ := List.exists_of_findSome?_eq_some hr
      split at hh
      · split at hh
        · cases hh
          have := ext_len hosts l k (on ++ [(h : Int)])
          simp only [List.length_append, List.length_singleton] at this
          simp only
          omega
        · cases hh
      · cases hh
    · simp

end Go.Proofs.Ytondojojpgmjcaa.Fn
