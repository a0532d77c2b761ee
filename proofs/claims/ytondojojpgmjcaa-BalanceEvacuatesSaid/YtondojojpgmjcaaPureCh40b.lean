/- Balance (chapter 40), in plain Lean: fitting, placements, loads, spreads, choices. -/
import Derived.Test.YtondojojpgmjcaaPureCh40
set_option linter.unusedVariables false
set_option linter.unusedSimpArgs false
namespace Go.Proofs.Ytondojojpgmjcaa.Fn
open Go Lift

/-! ### Fitting does not depend on the order -/
def RS (l : List Dem) : Int := (l.map (·.1)).sum
def CS (l : List Dem) : Int := (l.map (·.2.2.1)).sum

theorem dem_range {d : Dem} (h : demB d = true) : 0 ≤ d.1 ∧ d.1 ≤ 1000000 ∧ 0 ≤ d.2.2.1 ∧ d.2.2.1 ≤ 1000000 := by
  simp only [demB, unitB, Bool.and_eq_true, decide_eq_true_eq] at h
  omega

theorem host_range {c : Cap} (h : hostB c = true) : 0 ≤ c.1 ∧ c.1 ≤ 1000000 ∧ 0 ≤ c.2.1 ∧ c.2.1 ≤ 1000000 := by
  simp only [hostB, unitB, Bool.and_eq_true, decide_eq_true_eq] at h
  omega

theorem free_fold (l : List Dem) : ∀ (s : Int × Int), (∀ d ∈ l, demB d = true) → (l.length : Int) * 1000000 - 100000000 ≤ s.1 → (l.length : Int) * 1000000 - 100000000 ≤ s.2 → s.1 ≤ 1000000 → s.2 ≤ 1000000 →
    l.foldl (fun s d => (IntKind.wrap .i64 (s.1 - d.1), IntKind.wrap .i64 (s.2 - d.2.2.1))) s = (s.1 - RS l, s.2 - CS l) := by
  induction l with
  | nil => intro s _ _ _ _ _; simp [RS, CS]
  | cons d l ih =>
    intro s hd h1 h2 h3 h4
    have h := dem_range (hd d (by simp))
    rw [List.length_cons] at h1 h2
    rw [List.foldl_cons, wrap_i64 (by omega) (by omega), wrap_i64 (by omega) (by omega), ih _ (fun d hd' => hd d (by simp [hd'])) (by show _ ≤ s.1 - d.1; omega) (by show _ ≤ s.2 - d.2.2.1; omega) (by show s.1 - d.1 ≤ _; omega) (by show s.2 - d.2.2.1 ≤ _; omega)]
    show (s.1 - d.1 - RS l, s.2 - d.2.2.1 - CS l) = (s.1 - RS (d :: l), s.2 - CS (d :: l))
    have e1 : RS (d :: l) = d.1 + RS l := by simp [RS]
    have e2 : CS (d :: l) = d.2.2.1 + CS l := by simp [CS]
    rw [e1, e2, Int.sub_sub, Int.sub_sub]

theorem free_val {c : Cap} {l : List Dem} (h : validB c l = true) : freeOf c l = (c.1 - RS l, c.2.1 - CS l) := by
  simp only [validB, Bool.and_eq_true, decide_eq_true_eq, List.all_eq_true] at h
  have := host_range h.1
  unfold freeOf
  rw [free_fold l _ h.2.2 (by simp only; omega) (by simp only; omega) (by simp only; omega) (by simp only; omega)]

theorem admit_ok (c : Cap) (l : List Dem) (d : Dem) : admitOf c l d = 0 ↔ validB c l = true ∧ demB d = true ∧ c.2.2 = true ∧ d.1 ≤ c.1 - RS l ∧ d.2.2.1 ≤ c.2.1 - CS l ∧ ∀ e ∈ l, d.2.2.2 = 0 ∨ e.2.2.2 ≠ d.2.2.2 := by
  unfold admitOf
  cases hv : validB c l with
  | false => simp
  | true =>
    cases hd : demB d with
    | false => simp
    | true =>
      cases hu : c.2.2 with
      | false => simp
      | true =>
        simp only [Bool.not_true, Bool.false_eq_true, if_false, free_val hv, true_and]
        by_cases h1 : c.1 - RS l < d.1
        · simp only [h1, if_true]
          exact ⟨fun h => by simp at h, fun h => absurd h1 (by omega)⟩
        · by_cases h2 : c.2.1 - CS l < d.2.2.1
          · simp only [h1, h2, if_true, if_false]
            exact ⟨fun h => by simp at h, fun h => absurd h2 (by omega)⟩
          · simp only [h1, h2, if_false]
            have h1' : d.1 ≤ c.1 - RS l := by omega
            have h2' : d.2.2.1 ≤ c.2.1 - CS l := by omega
            simp only [h1', h2', true_and, List.any_eq_true, decide_eq_true_eq]
            by_cases h0 : d.2.2.2 = 0
            · simp [h0]
            · simp only [h0, ne_eq, not_false_eq_true, true_and, false_or]
              by_cases h3 : ∃ x, x ∈ l ∧ x.2.2.2 = d.2.2.2
              · rw [if_pos h3]
                exact ⟨fun h => by simp at h, fun h => absurd h3 (by rintro ⟨x, hx, e⟩; exact h x hx e)⟩
              · rw [if_neg h3]
                exact ⟨fun _ e he h => h3 ⟨e, he, h⟩, fun _ => rfl⟩

/-- A list of guests that a host can hold. -/
def FitP (c : Cap) (l : List Dem) : Prop := l = [] ∨ (hostB c = true ∧ c.2.2 = true ∧ l.length ≤ 17 ∧ (∀ d ∈ l, demB d = true) ∧ RS l ≤ c.1 ∧ CS l ≤ c.2.1 ∧ l.Pairwise (fun a b => b.2.2.2 = 0 ∨ a.2.2.2 ≠ b.2.2.2))

theorem sums_pos : ∀ (l : List Dem), (∀ d ∈ l, demB d = true) → 0 ≤ RS l ∧ 0 ≤ CS l
  | [], _ => by simp [RS, CS]
  | d :: l, h => by
    have h1 := dem_range (h d (by simp))
    have h2 := sums_pos l (fun d hd => h d (by simp [hd]))
    simp only [RS, CS, List.map_cons, List.sum_cons] at *
    omega

theorem RS_append (l k : List Dem) : RS (l ++ k) = RS l + RS k := by simp [RS]
theorem CS_append (l k : List Dem) : CS (l ++ k) = CS l + CS k := by simp [CS]

theorem fits_iff (c : Cap) : ∀ l, fitsOf c l = true ↔ FitP c l := by
  refine snoc_ind ?_ ?_
  · simp [fitsOf, FitP]
  · intro l d ih
    rw [fitsOf_snoc, Bool.and_eq_true, decide_eq_true_eq, ih, admit_ok]
    constructor
    · rintro ⟨h1, h2, h3, h4, h5, h6, h7⟩
      simp only [validB, Bool.and_eq_true, decide_eq_true_eq, List.all_eq_true] at h2
      refine .inr ⟨h2.1, h4, by simp; omega, ?_, ?_, ?_, ?_⟩
      · intro e he
        rcases List.mem_append.1 he with h | h
        · exact h2.2.2 e h
        · rw [List.mem_singleton.1 h]; exact h3
      · rw [RS_append]; simp [RS] at *; omega
      · rw [CS_append]; simp [CS] at *; omega
      · rw [List.pairwise_append]
        refine ⟨?_, by simp, fun a ha b hb => by rw [List.mem_singleton.1 hb]; exact h7 a ha⟩
        rcases h1 with rfl | h1
        · exact List.Pairwise.nil
        · exact h1.2.2.2.2.2.2
    · rintro (h | ⟨h1, h2, h3, h4, h5, h6, h7⟩)
      · simp at h
      · have hd : ∀ e ∈ l, demB e = true := fun e he => h4 e (by simp [he])
        have hp := sums_pos l hd
        have hd1 := h4 d (by simp)
        have hr := dem_range hd1
        rw [RS_append] at h5
        rw [CS_append] at h6
        rw [List.pairwise_append] at h7
        simp [RS, CS] at h5 h6 hp
        simp at h3
        refine ⟨.inr ⟨h1, h2, by omega, hd, by simp [RS]; omega, by simp [CS]; omega, h7.1⟩, ?_, hd1, h2, by simp [RS]; omega, by simp [CS]; omega, fun e he => h7.2.2 e he d (by simp)⟩
        simp only [validB, Bool.and_eq_true, decide_eq_true_eq, List.all_eq_true]
        exact ⟨h1, by omega, hd⟩

theorem fits_perm {c : Cap} {l k : List Dem} (h : l.Perm k) : fitsOf c l = fitsOf c k := by
  have key : ∀ {l k : List Dem}, l.Perm k → FitP c l → FitP c k := by
    rintro l k h (rfl | ⟨h1, h2, h3, h4, h5, h6, h7⟩)
    · exact .inl (List.nil_perm.1 h)
    · refine .inr ⟨h1, h2, by rw [← h.length_eq]; exact h3, fun d hd => h4 d (h.mem_iff.2 hd), ?_, ?_, (h.pairwise_iff ?_).1 h7⟩
      · have : RS k = RS l := sum_perm (h.symm.map _)
        omega
      · have : CS k = CS l := sum_perm (h.symm.map _)
        omega
      · intro a b hab
        rcases hab with hab | hab
        · by_cases ha : a.2.2.2 = 0
          · exact .inl ha
          · exact .inr (by omega)
        · exact .inr (Ne.symm hab)
  rw [Bool.eq_iff_iff, fits_iff, fits_iff]
  exact ⟨key h, key h.symm⟩

/-- One more guest, anywhere. -/
theorem fits_insert (c : Cap) (a b : List Dem) (d : Dem) : fitsOf c (a ++ ([d] ++ b)) = (fitsOf c (a ++ b) && decide (admitOf c (a ++ b) d = 0)) := by
  rw [← fitsOf_snoc]
  refine fits_perm ?_
  rw [List.append_assoc]
  exact List.Perm.append_left a List.perm_append_comm

/-! ### Placements -/
abbrev cap0 : Cap := ((0 : Int), (0 : Int), false)
abbrev dem0 : Dem := ((0 : Int), (0 : Int), (0 : Int), (0 : Int))

def inB (n : Nat) (on : List Int) : Bool := on.all fun x => decide (0 ≤ x) && decide (x < n)
def hfB (hosts : List Cap) (l : List Dem) (on : List Int) : Bool := (List.range hosts.length).all fun h => fitsOf (nth cap0 hosts h) (GU l on h)
def vB (hosts : List Cap) (l : List Dem) (on : List Int) : Bool :=
  decide (1 ≤ hosts.length) && (decide (hosts.length ≤ 6) && (decide (l.length ≤ 16) && (decide (on.length = l.length) && (inB hosts.length on && hfB hosts l on))))

theorem vB_iff (hosts : List Cap) (l : List Dem) (on : List Int) : vB hosts l on = true ↔ 1 ≤ hosts.length ∧ hosts.length ≤ 6 ∧ l.length ≤ 16 ∧ on.length = l.length ∧ (∀ x ∈ on, 0 ≤ x ∧ x < hosts.length) ∧ ∀ h : Nat, h < hosts.length → fitsOf (nth cap0 hosts h) (GU l on h) = true := by
  simp only [vB, inB, hfB, Bool.and_eq_true, decide_eq_true_eq, List.all_eq_true, List.mem_range]

theorem range_get {n i x : Nat} (h : (List.range n)[i]? = some x) : i < n ∧ x = i := by
  obtain ⟨hi, he⟩ := List.getElem?_eq_some_iff.1 h
  simp at hi he
  exact ⟨hi, he.symm⟩

theorem pvalid_eq (hosts : List Cap) (l : List Dem) (on : List Int) : balance_valid.f hosts l on = some (vB hosts l on) := by
  unfold balance_valid.f vB
  by_cases h1 : 1 ≤ hosts.length
  · by_cases h2 : hosts.length ≤ 6
    · by_cases h3 : l.length ≤ 16
      · by_cases h4 : on.length = l.length
        · have e1 : ¬ (hosts.length : Int) < 1 := by omega
          have e2 : ¬ (hosts.length : Int) > 6 := by omega
          have e3 : ¬ (l.length : Int) > 16 := by omega
          have e4 : (on.length : Int) = l.length := by omega
          simp only [e1, e2, e3, h1, h2, h3, h4, decide_true, decide_false, cond_false, Bool.not_true, Bool.true_and]
          rw [loop_all on (fun x => decide (0 ≤ x) && decide (x < (hosts.length : Int))) (.inr false) (.inl ()) ?h1 ?h2]
          · show _ = some (inB hosts.length on && hfB hosts l on)
            have : inB hosts.length on = on.all (fun x => decide (0 ≤ x) && decide (x < (hosts.length : Int))) := rfl
            rw [this]
            cases on.all (fun x => decide (0 ≤ x) && decide (x < (hosts.length : Int))) with
            | false => rfl
            | true =>
              simp only [if_true, Option.bind_some, Bool.true_and]
              rw [loop_all (List.range hosts.length) (fun h => fitsOf (nth cap0 hosts h) (GU l on h)) (.inr false) (.inl ()) ?h3 ?h4]
              · unfold hfB
                cases (List.range hosts.length).all (fun h => fitsOf (nth cap0 hosts h) (GU l on h)) <;> rfl
              case h3 =>
                intro i x hx
                obtain ⟨hi, rfl⟩ := range_get hx
                have h5 : (x : Int) < hosts.length := by omega
                have h6 : 0 ≤ (x : Int) ∧ (x : Int) < hosts.length := ⟨by omega, h5⟩
                simp only [h5, decide_true, cond_true, h6, and_self, if_true]
                rw [guests_eq l on x (by omega) (by omega), Option.bind_some, wrap_i64 (n := (x : Int) + 1) (by omega) (by omega)]
                have e : ((nth ((0 : Int), (0 : Int), false) hosts x).1, (nth ((0 : Int), (0 : Int), false) hosts x).2) = nth cap0 hosts x := rfl
                have hg := GU_len l on x
                rw [e, fits_eq _ _ (by omega)]
                cases fitsOf (nth cap0 hosts x) (GU l on x) <;> rfl
              case h4 => simp
          case h1 =>
            intro i x hx
            have hi := idx_lt hx
            have hb : 0 ≤ (i : Int) ∧ (i : Int) < on.length := ⟨by omega, hi⟩
            rw [h4] at hi hb
            simp only [hi, decide_true, cond_true, hb, and_self, if_true, nth_some hx]
            rw [wrap_i64 (n := (i : Int) + 1) (by omega) (by omega)]
            by_cases g1 : x < 0
            · have g1' : ¬ 0 ≤ x := by omega
              simp [g1, g1']
            · have g1' : 0 ≤ x := by omega
              by_cases g2 : x ≥ (hosts.length : Int)
              · have g2' : ¬ x < (hosts.length : Int) := by omega
                simp only [g1, g2, g1', g2', decide_true, decide_false, cond_true, cond_false, Bool.and_false, Bool.false_eq_true, if_false]
              · have g2' : x < (hosts.length : Int) := by omega
                simp only [g1, g2, g1', g2', decide_true, decide_false, cond_true, cond_false, Bool.and_self, if_true]
          case h2 => simp [h4]
        · have e4 : ¬ (on.length : Int) = l.length := by omega
          have e1 : ¬ (hosts.length : Int) < 1 := by omega
          have e2 : ¬ (hosts.length : Int) > 6 := by omega
          have e3 : ¬ (l.length : Int) > 16 := by omega
          simp [e1, e2, e3, e4, h1, h2, h3, h4]
      · have e1 : ¬ (hosts.length : Int) < 1 := by omega
        have e2 : ¬ (hosts.length : Int) > 6 := by omega
        have e3 : (l.length : Int) > 16 := by omega
        simp [e1, e2, e3, h1, h2, h3]
    · have e1 : ¬ (hosts.length : Int) < 1 := by omega
      have e2 : (hosts.length : Int) > 6 := by omega
      simp [e1, e2, h1, h2]
  · have e1 : (hosts.length : Int) < 1 := by omega
    simp [e1, h1]

theorem there_eq (hosts : List Cap) (x : Int) : vmfleetref39_there.f hosts x = some (decide (0 ≤ x) && decide (x < (hosts.length : Int))) := by
  unfold vmfleetref39_there.f
  have e : decide (x ≥ 0) = decide (0 ≤ x) := rfl
  rw [e]
  cases decide (0 ≤ x) <;> simp

theorem place_eq (hosts : List Cap) (l : List Dem) (on : List Int) : vmfleetref39_Placement.f hosts l on = some (vB hosts l on) := by
  unfold vmfleetref39_Placement.f vB
  by_cases h1 : 1 ≤ hosts.length
  · by_cases h2 : hosts.length ≤ 6
    · by_cases h3 : l.length ≤ 16
      · by_cases h4 : on.length = l.length
        · have e1 : ¬ (hosts.length : Int) < 1 := by omega
          have e2 : ¬ (hosts.length : Int) > 6 := by omega
          have e3 : ¬ (l.length : Int) > 16 := by omega
          have e4 : (on.length : Int) = l.length := by omega
          simp only [e1, e2, e3, h1, h2, h3, h4, decide_true, decide_false, cond_false, Bool.not_true, Bool.true_and]
          rw [loop_all on (fun x => decide (0 ≤ x) && decide (x < (hosts.length : Int))) (.inr false) (.inl ()) ?h1 ?h2]
          · show _ = some (inB hosts.length on && hfB hosts l on)
            have : inB hosts.length on = on.all (fun x => decide (0 ≤ x) && decide (x < (hosts.length : Int))) := rfl
            rw [this]
            cases on.all (fun x => decide (0 ≤ x) && decide (x < (hosts.length : Int))) with
            | false => rfl
            | true =>
              simp only [if_true, Option.bind_some, Bool.true_and]
              rw [loop_all (List.range hosts.length) (fun h => fitsOf (nth cap0 hosts h) (GU l on h)) (.inr false) (.inl ()) ?h3 ?h4]
              · unfold hfB
                cases (List.range hosts.length).all (fun h => fitsOf (nth cap0 hosts h) (GU l on h)) <;> rfl
              case h3 =>
                intro i x hx
                obtain ⟨hi, rfl⟩ := range_get hx
                have h5 : (x : Int) < hosts.length := by omega
                have h6 : 0 ≤ (x : Int) ∧ (x : Int) < hosts.length := ⟨by omega, h5⟩
                simp only [h5, decide_true, cond_true, h6, and_self, if_true]
                rw [at_eq l on x (-1) (by omega) (by omega), AT_neg _ _ _ _ (by decide), Option.bind_some, wrap_i64 (n := (x : Int) + 1) (by omega) (by omega)]
                have e : ((nth ((0 : Int), (0 : Int), false) hosts x).1, (nth ((0 : Int), (0 : Int), false) hosts x).2) = nth cap0 hosts x := rfl
                have hg := GU_len l on x
                rw [e, rfits_eq _ _ (by omega)]
                cases fitsOf (nth cap0 hosts x) (GU l on x) <;> rfl
              case h4 => simp
          case h1 =>
            intro i x hx
            have hi := idx_lt hx
            have hb : 0 ≤ (i : Int) ∧ (i : Int) < on.length := ⟨by omega, hi⟩
            rw [h4] at hi hb
            simp only [hi, decide_true, cond_true, hb, and_self, if_true, nth_some hx]
            rw [wrap_i64 (n := (i : Int) + 1) (by omega) (by omega), there_eq, Option.bind_some]
            cases (decide (0 ≤ x) && decide (x < (hosts.length : Int))) <;> rfl
          case h2 => simp [h4]
        · have e4 : ¬ (on.length : Int) = l.length := by omega
          have e1 : ¬ (hosts.length : Int) < 1 := by omega
          have e2 : ¬ (hosts.length : Int) > 6 := by omega
          have e3 : ¬ (l.length : Int) > 16 := by omega
          simp [e1, e2, e3, e4, h1, h2, h3, h4]
      · have e1 : ¬ (hosts.length : Int) < 1 := by omega
        have e2 : ¬ (hosts.length : Int) > 6 := by omega
        have e3 : (l.length : Int) > 16 := by omega
        simp [e1, e2, e3, h1, h2, h3]
    · have e1 : ¬ (hosts.length : Int) < 1 := by omega
      have e2 : (hosts.length : Int) > 6 := by omega
      simp [e1, e2, h1, h2]
  · have e1 : (hosts.length : Int) < 1 := by omega
    simp [e1, h1]

/-! ### Loads -/
def loadOf (c : Cap) (l : List Dem) : Int := if hostB c = true ∧ demsB l = true ∧ ¬ c.1 = 0 then IntKind.wrap .i64 (Int.tdiv (IntKind.wrap .i64 (RS l * 1000)) c.1) else 0

theorem load_fold : ∀ (l : List Dem) (s : Int), foldE (S := Int) (Z := Int ⊕ Int) (fun s d => if demB d = true then .inl (s + d.1) else .inr (.inr 0)) (fun s => .inl s) s l = if l.all demB = true then .inl (s + RS l) else .inr 0
  | [], s => by simp [foldE, RS]
  | d :: l, s => by
    simp only [foldE, List.all_cons]
    by_cases hd : demB d = true
    · simp only [hd, if_true, Bool.true_and]
      rw [load_fold l]
      simp only [RS, List.map_cons, List.sum_cons, Int.add_assoc]
    · have hd' : demB d = false := by simpa using hd
      simp [hd']

theorem pload_eq (c : Cap) (l : List Dem) : balance_Load.f c l = some (loadOf c l) := by
  unfold balance_Load.f loadOf demsB
  rw [host_eq]
  cases hh : hostB c with
  | false => simp
  | true =>
    by_cases h0 : c.1 = 0
    · simp [h0]
    · by_cases hl : l.length ≤ 16
      · have hl' : ¬ (l.length : Int) > 16 := by omega
        simp only [Option.bind_some, Bool.not_true, cond_false, h0, hl', decide_false, if_false, hl, decide_true, Bool.true_and, true_and, not_false_eq_true, and_true]
        refine bindE (loop_list (fun (s : Int) i => (s, i)) l (fun s d => if demB d = true then Sum.inl (s + d.1) else Sum.inr (Sum.inr (0 : Int))) (fun s => (Sum.inl s : Int ⊕ Int)) 0 (fun s i => 0 ≤ s ∧ s ≤ i * 1000000) (by simp) (fun i x s hx hI => ⟨?_, fun s' hs' => ?_⟩) (fun s _ => ?_)) ?_
        rotate_left 3
        · rw [load_fold]
          cases l.all demB with
          | false => simp
          | true => simp
        · have hi := idx_lt hx
          have h2 : 0 ≤ (i : Int) ∧ (i : Int) < l.length := ⟨by omega, hi⟩
          simp only [hi, decide_true, cond_true, h2, and_self, if_true, nth_some hx]
          have e : (x.1, x.2.1, x.2.2) = x := rfl
          rw [e, dem_eq, Option.bind_some, wrap_i64 (n := (i : Int) + 1) (by omega) (by omega)]
          cases hd : demB x with
          | false => simp
          | true =>
            have := dem_range hd
            rw [wrap_i64 (by omega) (by omega)]
            simp
        · have hi := idx_lt hx
          cases hd : demB x with
          | false => rw [hd] at hs'; simp at hs'
          | true =>
            have := dem_range hd
            rw [hd] at hs'
            simp at hs'
            subst hs'
            constructor
            · omega
            · push_cast
              omega
        · simp
      · have hl' : (l.length : Int) > 16 := by omega
        simp [hl, hl', h0]

theorem RS_bound : ∀ (l : List Dem), (∀ d ∈ l, demB d = true) → RS l ≤ l.length * 1000000
  | [], _ => by simp [RS]
  | d :: l, h => by
    have h1 := dem_range (h d (by simp))
    have h2 := RS_bound l (fun d hd => h d (by simp [hd]))
    simp only [RS, List.map_cons, List.sum_cons, List.length_cons] at *
    push_cast
    omega

theorem rload_eq (c : Cap) (l : List Dem) : vmfleetref39_Load.f c l = some (loadOf c l) := by
  unfold vmfleetref39_Load.f loadOf
  rw [rhost_eq, rdems_eq, rfree_eq]
  cases hh : hostB c with
  | false => simp
  | true =>
    cases hv : demsB l with
    | false => simp
    | true =>
      by_cases h0 : c.1 = 0
      · simp [h0]
      · have hva : validB c l = true := by rw [validB_eq, hh, hv]; rfl
        have hfr : frOf c l = (c.1 - RS l, c.2.1 - CS l) := by unfold frOf; rw [if_pos hva, free_val hva]
        have hv2 := hv
        simp only [demsB, Bool.and_eq_true, decide_eq_true_eq, List.all_eq_true] at hv2
        have hb := RS_bound l hv2.2
        have hp := sums_pos l hv2.2
        have hc := host_range hh
        simp only [Option.bind_some, Bool.not_true, cond_false, h0, decide_false, if_false, hfr]
        have e : c.1 - (c.1 - RS l) = RS l := by omega
        rw [e, wrap_i64 (n := RS l) (by omega) (by omega)]
        simp

end Go.Proofs.Ytondojojpgmjcaa.Fn
