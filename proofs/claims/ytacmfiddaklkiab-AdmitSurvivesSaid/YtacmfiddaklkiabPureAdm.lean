/- The admission's functions, in plain Lean: what each computes. -/
import Derived.Test.YtacmfiddaklkiabFns
set_option linter.unusedVariables false
set_option linter.unusedSimpArgs false
namespace Go.Proofs.Ytacmfiddaklkiab.Fn
open Go Lift

abbrev Dem := Int × Int × Int × Int

def unitB (n : Int) : Bool := decide (0 ≤ n) && decide (n ≤ 1000000)
def hostB (c : Int × Int × Bool) : Bool := unitB c.1 && unitB c.2.1
def demB (d : Dem) : Bool := decide (0 ≤ d.1) && (decide (d.1 ≤ d.2.1) && (unitB d.2.1 && (unitB d.2.2.1 && decide (0 ≤ d.2.2.2))))
def validB (c : Int × Int × Bool) (l : List Dem) : Bool := hostB c && (decide (l.length ≤ 16) && l.all demB)
def freeOf (c : Int × Int × Bool) (l : List Dem) : Int × Int := l.foldl (fun s d => (IntKind.wrap .i64 (s.1 - d.1), IntKind.wrap .i64 (s.2 - d.2.2.1))) (c.1, c.2.1)
def admitOf (c : Int × Int × Bool) (l : List Dem) (d : Dem) : Int :=
  if !validB c l then 3900 else if !demB d then 3900 else if !c.2.2 then 3904 else if (freeOf c l).1 < d.1 then 3901 else if (freeOf c l).2 < d.2.2.1 then 3902
  else if d.2.2.2 ≠ 0 ∧ l.any (fun e => decide (e.2.2.2 = d.2.2.2)) = true then 3903 else 0

theorem unit_eq (n : Int) : admission_unit.f n = some (unitB n) := by
  unfold admission_unit.f unitB
  by_cases h : n ≥ 0
  · have h' : 0 ≤ n := h
    simp [h, h']
  · have h' : ¬ 0 ≤ n := h
    simp [h, h']

theorem host_eq (c : Int × Int × Bool) : admission_ValidHost.f c = some (hostB c) := by
  unfold admission_ValidHost.f hostB
  rw [unit_eq, unit_eq]
  cases unitB c.1 <;> simp

theorem dem_eq (d : Dem) : admission_ValidDemand.f d = some (demB d) := by
  unfold admission_ValidDemand.f demB
  rw [unit_eq, unit_eq]
  by_cases h1 : d.1 ≥ 0
  · have h1' : 0 ≤ d.1 := h1
    by_cases h2 : d.1 ≤ d.2.1
    · cases h3 : unitB d.2.1 <;> cases h4 : unitB d.2.2.1 <;> simp [h1, h1', h2]
    · simp [h1, h1', h2]
  · have h1' : ¬ 0 ≤ d.1 := h1
    simp [h1, h1']

theorem valid_eq (c : Int × Int × Bool) (l : List Dem) : admission_valid.f c l = some (validB c l) := by
  unfold admission_valid.f validB
  rw [host_eq]
  cases hh : hostB c with
  | false => simp
  | true =>
    by_cases hl : l.length ≤ 16
    · have hl' : ¬ (l.length : Int) > 16 := by omega
      simp only [Option.bind_some, Bool.not_true, cond_false, hl', decide_false, hl, decide_true, Bool.true_and]
      rw [loop_all l demB (.inr false) (.inl ()) ?h1 ?h2]
      · cases l.all demB <;> rfl
      case h1 =>
        intro i x hx
        have hi := idx_lt hx
        have h2 : 0 ≤ (i : Int) ∧ (i : Int) < l.length := ⟨by omega, hi⟩
        simp only [hi, decide_true, cond_true, h2, and_self, if_true, nth_some hx]
        have : (x.1, x.2.1, x.2.2) = x := rfl
        rw [this, dem_eq]
        cases demB x
        · rfl
        · simp only [Option.bind_some, Bool.not_true, cond_false, if_true]
          rw [wrap_i64 (by omega) (by omega)]
      case h2 => simp
    · have hl' : (l.length : Int) > 16 := by omega
      simp [hl, hl']

theorem free_eq (c : Int × Int × Bool) (l : List Dem) (hl : l.length ≤ 1000000) : admission_Free.f c l = some (if validB c l = true then freeOf c l else (0, 0)) := by
  unfold admission_Free.f
  rw [valid_eq]
  cases hv : validB c l with
  | false => simp
  | true =>
    simp only [Option.bind_some, Bool.not_true, cond_false, if_true]
    rw [loop_list (fun (s : Int × Int) i => (s.1, s.2, i)) l (fun s d => .inl (IntKind.wrap .i64 (s.1 - d.1), IntKind.wrap .i64 (s.2 - d.2.2.1))) (fun s => .inl s) (c.1, c.2.1) (fun _ _ => True) trivial (fun i x s hx _ => ⟨?_, fun _ _ => trivial⟩) (fun s _ => ?_)]
    · have : ∀ (l : List Dem) (s : Int × Int), foldE (Z := (Int × Int) ⊕ (Int × Int)) (fun s d => .inl (IntKind.wrap .i64 (s.1 - d.1), IntKind.wrap .i64 (s.2 - d.2.2.1))) (fun s => .inl s) s l = .inl (l.foldl (fun s d => (IntKind.wrap .i64 (s.1 - d.1), IntKind.wrap .i64 (s.2 - d.2.2.1))) s) := by
        intro l
        induction l with
        | nil => intro s; rfl
        | cons x l ih => intro s; simp only [foldE, List.foldl_cons]; exact ih _
      rw [this]
      rfl
    · have hi := idx_lt hx
      have h2 : 0 ≤ (i : Int) ∧ (i : Int) < l.length := ⟨by omega, hi⟩
      simp only [hi, decide_true, cond_true, h2, and_self, if_true, nth_some hx]
      rw [wrap_i64 (n := (i : Int) + 1) (by omega) (by omega)]
    · simp

theorem admit_eq (c : Int × Int × Bool) (l : List Dem) (d : Dem) : admission_Admit.f c l d = some (admitOf c l d) := by
  unfold admission_Admit.f admitOf
  rw [valid_eq, dem_eq]
  cases hv : validB c l with
  | false => simp
  | true =>
    have hl : l.length ≤ 16 := by
      simp only [validB, Bool.and_eq_true, decide_eq_true_eq] at hv
      exact hv.2.1
    simp only [Option.bind_some, Bool.not_true, cond_false]
    cases hd : demB d with
    | false => simp
    | true =>
      rw [free_eq c l (by omega), hv]
      simp only [Option.bind_some, Bool.not_true, cond_false, if_true]
      cases hu : c.2.2 with
      | false => simp
      | true =>
        simp only [Bool.not_true, cond_false]
        by_cases h1 : (freeOf c l).1 < d.1
        · simp [h1]
        · by_cases h2 : (freeOf c l).2 < d.2.2.1
          · simp [h1, h2]
          · simp only [h1, h2, decide_false, cond_false]
            rw [loop_all l (fun e => !(decide (d.2.2.2 ≠ 0) && decide (e.2.2.2 = d.2.2.2))) (.inr 3903) (.inl ()) ?h1 ?h2]
            · by_cases h0 : d.2.2.2 = 0
              · simp [h0]
              · have : l.all (fun e => !(decide (d.2.2.2 ≠ 0) && decide (e.2.2.2 = d.2.2.2))) = !(l.any fun e => decide (e.2.2.2 = d.2.2.2)) := by
                  simp [h0, List.not_any_eq_all_not]
                rw [this]
                cases l.any fun e => decide (e.2.2.2 = d.2.2.2) <;> simp [h0]
            case h1 =>
              intro i x hx
              have hi := idx_lt hx
              have hb : 0 ≤ (i : Int) ∧ (i : Int) < l.length := ⟨by omega, hi⟩
              simp only [hi, decide_true, cond_true, hb, and_self, if_true, nth_some hx]
              rw [wrap_i64 (n := (i : Int) + 1) (by omega) (by omega)]
              by_cases h0 : d.2.2.2 = 0
              · simp [h0]
              · by_cases h3 : x.2.2.2 = d.2.2.2
                · simp [h0, h3]
                · simp [h0, h3]
            case h2 => simp

/-- The guests fit, one after another. -/
def fitsOf (c : Int × Int × Bool) (l : List Dem) : Bool := (List.range l.length).all fun i => decide (admitOf c (l.take i) (l.getD i (0, 0, 0, 0)) = 0)

theorem fits_eq (c : Int × Int × Bool) (l : List Dem) (hl : l.length ≤ 1000000) : admission_Fits.f c l = some (fitsOf c l) := by
  unfold admission_Fits.f fitsOf
  rw [loop_all (List.range l.length) (fun i => decide (admitOf c (l.take i) (l.getD i (0, 0, 0, 0)) = 0)) (.inr false) (.inl ()) ?h1 ?h2]
  · cases (List.range l.length).all _ <;> rfl
  case h1 =>
    intro i x hx
    obtain ⟨hi, he⟩ := List.getElem?_eq_some_iff.1 hx
    simp at hi he
    subst he
    have hi' : (i : Int) < l.length := by omega
    have h1 : 0 ≤ (i : Int) ∧ (i : Int) < l.length := ⟨by omega, hi'⟩
    have h2 : 0 ≤ (i : Int) ∧ (i : Int) ≤ l.length := ⟨by omega, by omega⟩
    simp only [hi', decide_true, cond_true, h1, h2, and_self, if_true]
    rw [slc_take, admit_eq]
    have hn : nth ((0 : Int), (0 : Int), (0 : Int), (0 : Int)) l i = l.getD i (0, 0, 0, 0) := by simp [nth]
    rw [hn, wrap_i64 (n := (i : Int) + 1) (by omega) (by omega)]
    simp only [Option.bind_some]
    have e : ((l.getD i (0, 0, 0, 0)).1, (l.getD i (0, 0, 0, 0)).2.1, (l.getD i (0, 0, 0, 0)).2.2) = l.getD i (0, 0, 0, 0) := rfl
    rw [e]
    by_cases h : admitOf c (l.take i) (l.getD i (0, 0, 0, 0)) = 0 <;> simp only [h, decide_true, decide_false, Bool.not_true, Bool.not_false, cond_true, cond_false, if_true, if_false, Bool.false_eq_true]
  case h2 => simp

theorem fitsOf_snoc (c : Int × Int × Bool) (l : List Dem) (d : Dem) : fitsOf c (l ++ [d]) = (fitsOf c l && decide (admitOf c l d = 0)) := by
  unfold fitsOf
  rw [List.length_append, List.length_singleton, List.range_succ, List.all_append]
  congr 1
  · rw [Bool.eq_iff_iff, List.all_eq_true, List.all_eq_true]
    constructor
    · intro h i hi
      have := h i hi
      rw [List.mem_range] at hi
      rwa [List.take_append_of_le_length (by omega), getD_snoc hi] at this
    · intro h i hi
      have := h i hi
      rw [List.mem_range] at hi
      rwa [List.take_append_of_le_length (by omega), getD_snoc hi]
  · simp

theorem round_some (n k : Int) (hk : 0 < k) (hk2 : k < 9223372036854775807) : ∃ r, vmfleetmake_Round.f n k = some r ∧ 0 ≤ r ∧ r < k := by
  unfold vmfleetmake_Round.f
  have h0 : ¬ k = 0 := by omega
  simp only [h0, if_false]
  have h1 := Int.tmod_lt_of_pos n hk
  have h2 : -k < Int.tmod n k := by have := Int.lt_tmod_of_pos n hk; omega
  by_cases h : Int.tmod n k < 0
  · simp only [h, decide_true, cond_true, Option.some.injEq, exists_eq_left']
    rw [wrap_i64 (by omega) (by omega)]
    omega
  · simp only [h, decide_false, cond_false, Option.some.injEq, exists_eq_left']
    omega

end Go.Proofs.Ytacmfiddaklkiab.Fn
