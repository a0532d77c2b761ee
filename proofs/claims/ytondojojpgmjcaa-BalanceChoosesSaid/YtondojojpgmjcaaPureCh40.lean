/- Balance (chapter 40), in plain Lean: what the functions compute, the program's and the reference's. -/
import Derived.Test.YtondojojpgmjcaaPureAdm
set_option linter.unusedVariables false
set_option linter.unusedSimpArgs false
namespace Go.Proofs.Ytondojojpgmjcaa.Fn
open Go Lift

abbrev Cap := Int × Int × Bool

theorem bindE {α β : Type} {a : Option α} {x : α} {f : α → Option β} {r : Option β} (h : a = some x) (k : f x = r) : a.bind f = r := by
  rw [h]; exact k

/-- The guests on a host. -/
def GU : List Dem → List Int → Int → List Dem
  | d :: l, x :: on, h => (if x = h then [d] else []) ++ GU l on h
  | _, _, _ => []
/-- The guests on a host, but for one. -/
def AT : List Dem → List Int → Int → Int → List Dem
  | d :: l, x :: on, h, but => (if x = h ∧ ¬ but = 0 then [d] else []) ++ AT l on h (but - 1)
  | _, _, _, _ => []

theorem AT_neg : ∀ (l : List Dem) (on : List Int) (h but : Int), but < 0 → AT l on h but = GU l on h
  | [], _, _, _, _ => by simp [AT, GU]
  | _ :: _, [], _, _, _ => by simp [AT, GU]
  | d :: l, x :: on, h, but, hb => by
    have h0 : ¬ but = 0 := by omega
    simp only [AT, GU, h0, not_false_eq_true, and_true]
    rw [AT_neg l on h (but - 1) (by omega)]

theorem AT_append : ∀ (l k : List Dem) (on m : List Int) (h but : Int), l.length = on.length → AT (l ++ k) (on ++ m) h but = AT l on h but ++ AT k m h (but - l.length)
  | [], k, [], m, h, but, _ => by simp [AT]
  | d :: l, k, x :: on, m, h, but, e => by
    simp only [List.cons_append, AT, List.append_assoc]
    rw [AT_append l k on m h (but - 1) (by simpa using e)]
    have : but - 1 - (l.length : Int) = but - ((d :: l).length : Nat) := by simp; omega
    rw [this]

theorem GU_append (l k : List Dem) (on m : List Int) (h : Int) (e : l.length = on.length) : GU (l ++ k) (on ++ m) h = GU l on h ++ GU k m h := by
  rw [← AT_neg _ _ _ (-1) (by decide), ← AT_neg l _ _ (-1) (by decide), ← AT_neg k _ _ (-1 - l.length) (by omega), AT_append _ _ _ _ _ _ e]

theorem AT_len : ∀ (l : List Dem) (on : List Int) (h but : Int), (AT l on h but).length ≤ l.length
  | [], _, _, _ => by simp [AT]
  | _ :: _, [], _, _ => by simp [AT]
  | d :: l, x :: on, h, but => by
    simp only [AT]
    have := AT_len l on h (but - 1)
    split <;> simp <;> omega

theorem GU_len (l : List Dem) (on : List Int) (h : Int) : (GU l on h).length ≤ l.length := by
  rw [← AT_neg _ _ _ (-1) (by decide)]; exact AT_len _ _ _ _

theorem take_snoc {α : Type} {l : List α} {i : Nat} (h : i < l.length) : l.take (i + 1) = l.take i ++ [l[i]] := by
  rw [List.take_add_one, List.getElem?_eq_getElem h]; rfl

theorem nth_lt {α : Type} {d : α} {l : List α} {i : Nat} (h : i < l.length) : nth d l i = l[i] := nth_some (List.getElem?_eq_getElem h)

theorem AT_step {l : List Dem} {on : List Int} (h but : Int) {i : Nat} (hi : i < l.length) (ho : i < on.length) :
    AT (l.take (i + 1)) (on.take (i + 1)) h but = AT (l.take i) (on.take i) h but ++ (if on[i] = h ∧ ¬ (i : Int) = but then [l[i]] else []) := by
  rw [take_snoc hi, take_snoc ho, AT_append _ _ _ _ _ _ (by simp; omega)]
  congr 1
  simp only [AT, List.append_nil, List.length_take]
  have : (but - (min i l.length : Nat) = 0) ↔ ((i : Int) = but) := by omega
  simp only [this]

theorem GU_step {l : List Dem} {on : List Int} (h : Int) {i : Nat} (hi : i < l.length) (ho : i < on.length) :
    GU (l.take (i + 1)) (on.take (i + 1)) h = GU (l.take i) (on.take i) h ++ (if on[i] = h then [l[i]] else []) := by
  rw [← AT_neg _ _ _ (-1) (by decide), ← AT_neg _ _ _ (-1) (by decide), AT_step h (-1) hi ho]
  have : ¬ (i : Int) = -1 := by omega
  simp [this]

theorem AT_full (l : List Dem) (on : List Int) (h but : Int) (e : l.length ≤ on.length) : AT l (on.take l.length) h but = AT l on h but := by
  induction l generalizing on but with
  | nil => simp [AT]
  | cons d l ih =>
    cases on with
    | nil => simp at e
    | cons x on =>
      simp only [List.length_cons, List.take_succ_cons, AT]
      rw [ih on (but - 1) (by simpa using e)]

theorem guests_eq (l : List Dem) (on : List Int) (h : Int) (hl : l.length ≤ on.length) (hb : l.length ≤ 1000000) : balance_guests.f l on h = some (GU l on h) := by
  unfold balance_guests.f
  refine bindE (loop_at (fun i => (GU (l.take i) (on.take i) h, (i : Int))) l.length (.inl (GU l on h)) (fun i hi => ?_) ?_) rfl
  · have h1 : (i : Int) < l.length := by omega
    have h2 : 0 ≤ (i : Int) ∧ (i : Int) < l.length := ⟨by omega, h1⟩
    have h3 : 0 ≤ (i : Int) ∧ (i : Int) < on.length := ⟨by omega, by omega⟩
    simp only [h1, decide_true, cond_true, h2, h3, and_self, if_true, nth_lt hi, nth_lt (show i < on.length by omega)]
    rw [GU_step h hi (by omega), wrap_i64 (n := (i : Int) + 1) (by omega) (by omega)]
    by_cases hx : on[i] = h
    · have := GU_len (l.take i) (on.take i) h
      simp only [List.length_take] at this
      have hs : ((GU (l.take i) (on.take i) h).length + ([(l[i].1, l[i].2.1, l[i].2.2)] : List Dem).length) * 32 ≤ 70368744177664 := by simp only [List.length_singleton]; omega
      simp only [hx, decide_true, cond_true, hs, if_true]
      rfl
    · simp only [hx, decide_false, cond_false, if_false, List.append_nil]
      rfl
  · simp only [Int.lt_irrefl, decide_false, cond_false, List.take_length]
    rw [← AT_neg _ _ _ (-1) (by decide), AT_full _ _ _ _ hl, AT_neg _ _ _ _ (by decide)]

theorem at_eq (l : List Dem) (on : List Int) (h but : Int) (hl : l.length ≤ on.length) (hb : l.length ≤ 1000000) : vmfleetref39_at.f l on h but = some (AT l on h but) := by
  unfold vmfleetref39_at.f
  refine bindE (loop_at (fun i => (AT (l.take i) (on.take i) h but, (i : Int))) l.length (.inl (AT l on h but)) (fun i hi => ?_) ?_) rfl
  · have h1 : (i : Int) < l.length := by omega
    have h2 : 0 ≤ (i : Int) ∧ (i : Int) < l.length := ⟨by omega, h1⟩
    have h3 : 0 ≤ (i : Int) ∧ (i : Int) < on.length := ⟨by omega, by omega⟩
    simp only [h1, decide_true, cond_true, h2, h3, and_self, if_true, nth_lt hi, nth_lt (show i < on.length by omega)]
    rw [AT_step h but hi (by omega), wrap_i64 (n := (i : Int) + 1) (by omega) (by omega)]
    by_cases hx : on[i] = h
    · by_cases hbt : (i : Int) = but
      · simp only [hx, hbt, decide_true, cond_true, Option.bind_some, Bool.not_true, cond_false, not_true_eq_false, and_false, if_false, List.append_nil]
        rw [← hbt]
        rfl
      · have := AT_len (l.take i) (on.take i) h but
        simp only [List.length_take] at this
        have hs : ((AT (l.take i) (on.take i) h but).length + ([(l[i].1, l[i].2.1, l[i].2.2)] : List Dem).length) * 32 ≤ 70368744177664 := by simp only [List.length_singleton]; omega
        simp only [hx, hbt, decide_true, decide_false, cond_true, Option.bind_some, Bool.not_false, not_false_eq_true, and_true, if_true, hs]
        rfl
    · simp only [hx, decide_false, cond_false, if_false, List.append_nil, Option.bind_some, false_and]
      rfl
  · simp only [Int.lt_irrefl, decide_false, cond_false, List.take_length]
    rw [AT_full _ _ _ _ hl]

theorem clone_eq (s : List Int) (hb : s.length ≤ 1000000) : slices_Clone_int_int.f s = some s := by
  unfold slices_Clone_int_int.f
  have hs : (([] : List Int).length + s.length) * 8 ≤ 70368744177664 := by simp only [List.length_nil]; omega
  rw [if_pos hs, List.nil_append]
  cases s with
  | nil => simp [both]
  | cons x s => simp

/-! ### The reference's admission is the program's -/
theorem runit_eq (n : Int) : vmfleetref39_unit.f n = some (unitB n) := unit_eq n
theorem rhost_eq (c : Cap) : vmfleetref39_ValidCapacity.f c = some (hostB c) := host_eq c

theorem rdem_eq (d : Dem) : vmfleetref39_ValidDemand.f d = some (demB d) := by
  unfold vmfleetref39_ValidDemand.f demB
  rw [runit_eq, runit_eq]
  have e0 : decide (d.1 ≥ 0) = decide (0 ≤ d.1) := rfl
  have e1 : decide (d.2.2.2 ≥ 0) = decide (0 ≤ d.2.2.2) := rfl
  rw [e0, e1]
  cases unitB d.2.1 <;> cases unitB d.2.2.1 <;> cases decide (0 ≤ d.1) <;> cases decide (d.1 ≤ d.2.1) <;> simp

def demsB (l : List Dem) : Bool := decide (l.length ≤ 16) && l.all demB

theorem validB_eq (c : Cap) (l : List Dem) : validB c l = (hostB c && demsB l) := rfl

theorem rdems_eq (l : List Dem) : vmfleetref39_demands.f l = some (demsB l) := by
  unfold vmfleetref39_demands.f demsB
  by_cases hl : l.length ≤ 16
  · have hl' : ¬ (l.length : Int) > 16 := by omega
    simp only [hl', decide_false, cond_false, hl, decide_true, Bool.true_and]
    rw [loop_all l demB (.inr false) (.inl ()) ?h1 ?h2]
    · cases l.all demB <;> rfl
    case h1 =>
      intro i x hx
      have hi := idx_lt hx
      have h2 : 0 ≤ (i : Int) ∧ (i : Int) < l.length := ⟨by omega, hi⟩
      simp only [hi, decide_true, cond_true, h2, and_self, if_true, nth_some hx]
      have : (x.1, x.2.1, x.2.2) = x := rfl
      rw [this, rdem_eq]
      cases demB x
      · rfl
      · simp only [Option.bind_some, Bool.not_true, cond_false, if_true]
        rw [wrap_i64 (by omega) (by omega)]
    case h2 => simp
  · have hl' : (l.length : Int) > 16 := by omega
    simp [hl, hl']

/-- What is left, or nothing. -/
def frOf (c : Cap) (l : List Dem) : Int × Int := if validB c l = true then freeOf c l else (0, 0)

theorem rfree_eq (c : Cap) (l : List Dem) : vmfleetref39_Free.f c l = some (frOf c l) := by
  unfold vmfleetref39_Free.f frOf
  rw [rhost_eq, rdems_eq, validB_eq]
  cases hh : hostB c with
  | false => simp
  | true =>
    cases hv : demsB l with
    | false => simp
    | true =>
      have hl : l.length ≤ 16 := by
        simp only [demsB, Bool.and_eq_true, decide_eq_true_eq] at hv
        exact hv.1
      simp only [Option.bind_some, Bool.not_true, cond_false, if_true, Bool.and_self]
      refine bindE (loop_at (fun i => ((freeOf c (l.take i)).1, (freeOf c (l.take i)).2, (i : Int))) l.length (.inl (freeOf c l)) (fun i hi => ?_) ?_) rfl
      · have h1 : (i : Int) < l.length := by omega
        have h2 : 0 ≤ (i : Int) ∧ (i : Int) < l.length := ⟨by omega, h1⟩
        simp only [h1, decide_true, cond_true, h2, and_self, if_true, nth_lt hi]
        rw [take_snoc hi, wrap_i64 (n := (i : Int) + 1) (by omega) (by omega)]
        simp only [freeOf, List.foldl_append, List.foldl_cons, List.foldl_nil]
        rfl
      · simp only [Int.lt_irrefl, decide_false, cond_false, List.take_length]

theorem pfree_eq (c : Cap) (l : List Dem) : admission_Free.f c l = some (frOf c l) := by
  by_cases hl : l.length ≤ 16
  · rw [free_eq c l (by omega)]; rfl
  · unfold admission_Free.f frOf
    rw [valid_eq]
    have : validB c l = false := by simp [validB, hl]
    simp [this]

theorem radmit_eq (c : Cap) (l : List Dem) (d : Dem) : vmfleetref39_Admit.f c l d = some (admitOf c l d) := by
  unfold vmfleetref39_Admit.f admitOf
  rw [rhost_eq, rdem_eq, rdems_eq, validB_eq]
  cases hh : hostB c with
  | false => simp
  | true =>
    cases hd : demB d with
    | false => cases demsB l <;> simp
    | true =>
      cases hv : demsB l with
      | false => simp
      | true =>
        have hl : l.length ≤ 16 := by
          simp only [demsB, Bool.and_eq_true, decide_eq_true_eq] at hv
          exact hv.1
        have hfr : frOf c l = freeOf c l := by simp [frOf, validB_eq, hh, hv]
        simp only [Option.bind_some, Bool.not_true, cond_false, Bool.and_self, Bool.false_eq_true, if_false]
        cases hu : c.2.2 with
        | false => simp
        | true =>
          simp only [Bool.not_true, cond_false, rfree_eq, hfr, Option.bind_some, Bool.false_eq_true, if_false]
          by_cases h1 : (freeOf c l).1 < d.1
          · simp [h1]
          · by_cases h2 : (freeOf c l).2 < d.2.2.1
            · simp [h1, h2]
            · simp only [h1, h2, decide_false, cond_false, if_false]
              rw [loop_all l (fun e => !(decide (d.2.2.2 ≠ 0) && decide (e.2.2.2 = d.2.2.2))) (.inr 3903) (.inl ()) ?h1 ?h2]
              · by_cases h0 : d.2.2.2 = 0
                · simp [h0]
                · have : l.all (fun e => !(decide (d.2.2.2 ≠ 0) && decide (e.2.2.2 = d.2.2.2))) = !(l.any fun e => decide (e.2.2.2 = d.2.2.2)) := by
                    simp [h0, List.not_any_eq_all_not]
                  rw [this]
                  cases l.any fun e => decide (e.2.2.2 = d.2.2.2) <;> simp [h0]
              case h1 =>
                intro i x hx
                have hi := idx_lt hx
                have hb : 0 ≤ (i : Int) ∧ (i : Int) < l.length := ⟨by omega, hi⟩
                simp only [hi, decide_true, cond_true, hb, and_self, if_true, nth_some hx]
                rw [wrap_i64 (n := (i : Int) + 1) (by omega) (by omega)]
                by_cases h0 : d.2.2.2 = 0
                · simp [h0]
                · by_cases h3 : x.2.2.2 = d.2.2.2
                  · simp [h0, h3]
                  · simp [h0, h3]
              case h2 => simp

theorem rfits_eq (c : Cap) (l : List Dem) (hl : l.length ≤ 16) : vmfleetref39_Fits.f c l = some (fitsOf c l) := by
  unfold vmfleetref39_Fits.f fitsOf
  rw [loop_all (List.range l.length) (fun i => decide (admitOf c (l.take i) (l.getD i (0, 0, 0, 0)) = 0)) (.inr false) (.inl ()) ?h1 ?h2]
  · cases (List.range l.length).all _ <;> rfl
  case h1 =>
    intro i x hx
    obtain ⟨hi, he⟩ := List.getElem?_eq_some_iff.1 hx
    simp at hi he
    subst he
    have hi' : (i : Int) < l.length := by omega
    have hi17 : (i : Int) ≤ 17 := by omega
    have h1 : 0 ≤ (i : Int) ∧ (i : Int) < l.length := ⟨by omega, hi'⟩
    have h2 : 0 ≤ (i : Int) ∧ (i : Int) ≤ l.length := ⟨by omega, by omega⟩
    simp only [hi', hi17, decide_true, cond_true, h1, h2, and_self, if_true]
    rw [slc_take, radmit_eq]
    have hn : nth ((0 : Int), (0 : Int), (0 : Int), (0 : Int)) l i = l.getD i (0, 0, 0, 0) := by simp [nth]
    rw [hn, wrap_i64 (n := (i : Int) + 1) (by omega) (by omega)]
    simp only [Option.bind_some]
    have e : ((l.getD i (0, 0, 0, 0)).1, (l.getD i (0, 0, 0, 0)).2.1, (l.getD i (0, 0, 0, 0)).2.2) = l.getD i (0, 0, 0, 0) := rfl
    rw [e]
    by_cases h : admitOf c (l.take i) (l.getD i (0, 0, 0, 0)) = 0 <;> simp only [h, decide_true, decide_false, Bool.not_true, Bool.not_false, cond_true, cond_false, if_true, if_false, Bool.false_eq_true]
  case h2 => simp

end Go.Proofs.Ytondojojpgmjcaa.Fn
