/- Balance (chapter 40), in plain Lean: spreads, choices, moves. -/
import Derived.Test.YtondojojpgmjcaaPureCh40b
set_option linter.unusedVariables false
set_option linter.unusedSimpArgs false
namespace Go.Proofs.Ytondojojpgmjcaa.Fn
open Go Lift

/-! ### Spreads -/
def minL : List Int → Int
  | [] => 0
  | x :: l => l.foldl min x
def maxL : List Int → Int
  | [] => 0
  | x :: l => l.foldl max x

theorem maxL_snoc {l : List Int} (h : l ≠ []) (x : Int) : maxL (l ++ [x]) = max (maxL l) x := by
  cases l with
  | nil => exact absurd rfl h
  | cons a l => simp [maxL]
theorem minL_snoc {l : List Int} (h : l ≠ []) (x : Int) : minL (l ++ [x]) = min (minL l) x := by
  cases l with
  | nil => exact absurd rfl h
  | cons a l => simp [minL]

theorem smax_eq (x : List Int) (h : x ≠ []) (hb : x.length ≤ 1000000) : slices_Max_int_int.f x = some (maxL x) := by
  have hp : 0 < x.length := List.length_pos_iff.2 h
  unfold slices_Max_int_int.f
  have e1 : ¬ (x.length : Int) < 1 := by omega
  have e2 : 0 ≤ (0 : Int) ∧ (0 : Int) < x.length := ⟨by omega, by omega⟩
  simp only [e1, decide_false, cond_false, e2, and_self, if_true]
  refine bindE (x := .inl (maxL x)) ?_ rfl
  have := loop_at (step := fun (x1 : Int × Int) =>
        bif decide (x1.2 < (x.length : Int)) then
          if 0 ≤ x1.2 ∧ x1.2 < (x.length : Int) then
            some (.inl (max x1.1 (nth (0 : Int) x x1.2), IntKind.wrap .i64 (x1.2 + 1)))
          else none
        else
          some (.inr ((.inl x1.1 : (Int) ⊕ (Int))))) (fun i => (maxL (x.take (i + 1)), ((i + 1 : Nat) : Int))) (x.length - 1) (.inl (maxL x)) (fun i hi => ?_) ?_
  · rw [← this]
    congr 1
    cases x with
    | nil => exact absurd rfl h
    | cons a x => simp [maxL, nth]
  · have h1 : ((i + 1 : Nat) : Int) < x.length := by omega
    have h2 : 0 ≤ ((i + 1 : Nat) : Int) ∧ ((i + 1 : Nat) : Int) < x.length := ⟨by omega, h1⟩
    simp only [h1, decide_true, cond_true, h2, and_self, if_true, nth_lt (show i + 1 < x.length by omega)]
    rw [wrap_i64 (by omega) (by omega), take_snoc (i := i + 1) (by omega), maxL_snoc (List.ne_nil_of_length_pos (by rw [List.length_take]; omega))]
    rfl
  · have e : ((x.length - 1 + 1 : Nat) : Int) = x.length := by omega
    simp only [e, Int.lt_irrefl, decide_false, cond_false]
    rw [List.take_of_length_le (by omega)]

theorem smin_eq (x : List Int) (h : x ≠ []) (hb : x.length ≤ 1000000) : slices_Min_int_int.f x = some (minL x) := by
  have hp : 0 < x.length := List.length_pos_iff.2 h
  unfold slices_Min_int_int.f
  have e1 : ¬ (x.length : Int) < 1 := by omega
  have e2 : 0 ≤ (0 : Int) ∧ (0 : Int) < x.length := ⟨by omega, by omega⟩
  simp only [e1, decide_false, cond_false, e2, and_self, if_true]
  refine bindE (x := .inl (minL x)) ?_ rfl
  have := loop_at (step := fun (x1 : Int × Int) =>
        bif decide (x1.2 < (x.length : Int)) then
          if 0 ≤ x1.2 ∧ x1.2 < (x.length : Int) then
            some (.inl (min x1.1 (nth (0 : Int) x x1.2), IntKind.wrap .i64 (x1.2 + 1)))
          else none
        else
          some (.inr ((.inl x1.1 : (Int) ⊕ (Int))))) (fun i => (minL (x.take (i + 1)), ((i + 1 : Nat) : Int))) (x.length - 1) (.inl (minL x)) (fun i hi => ?_) ?_
  · rw [← this]
    congr 1
    cases x with
    | nil => exact absurd rfl h
    | cons a x => simp [minL, nth]
  · have h1 : ((i + 1 : Nat) : Int) < x.length := by omega
    have h2 : 0 ≤ ((i + 1 : Nat) : Int) ∧ ((i + 1 : Nat) : Int) < x.length := ⟨by omega, h1⟩
    simp only [h1, decide_true, cond_true, h2, and_self, if_true, nth_lt (show i + 1 < x.length by omega)]
    rw [wrap_i64 (by omega) (by omega), take_snoc (i := i + 1) (by omega), minL_snoc (List.ne_nil_of_length_pos (by rw [List.length_take]; omega))]
    rfl
  · have e : ((x.length - 1 + 1 : Nat) : Int) = x.length := by omega
    simp only [e, Int.lt_irrefl, decide_false, cond_false]
    rw [List.take_of_length_le (by omega)]

/-- The loads of the hosts that are up, of the first ones. -/
def loadsOf (hosts : List Cap) (l : List Dem) (on : List Int) : Nat → List Int
  | 0 => []
  | n + 1 => loadsOf hosts l on n ++ (if (nth cap0 hosts n).2.2 = true then [loadOf (nth cap0 hosts n) (GU l on n)] else [])

theorem loads_len (hosts : List Cap) (l : List Dem) (on : List Int) : ∀ n, (loadsOf hosts l on n).length ≤ n
  | 0 => by simp [loadsOf]
  | n + 1 => by
    have := loads_len hosts l on n
    simp only [loadsOf]
    split <;> simp <;> omega

def spreadOf (hosts : List Cap) (l : List Dem) (on : List Int) : Int × Bool :=
  if vB hosts l on = true then (let x := loadsOf hosts l on hosts.length; (IntKind.wrap .i64 (maxL x - minL x), decide (0 < x.length))) else (0, false)

theorem pspread_eq (hosts : List Cap) (l : List Dem) (on : List Int) : balance_Spread.f hosts l on = some (spreadOf hosts l on) := by
  unfold balance_Spread.f spreadOf
  rw [pvalid_eq]
  cases hv : vB hosts l on with
  | false => simp
  | true =>
    obtain ⟨h1, h2, h3, h4, h5, h6⟩ := (vB_iff _ _ _).1 hv
    simp only [Option.bind_some, Bool.not_true, cond_false, if_true]
    refine bindE (loop_at (fun i => (loadsOf hosts l on i, (i : Int))) hosts.length (.inl (loadsOf hosts l on hosts.length)) (fun i hi => ?_) ?_) ?_
    · have g1 : (i : Int) < hosts.length := by omega
      have g2 : 0 ≤ (i : Int) ∧ (i : Int) < hosts.length := ⟨by omega, g1⟩
      simp only [g1, decide_true, cond_true, g2, and_self, if_true]
      rw [wrap_i64 (n := (i : Int) + 1) (by omega) (by omega)]
      have e : ((nth ((0 : Int), (0 : Int), false) hosts i).1, (nth ((0 : Int), (0 : Int), false) hosts i).2) = nth cap0 hosts i := rfl
      simp only [loadsOf]
      cases hu : (nth cap0 hosts i).2.2 with
      | false =>
        have hu' : (nth ((0 : Int), (0 : Int), false) hosts i).2.2 = false := hu
        simp only [hu', cond_false, Bool.false_eq_true, if_false, List.append_nil]
        rfl
      | true =>
        have hu' : (nth ((0 : Int), (0 : Int), false) hosts i).2.2 = true := hu
        have hn := loads_len hosts l on i
        simp only [hu', cond_true, if_true]
        rw [guests_eq l on i (by omega) (by omega), Option.bind_some, e, pload_eq, Option.bind_some, if_pos (show ((loadsOf hosts l on i).length + ([loadOf (nth cap0 hosts i) (GU l on i)] : List Int).length) * 8 ≤ 70368744177664 by simp only [List.length_singleton]; omega)]
        rfl
    · simp only [Int.lt_irrefl, decide_false, cond_false]
    · have hn := loads_len hosts l on hosts.length
      dsimp only
      cases hx : loadsOf hosts l on hosts.length with
      | nil => rfl
      | cons a x =>
        rw [hx] at hn
        have e : ¬ ((a :: x).length : Int) = 0 := by simp only [List.length_cons]; omega
        simp only [e, decide_false, cond_false]
        rw [smax_eq _ (by simp) (by omega), smin_eq _ (by simp) (by omega)]
        simp

theorem rspread_eq (hosts : List Cap) (l : List Dem) (on : List Int) : vmfleetref39_Spread.f hosts l on = some (spreadOf hosts l on) := by
  unfold vmfleetref39_Spread.f spreadOf
  rw [place_eq]
  cases hv : vB hosts l on with
  | false => simp
  | true =>
    obtain ⟨h1, h2, h3, h4, h5, h6⟩ := (vB_iff _ _ _).1 hv
    simp only [Option.bind_some, Bool.not_true, cond_false, if_true]
    refine bindE (loop_at (fun i => (minL (loadsOf hosts l on i), maxL (loadsOf hosts l on i), ((loadsOf hosts l on i).length : Int), (i : Int))) hosts.length (.inl (minL (loadsOf hosts l on hosts.length), maxL (loadsOf hosts l on hosts.length), ((loadsOf hosts l on hosts.length).length : Int))) (fun i hi => ?_) ?_) ?_
    · have g1 : (i : Int) < hosts.length := by omega
      have g2 : 0 ≤ (i : Int) ∧ (i : Int) < hosts.length := ⟨by omega, g1⟩
      simp only [g1, decide_true, cond_true, g2, and_self, if_true]
      rw [wrap_i64 (n := (i : Int) + 1) (by omega) (by omega)]
      have e : ((nth ((0 : Int), (0 : Int), false) hosts i).1, (nth ((0 : Int), (0 : Int), false) hosts i).2) = nth cap0 hosts i := rfl
      simp only [loadsOf]
      cases hu : (nth cap0 hosts i).2.2 with
      | false =>
        have hu' : (nth ((0 : Int), (0 : Int), false) hosts i).2.2 = false := hu
        simp only [hu', Bool.not_false, cond_true, Bool.false_eq_true, if_false, List.append_nil]
        rfl
      | true =>
        have hu' : (nth ((0 : Int), (0 : Int), false) hosts i).2.2 = true := hu
        have hn := loads_len hosts l on i
        simp only [hu', Bool.not_true, cond_false, if_true]
        rw [at_eq l on i (-1) (by omega) (by omega), AT_neg _ _ _ _ (by decide), Option.bind_some, e, rload_eq, Option.bind_some]
        generalize loadsOf hosts l on i = x at hn
        generalize loadOf (nth cap0 hosts i) (GU l on i) = v
        cases x with
        | nil => rfl
        | cons a x =>
          have e0 : ¬ ((a :: x).length : Int) = 0 := by simp only [List.length_cons]; omega
          rw [minL_snoc (by simp), maxL_snoc (by simp), List.length_append, List.length_singleton, wrap_i64 (n := (((a :: x).length : Nat) : Int) + 1) (by omega) (by omega)]
          simp only [e0, decide_false, cond_false]
          generalize minL (a :: x) = mi
          generalize maxL (a :: x) = ma
          generalize (a :: x).length = n
          by_cases g3 : v < mi
          · by_cases g4 : v > ma
            · have e3 : min mi v = v := by omega
              have e4 : max ma v = v := by omega
              simp [g3, g4, e3, e4]
            · have e3 : min mi v = v := by omega
              have e4 : max ma v = ma := by omega
              simp [g3, g4, e3, e4]
          · by_cases g4 : v > ma
            · have e3 : min mi v = mi := by omega
              have e4 : max ma v = v := by omega
              simp [g3, g4, e3, e4]
            · have e3 : min mi v = mi := by omega
              have e4 : max ma v = ma := by omega
              simp [g3, g4, e3, e4]
    · simp only [Int.lt_irrefl, decide_false, cond_false]
    · dsimp only
      have : decide (((loadsOf hosts l on hosts.length).length : Int) > 0) = decide (0 < (loadsOf hosts l on hosts.length).length) := by
        apply decide_eq_decide.2; omega
      rw [this]

/-! ### Choices -/
theorem contains_eq (s : List Int) (v : Int) (hb : s.length ≤ 1000000) : slices_Contains_int_int.f s v = some (decide (v ∈ s)) := by
  unfold slices_Contains_int_int.f slices_Index_int_int.f
  obtain ⟨y, hy, hq⟩ := loop_ind (step := fun (x1 : Int) =>
    bif decide (x1 < (s.length : Int)) then
      if 0 ≤ x1 ∧ x1 < (s.length : Int) then
        bif decide (v = (nth (0 : Int) s x1)) then
          some (.inr ((.inr x1 : (Unit) ⊕ (Int))))
        else
          some (.inl (IntKind.wrap .i64 (x1 + 1)))
      else none
    else
      some (.inr (.inl ()))) (I := fun x => ∃ n : Nat, x = n ∧ n ≤ s.length ∧ v ∉ s.take n) (Q := fun y => (y = .inl () ∧ v ∉ s) ∨ ∃ n : Nat, y = .inr (n : Int) ∧ v ∈ s) (fun x => s.length - x.toNat) (x := 0) ⟨0, rfl, Nat.zero_le _, by simp⟩ (by
    rintro x ⟨n, rfl, hn, hv⟩
    by_cases hlt : n < s.length
    · have h1 : (n : Int) < s.length := by omega
      have h2 : 0 ≤ (n : Int) ∧ (n : Int) < s.length := ⟨by omega, h1⟩
      simp only [h1, decide_true, cond_true, h2, and_self, if_true, nth_lt hlt]
      by_cases he : v = s[n]
      · refine .inr ⟨.inr (n : Int), by rw [he]; simp, .inr ⟨n, rfl, by rw [he]; exact List.getElem_mem _⟩⟩
      · refine .inl ⟨((n + 1 : Nat) : Int), ?_, ⟨n + 1, rfl, by omega, ?_⟩, by omega⟩
        · simp only [he, decide_false, cond_false]
          rw [wrap_i64 (by omega) (by omega)]
          rfl
        · rw [take_snoc hlt, List.mem_append, List.mem_singleton]
          exact fun h => h.elim hv he
    · have h1 : ¬ (n : Int) < s.length := by omega
      simp only [h1, decide_false, cond_false]
      refine .inr ⟨.inl (), rfl, .inl ⟨rfl, ?_⟩⟩
      rwa [List.take_of_length_le (by omega)] at hv)
  have e : (loop (Y := Unit ⊕ Int) (fun (x1 : Int) =>
    bif decide (x1 < (s.length : Int)) then
      if 0 ≤ x1 ∧ x1 < (s.length : Int) then
        bif decide (v = (nth (0 : Int) s x1)) then
          some (.inr (.inr x1))
        else
          some (.inl (IntKind.wrap .i64 (x1 + 1)))
      else none
    else
      some (.inr (.inl ()))) (0 : Int)) = some y := hy
  rw [e]
  rcases hq with ⟨rfl, hv⟩ | ⟨n, rfl, hv⟩
  · simp [hv]
  · simp [hv]

/-- One host, looked at. -/
def chStep (hosts : List Cap) (F : Int → List Dem) (d : Dem) (no : List Int) (s : Int × Int) (h : Nat) : Int × Int :=
  if (h : Int) ∈ no then s else if admitOf (nth cap0 hosts h) (F h) d = 0 then
    (if s.1 < 0 then ((h : Int), (frOf (nth cap0 hosts h) (F h)).1) else if (frOf (nth cap0 hosts h) (F h)).1 > s.2 then ((h : Int), (frOf (nth cap0 hosts h) (F h)).1) else s) else s
def chFold (hosts : List Cap) (F : Int → List Dem) (d : Dem) (no : List Int) (n : Nat) : Int × Int := (List.range n).foldl (chStep hosts F d no) (-1, 0)
def chooseOf (hosts : List Cap) (F : Int → List Dem) (d : Dem) (no : List Int) : Int × Bool :=
  (max (chFold hosts F d no hosts.length).1 0, decide ((chFold hosts F d no hosts.length).1 ≥ 0))

theorem chFold_succ (hosts : List Cap) (F : Int → List Dem) (d : Dem) (no : List Int) (n : Nat) : chFold hosts F d no (n + 1) = chStep hosts F d no (chFold hosts F d no n) n := by
  simp [chFold, List.range_succ]

theorem pchoose_eq (hosts : List Cap) (l : List Dem) (on : List Int) (d : Dem) (no : List Int) (hno : no.length ≤ 1000000) :
    balance_Choose.f hosts l on d no = some (if vB hosts l on = true then chooseOf hosts (fun h => GU l on h) d no else (0, false)) := by
  unfold balance_Choose.f
  rw [pvalid_eq]
  cases hv : vB hosts l on with
  | false => simp
  | true =>
    obtain ⟨h1, h2, h3, h4, h5, h6⟩ := (vB_iff _ _ _).1 hv
    simp only [Option.bind_some, Bool.not_true, cond_false, if_true]
    refine bindE (loop_at (fun i => ((chFold hosts (fun h => GU l on h) d no i).1, (chFold hosts (fun h => GU l on h) d no i).2, (i : Int))) hosts.length (.inl (chFold hosts (fun h => GU l on h) d no hosts.length).1) (fun i hi => ?_) ?_) ?_
    · have g1 : (i : Int) < hosts.length := by omega
      have g2 : 0 ≤ (i : Int) ∧ (i : Int) < hosts.length := ⟨by omega, g1⟩
      simp only [g1, decide_true, cond_true, g2, and_self, if_true]
      have e : ((nth ((0 : Int), (0 : Int), false) hosts i).1, (nth ((0 : Int), (0 : Int), false) hosts i).2) = nth cap0 hosts i := rfl
      rw [wrap_i64 (n := (i : Int) + 1) (by omega) (by omega), guests_eq l on i (by omega) (by omega), Option.bind_some, contains_eq no i hno, Option.bind_some, e, admit_eq, pfree_eq, chFold_succ]
      generalize chFold hosts (fun h => GU l on h) d no i = s
      unfold chStep
      by_cases c1 : (i : Int) ∈ no
      · simp only [c1, decide_true, cond_true, if_true]
        rfl
      · simp only [c1, decide_false, cond_false, if_false, Option.bind_some]
        by_cases c2 : admitOf (nth cap0 hosts i) (GU l on i) d = 0
        · simp only [c2, decide_true, Bool.not_true, cond_false, if_true]
          by_cases c3 : s.1 < 0
          · simp only [c3, decide_true, cond_true, if_true]
            rfl
          · simp only [c3, decide_false, cond_false, if_false]
            by_cases c4 : (frOf (nth cap0 hosts i) (GU l on i)).1 > s.2
            · simp only [c4, decide_true, cond_true, if_true]
              rfl
            · simp only [c4, decide_false, cond_false, if_false]
              rfl
        · simp only [c2, decide_false, Bool.not_false, cond_true, if_false]
          rfl
    · simp only [Int.lt_irrefl, decide_false, cond_false]
    · dsimp only
      unfold chooseOf
      generalize (chFold hosts (fun h => GU l on h) d no hosts.length).1 = b
      by_cases c : b < 0
      · have e1 : ¬ b ≥ 0 := by omega
        have e2 : max b 0 = 0 := by omega
        simp [c, e1, e2]
      · have e1 : b ≥ 0 := by omega
        have e2 : max b 0 = b := by omega
        simp only [c, e1, e2, decide_false, decide_true, cond_false]

theorem rnot_loop (no : List Int) (v : Int) (hb : no.length ≤ 1000000) (Z : Type) (step : Bool × Int → Option ((Bool × Int) ⊕ (Bool ⊕ Z)))
    (hs : step = fun x2 => bif decide (x2.2 < (no.length : Int)) then
          bif x2.1 then
            some (.inl (true, IntKind.wrap .i64 (x2.2 + 1)))
          else
            if 0 ≤ x2.2 ∧ x2.2 < (no.length : Int) then
              some (.inl ((decide ((nth (0 : Int) no x2.2) = v)), IntKind.wrap .i64 (x2.2 + 1)))
            else none
        else
          some (.inr (.inl x2.1))) : loop step (false, (0 : Int)) = some (.inl (decide (v ∈ no))) := by
  subst hs
  refine loop_at (fun i => (decide (v ∈ no.take i), (i : Int))) no.length (Sum.inl (decide (v ∈ no))) (fun i hi => ?_) ?_
  · have g1 : (i : Int) < no.length := by omega
    have g2 : 0 ≤ (i : Int) ∧ (i : Int) < no.length := ⟨by omega, g1⟩
    simp only [g1, decide_true, cond_true, g2, and_self, if_true, nth_lt hi]
    rw [wrap_i64 (n := (i : Int) + 1) (by omega) (by omega), take_snoc hi]
    by_cases c : v ∈ no.take i
    · have c' : v ∈ no.take i ++ [no[i]] := List.mem_append_left _ c
      simp only [c, c', decide_true, cond_true]
      rfl
    · simp only [c, decide_false, cond_false, List.mem_append, List.mem_singleton, false_or]
      have : decide (no[i] = v) = decide (v = no[i]) := decide_eq_decide.2 ⟨Eq.symm, Eq.symm⟩
      rw [this]
      rfl
  · simp only [Int.lt_irrefl, decide_false, cond_false, List.take_length]

theorem rchoose_eq (hosts : List Cap) (l : List Dem) (on : List Int) (but : Int) (d : Dem) (no : List Int) (hh : hosts.length ≤ 1000000) (hl : l.length ≤ on.length) (hb : l.length ≤ 1000000) (hno : no.length ≤ 1000000) :
    vmfleetref39_choose.f hosts l on but d no = some (chooseOf hosts (fun h => AT l on h but) d no) := by
  unfold vmfleetref39_choose.f
  refine bindE (loop_at (fun i => ((chFold hosts (fun h => AT l on h but) d no i).1, (chFold hosts (fun h => AT l on h but) d no i).2, (i : Int))) hosts.length (.inl (chFold hosts (fun h => AT l on h but) d no hosts.length).1) (fun i hi => ?_) ?_) ?_
  · have g1 : (i : Int) < hosts.length := by omega
    have g2 : 0 ≤ (i : Int) ∧ (i : Int) < hosts.length := ⟨by omega, g1⟩
    simp only [g1, decide_true, cond_true, g2, and_self, if_true]
    have e : ((nth ((0 : Int), (0 : Int), false) hosts i).1, (nth ((0 : Int), (0 : Int), false) hosts i).2) = nth cap0 hosts i := rfl
    refine bindE (rnot_loop no i hno _ _ rfl) ?_
    dsimp only
    rw [wrap_i64 (n := (i : Int) + 1) (by omega) (by omega), at_eq l on i but hl hb, Option.bind_some, e, radmit_eq, rfree_eq, chFold_succ, Option.bind_some]
    generalize chFold hosts (fun h => AT l on h but) d no i = s
    unfold chStep
    by_cases c1 : (i : Int) ∈ no
    · simp only [c1, decide_true, Bool.not_true, cond_false, if_true]
      rfl
    · simp only [c1, decide_false, Bool.not_false, cond_true, if_false, Option.bind_some]
      by_cases c2 : admitOf (nth cap0 hosts i) (AT l on i but) d = 0
      · simp only [c2, decide_true, cond_true, if_true]
        by_cases c3 : s.1 < 0
        · simp only [c3, decide_true, cond_true, if_true]
          rfl
        · simp only [c3, decide_false, cond_false, if_false]
          by_cases c4 : (frOf (nth cap0 hosts i) (AT l on i but)).1 > s.2
          · simp only [c4, decide_true, cond_true, if_true]
            rfl
          · simp only [c4, decide_false, cond_false, if_false]
            rfl
      · simp only [c2, decide_false, cond_false, if_false]
        rfl
  · simp only [Int.lt_irrefl, decide_false, cond_false]
  · rfl

theorem rChoose_eq (hosts : List Cap) (l : List Dem) (on : List Int) (d : Dem) (no : List Int) (hno : no.length ≤ 1000000) :
    vmfleetref39_Choose.f hosts l on d no = some (if vB hosts l on = true then chooseOf hosts (fun h => GU l on h) d no else (0, false)) := by
  unfold vmfleetref39_Choose.f
  rw [place_eq]
  cases hv : vB hosts l on with
  | false => simp
  | true =>
    obtain ⟨h1, h2, h3, h4, h5, h6⟩ := (vB_iff _ _ _).1 hv
    have e : (fun h => AT l on h (-1)) = (fun h => GU l on h) := funext fun h => AT_neg _ _ _ _ (by decide)
    simp only [Option.bind_some, Bool.not_true, cond_false, if_true]
    rw [rchoose_eq hosts l on (-1) d no (by omega) (by omega) (by omega) hno, e]
    rfl

end Go.Proofs.Ytondojojpgmjcaa.Fn
