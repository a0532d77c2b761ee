/- Balance (chapter 40), in plain Lean: moves, rebalancing, evacuation, assignment. -/
import Derived.Test.YtondojojpgmjcaaPureCh40c
set_option linter.unusedVariables false
set_option linter.unusedSimpArgs false
namespace Go.Proofs.Ytondojojpgmjcaa.Fn
open Go Lift

abbrev Mov := Int × Int × Int

theorem put_len {α : Type} (l : List α) (i : Int) (x : α) : (put l i x).length = l.length := by simp [put]

theorem moved_eq (on : List Int) (g x : Int) (hb : on.length ≤ 1000000) (h0 : 0 ≤ g) (h1 : g < on.length) : vmfleetref39_moved.f on g x = some (put on g x) := by
  unfold vmfleetref39_moved.f
  have hs : (([] : List Int).length + on.length) * 8 ≤ 70368744177664 := by simp only [List.length_nil]; omega
  rw [if_pos hs, List.nil_append, if_pos ⟨h0, h1⟩]

/-- One move, looked at. -/
def impStep (hosts : List Cap) (l : List Dem) (on : List Int) (g : Nat) (s : Int × Mov × Bool) (h : Nat) : Int × Mov × Bool :=
  if (spreadOf hosts l (put on g h)).2 = true ∧ (spreadOf hosts l (put on g h)).1 < s.1 then ((spreadOf hosts l (put on g h)).1, ((g : Int), nth (0 : Int) on g, (h : Int)), true) else s
def impRow (hosts : List Cap) (l : List Dem) (on : List Int) (s : Int × Mov × Bool) (g : Nat) (n : Nat) : Int × Mov × Bool := (List.range n).foldl (impStep hosts l on g) s
def impAll (hosts : List Cap) (l : List Dem) (on : List Int) (s : Int × Mov × Bool) (n : Nat) : Int × Mov × Bool := (List.range n).foldl (fun s g => impRow hosts l on s g hosts.length) s
def improveOf (hosts : List Cap) (l : List Dem) (on : List Int) : Mov × Bool :=
  if (spreadOf hosts l on).2 = true then (impAll hosts l on ((spreadOf hosts l on).1, (0, 0, 0), false) on.length).2 else ((0, 0, 0), false)

theorem impRow_succ (hosts : List Cap) (l : List Dem) (on : List Int) (s : Int × Mov × Bool) (g n : Nat) : impRow hosts l on s g (n + 1) = impStep hosts l on g (impRow hosts l on s g n) n := by
  simp [impRow, List.range_succ]
theorem impAll_succ (hosts : List Cap) (l : List Dem) (on : List Int) (s : Int × Mov × Bool) (n : Nat) : impAll hosts l on s (n + 1) = impRow hosts l on (impAll hosts l on s n) n hosts.length := by
  simp [impAll, List.range_succ]

/-- What holds before and after a step holds after all. -/
theorem impAll_inv (hosts : List Cap) (l : List Dem) (on : List Int) (I : Int × Mov × Bool → Prop) (h : ∀ g h s, g < on.length → h < hosts.length → I s → I (impStep hosts l on g s h)) (s : Int × Mov × Bool) (hs : I s) :
    ∀ n, n ≤ on.length → I (impAll hosts l on s n) ∧ ∀ m, m ≤ hosts.length → n < on.length → I (impRow hosts l on (impAll hosts l on s n) n m) := by
  have row : ∀ g s, g < on.length → I s → ∀ m, m ≤ hosts.length → I (impRow hosts l on s g m) := by
    intro g s hg hs m
    induction m with
    | zero => intro _; exact hs
    | succ m ih => intro hm; rw [impRow_succ]; exact h g m _ hg (by omega) (ih (by omega))
  intro n
  induction n with
  | zero => intro _; exact ⟨hs, fun m hm hg => row 0 _ hg hs m hm⟩
  | succ n ih =>
    intro hn
    have h1 := (ih (by omega)).2 hosts.length (Nat.le_refl _) (by omega)
    rw [impAll_succ]
    exact ⟨h1, fun m hm hg => row _ _ hg h1 m hm⟩

theorem spread_vB {hosts : List Cap} {l : List Dem} {on : List Int} (h : (spreadOf hosts l on).2 = true) : vB hosts l on = true := by
  unfold spreadOf at h
  split at h
  · assumption
  · cases h

theorem pimprove_eq (hosts : List Cap) (l : List Dem) (on : List Int) : balance_Improve.f hosts l on = some (improveOf hosts l on) := by
  unfold balance_Improve.f improveOf
  rw [pspread_eq]
  cases hs : (spreadOf hosts l on).2 with
  | false => simp [hs]
  | true =>
    obtain ⟨h1, h2, h3, h4, h5, h6⟩ := (vB_iff _ _ _).1 (spread_vB hs)
    simp only [Option.bind_some, hs, Bool.not_true, cond_false, if_true]
    generalize hs0 : ((spreadOf hosts l on).1, ((0 : Int), (0 : Int), (0 : Int)), false) = s0
    have e0 : (spreadOf hosts l on).1 = s0.1 := by rw [← hs0]
    rw [e0]
    refine bindE (loop_at (fun i => ((impAll hosts l on s0 i).1, (impAll hosts l on s0 i).2.1, (impAll hosts l on s0 i).2.2, (i : Int))) on.length (.inl (impAll hosts l on s0 on.length).2) (fun i hi => ?_) ?_ |> fun h => (congrArg (loop _) (by rw [← hs0]; rfl)).trans h) rfl
    · have g1 : (i : Int) < on.length := by omega
      have g2 : 0 ≤ (i : Int) ∧ (i : Int) < on.length := ⟨by omega, g1⟩
      simp only [g1, decide_true, cond_true, g2, and_self, if_true]
      rw [impAll_succ]
      generalize impAll hosts l on s0 i = s1
      refine bindE (loop_at (fun j => ((impRow hosts l on s1 i j).1, (impRow hosts l on s1 i j).2.1, (impRow hosts l on s1 i j).2.2, (j : Int))) hosts.length (.inl (impRow hosts l on s1 i hosts.length)) (fun j hj => ?_) ?_) ?_
      · have g3 : (j : Int) < hosts.length := by omega
        simp only [g3, decide_true, cond_true]
        rw [clone_eq on (by omega), Option.bind_some, if_pos (show True ∧ (i : Int) < on.length from ⟨trivial, g1⟩), pspread_eq, Option.bind_some, wrap_i64 (n := (j : Int) + 1) (by omega) (by omega), impRow_succ]
        generalize impRow hosts l on s1 i j = s
        unfold impStep
        cases c1 : (spreadOf hosts l (put on i j)).2 with
        | false => simp
        | true =>
          by_cases c2 : (spreadOf hosts l (put on i j)).1 < s.1
          · simp only [c2, decide_true, cond_true, Option.bind_some, and_self, if_true]
            rfl
          · simp only [c2, decide_false, cond_true, cond_false, Option.bind_some, and_false, if_false]
            rfl
      · simp only [Int.lt_irrefl, decide_false, cond_false]
      · dsimp only
        rw [wrap_i64 (n := (i : Int) + 1) (by omega) (by omega)]
        rfl
    · simp only [Int.lt_irrefl, decide_false, cond_false]

theorem put_same {on : List Int} {g : Nat} (h : g < on.length) : put on g (nth (0 : Int) on g) = on := by
  rw [nth_lt h]
  simp [put]

theorem rimprove_eq (hosts : List Cap) (l : List Dem) (on : List Int) (hl : l.length ≤ 1000000) : vmfleetref39_Improve.f hosts l on = some (improveOf hosts l on) := by
  unfold vmfleetref39_Improve.f improveOf
  rw [rspread_eq, Option.bind_some]
  cases hs : (spreadOf hosts l on).2 with
  | false =>
    simp only [Bool.false_eq_true, if_false, cond_false]
    refine bindE (x := .inl (((0 : Int), (0 : Int), (0 : Int)), false)) ?_ rfl
    rw [loop_eq]
    cases l with
    | nil => rfl
    | cons d l =>
      have : ((0 : Int)) < ((d :: l).length : Int) := by simp only [List.length_cons]; omega
      simp only [this, decide_true, cond_true]
  | true =>
    obtain ⟨h1, h2, h3, h4, h5, h6⟩ := (vB_iff _ _ _).1 (spread_vB hs)
    simp only [cond_true, if_true]
    generalize hs0 : ((spreadOf hosts l on).1, ((0 : Int), (0 : Int), (0 : Int)), false) = s0
    have e0 : (spreadOf hosts l on).1 = s0.1 := by rw [← hs0]
    have inv := impAll_inv hosts l on (fun s => s.1 ≤ s0.1) (fun g h s _ _ hI => by
      unfold impStep
      split
      · rename_i hc
        exact Int.le_trans (Int.le_of_lt hc.2) hI
      · exact hI) s0 (Int.le_refl _)
    refine bindE (loop_at (fun i => ((impAll hosts l on s0 i).1, (impAll hosts l on s0 i).2.1, (impAll hosts l on s0 i).2.2, (i : Int))) l.length (.inl (impAll hosts l on s0 on.length).2) (fun i hi => ?_) ?_ |> fun h => (congrArg (loop _) (by rw [← hs0]; rfl)).trans h) rfl
    · have g1 : (i : Int) < l.length := by omega
      have g2 : 0 ≤ (i : Int) ∧ (i : Int) < on.length := ⟨by omega, by omega⟩
      simp only [g1, decide_true, cond_true]
      rw [impAll_succ]
      have inv1 := (inv i (by omega)).2
      generalize impAll hosts l on s0 i = s1 at inv1
      refine bindE (loop_at (fun j => ((impRow hosts l on s1 i j).1, (impRow hosts l on s1 i j).2.1, (impRow hosts l on s1 i j).2.2, (j : Int))) hosts.length (.inl (impRow hosts l on s1 i hosts.length)) (fun j hj => ?_) ?_) ?_
      · have g3 : (j : Int) < hosts.length := by omega
        have inv2 := inv1 j (by omega) (by omega)
        simp only [g3, decide_true, cond_true]
        rw [if_pos g2, wrap_i64 (n := (j : Int) + 1) (by omega) (by omega), impRow_succ]
        generalize impRow hosts l on s1 i j = s at inv2
        unfold impStep
        by_cases c0 : (j : Int) = nth (0 : Int) on i
        · have : ¬ ((spreadOf hosts l (put on i j)).2 = true ∧ (spreadOf hosts l (put on i j)).1 < s.1) := by
            rw [c0, put_same (by omega)]
            rintro ⟨_, h⟩
            rw [e0] at h
            omega
          have c0' : decide ((j : Int) = nth (0 : Int) on i) = true := decide_eq_true c0
          rw [if_neg this]
          simp only [c0', cond_true]
          rfl
        · simp only [c0, decide_false, cond_false]
          rw [moved_eq on i j (by omega) g2.1 g2.2, Option.bind_some, rspread_eq, Option.bind_some]
          cases c1 : (spreadOf hosts l (put on i j)).2 with
          | false => simp
          | true =>
            by_cases c2 : (spreadOf hosts l (put on i j)).1 < s.1
            · simp only [c2, decide_true, cond_true, Option.bind_some, and_self, if_true, g2]
              rfl
            · simp only [c2, decide_false, cond_true, cond_false, Option.bind_some, and_false, if_false]
              rfl
      · simp only [Int.lt_irrefl, decide_false, cond_false]
      · dsimp only
        rw [wrap_i64 (n := (i : Int) + 1) (by omega) (by omega)]
        rfl
    · simp only [Int.lt_irrefl, decide_false, cond_false, h4]

/-- What a best move is. -/
theorem improve_spec {hosts : List Cap} {l : List Dem} {on : List Int} (h : (improveOf hosts l on).2 = true) :
    ∃ g x : Nat, (improveOf hosts l on).1 = ((g : Int), nth (0 : Int) on g, (x : Int)) ∧ g < on.length ∧ x < hosts.length ∧ (spreadOf hosts l (put on g x)).2 = true ∧ (spreadOf hosts l (put on g x)).1 < (spreadOf hosts l on).1 := by
  unfold improveOf at h ⊢
  split at h
  · rename_i hs
    rw [if_pos hs]
    have := (impAll_inv hosts l on (fun s => s.1 ≤ (spreadOf hosts l on).1 ∧ (s.2.2 = true → ∃ g x : Nat, s.2.1 = ((g : Int), nth (0 : Int) on g, (x : Int)) ∧ g < on.length ∧ x < hosts.length ∧ (spreadOf hosts l (put on g x)).2 = true ∧ (spreadOf hosts l (put on g x)).1 < (spreadOf hosts l on).1))
      (fun g h s hg hh hI => by
        unfold impStep
        split
        · rename_i hc
          exact ⟨by have := hI.1; have := hc.2; show _ ≤ _; omega, fun _ => ⟨g, h, rfl, hg, hh, hc.1, Int.lt_of_lt_of_le hc.2 hI.1⟩⟩
        · exact hI) ((spreadOf hosts l on).1, (0, 0, 0), false) ⟨Int.le_refl _, fun h => by cases h⟩ on.length (Nat.le_refl _)).1
    exact this.2 h
  · cases h

/-! ### Rebalancing -/
def rebOf (hosts : List Cap) (l : List Dem) : Nat → List Int → List Mov → List Mov × List Int
  | 0, on, mv => (mv, on)
  | k + 1, on, mv => if (improveOf hosts l on).2 = true then rebOf hosts l k (put on (improveOf hosts l on).1.1 (improveOf hosts l on).1.2.2) (mv ++ [(improveOf hosts l on).1]) else (mv, on)
def rebalanceOf (hosts : List Cap) (l : List Dem) (on : List Int) (most : Int) : List Mov × List Int :=
  if vB hosts l on = true then rebOf hosts l (min most 10).toNat on [] else ([], [])

theorem reb_len (hosts : List Cap) (l : List Dem) : ∀ k on mv, (rebOf hosts l k on mv).1.length ≤ mv.length + k ∧ (rebOf hosts l k on mv).2.length = on.length
  | 0, on, mv => by simp [rebOf]
  | k + 1, on, mv => by
    unfold rebOf
    split
    · have := reb_len hosts l k (put on (improveOf hosts l on).1.1 (improveOf hosts l on).1.2.2) (mv ++ [(improveOf hosts l on).1])
      rw [put_len] at this
      simp only [List.length_append, List.length_singleton] at this
      omega
    · simp

theorem preb_loop (hosts : List Cap) (l : List Dem) (most : Int) : ∀ (k : Nat) (on : List Int) (mv : List Mov), mv.length + k = (min most 10).toNat → on.length ≤ 1000000 →
    loop (Y := (List Int × List (Int × Int × Int)) ⊕ ((List (Int × Int × Int)) × List Int)) (fun (x1 : List Int × List (Int × Int × Int)) =>
      bif decide ((x1.2.length : Int) < (min most (10 : Int))) then
        (balance_Improve.f hosts l x1.1).bind fun r3 =>
        bif !r3.2 then
          some (.inr (.inl x1))
        else
          if 0 ≤ r3.1.1 ∧ r3.1.1 < (x1.1.length : Int) then
            if (x1.2.length + ([r3.1] : List (Int × Int × Int)).length) * 24 ≤ 70368744177664 then
              some (.inl (put x1.1 r3.1.1 r3.1.2.2, (x1.2 ++ ([r3.1] : List (Int × Int × Int)))))
            else none
          else none
      else
        some (.inr (.inl x1))) (on, mv) = some (.inl ((rebOf hosts l k on mv).2, (rebOf hosts l k on mv).1))
  | 0, on, mv, hk, hb => by
    rw [loop_eq]
    have h : ¬ ((mv.length : Int) < min most 10) := by omega
    simp only [h, decide_false, cond_false]
    rfl
  | k + 1, on, mv, hk, hb => by
    rw [loop_eq]
    have h : (mv.length : Int) < min most 10 := by omega
    simp only [h, decide_true, cond_true, pimprove_eq, Option.bind_some]
    cases hi : (improveOf hosts l on).2 with
    | false =>
      have e : rebOf hosts l (k + 1) on mv = (mv, on) := by unfold rebOf; rw [hi]; rfl
      rw [e]
      rfl
    | true =>
      obtain ⟨g, x, e1, e2, e3, _⟩ := improve_spec hi
      have e : rebOf hosts l (k + 1) on mv = rebOf hosts l k (put on (improveOf hosts l on).1.1 (improveOf hosts l on).1.2.2) (mv ++ [(improveOf hosts l on).1]) := by
        conv => lhs; unfold rebOf
        rw [hi]; rfl
      rw [e]
      have c1 : 0 ≤ (improveOf hosts l on).1.1 ∧ (improveOf hosts l on).1.1 < on.length := by rw [e1]; show 0 ≤ (g : Int) ∧ (g : Int) < _; omega
      have c2 : (mv.length + ([(improveOf hosts l on).1] : List (Int × Int × Int)).length) * 24 ≤ 70368744177664 := by simp only [List.length_singleton]; omega
      simp only [Bool.not_true, cond_false, c1, and_self, if_true, c2]
      have := preb_loop hosts l most k (put on (improveOf hosts l on).1.1 (improveOf hosts l on).1.2.2) (mv ++ [(improveOf hosts l on).1]) (by simp only [List.length_append, List.length_singleton]; omega) (by rw [put_len]; exact hb)
      simp only [pimprove_eq] at this
      exact this

theorem prebalance_eq (hosts : List Cap) (l : List Dem) (on : List Int) (most : Int) : balance_Rebalance.f hosts l on most = some (rebalanceOf hosts l on most) := by
  unfold balance_Rebalance.f rebalanceOf
  rw [pvalid_eq]
  cases hv : vB hosts l on with
  | false => simp
  | true =>
    obtain ⟨h1, h2, h3, h4, h5, h6⟩ := (vB_iff _ _ _).1 hv
    simp only [Option.bind_some, Bool.not_true, cond_false, if_true]
    rw [clone_eq on (by omega), Option.bind_some]
    refine bindE (preb_loop hosts l most (min most 10).toNat on [] (by simp) (by omega)) rfl

theorem rreb_loop (hosts : List Cap) (l : List Dem) (hl : l.length ≤ 1000000) (most : Int) : ∀ (k : Nat) (on : List Int) (mv : List Mov), mv.length + k = (min most 10).toNat → on.length ≤ 1000000 →
    loop (Y := ((List (Int × Int × Int)) × List Int) ⊕ ((List (Int × Int × Int)) × List Int)) (fun (x1 : (List (Int × Int × Int)) × List Int) =>
        bif decide ((x1.1.length : Int) < most) then
          bif decide ((x1.1.length : Int) < 10) then
            (vmfleetref39_Improve.f hosts l x1.2).bind fun r2 =>
            bif !r2.2 then
              some (.inr (.inl x1))
            else
              if (x1.1.length + ([r2.1] : List (Int × Int × Int)).length) * 24 ≤ 70368744177664 then
                (vmfleetref39_moved.f x1.2 r2.1.1 r2.1.2.2).bind fun r3 =>
                some (.inl ((x1.1 ++ ([r2.1] : List (Int × Int × Int))), r3))
              else none
          else
            some (.inr (.inl x1))
        else
          some (.inr (.inl x1))) (mv, on) = some (.inl (rebOf hosts l k on mv))
  | 0, on, mv, hk, hb => by
    rw [loop_eq]
    by_cases h : (mv.length : Int) < most
    · have h' : ¬ ((mv.length : Int) < 10) := by omega
      simp only [h, h', decide_true, decide_false, cond_true, cond_false]
      rfl
    · simp only [h, decide_false, cond_false]
      rfl
  | k + 1, on, mv, hk, hb => by
    rw [loop_eq]
    have h : (mv.length : Int) < most := by omega
    have h' : (mv.length : Int) < 10 := by omega
    simp only [h, h', decide_true, cond_true, rimprove_eq _ _ _ hl, Option.bind_some]
    cases hi : (improveOf hosts l on).2 with
    | false =>
      have e : rebOf hosts l (k + 1) on mv = (mv, on) := by unfold rebOf; rw [hi]; rfl
      rw [e]
      rfl
    | true =>
      obtain ⟨g, x, e1, e2, e3, _⟩ := improve_spec hi
      have e : rebOf hosts l (k + 1) on mv = rebOf hosts l k (put on (improveOf hosts l on).1.1 (improveOf hosts l on).1.2.2) (mv ++ [(improveOf hosts l on).1]) := by
        conv => lhs; unfold rebOf
        rw [hi]; rfl
      rw [e]
      have c1 : 0 ≤ (improveOf hosts l on).1.1 ∧ (improveOf hosts l on).1.1 < on.length := by rw [e1]; show 0 ≤ (g : Int) ∧ (g : Int) < _; omega
      have c2 : (mv.length + ([(improveOf hosts l on).1] : List (Int × Int × Int)).length) * 24 ≤ 70368744177664 := by simp only [List.length_singleton]; omega
      simp only [Bool.not_true, cond_false, c2, if_true]
      rw [moved_eq on _ _ hb c1.1 c1.2]
      have := rreb_loop hosts l hl most k (put on (improveOf hosts l on).1.1 (improveOf hosts l on).1.2.2) (mv ++ [(improveOf hosts l on).1]) (by simp only [List.length_append, List.length_singleton]; omega) (by rw [put_len]; exact hb)
      simp only [rimprove_eq _ _ _ hl] at this
      exact this

theorem rrebalance_eq (hosts : List Cap) (l : List Dem) (on : List Int) (most : Int) : vmfleetref39_Rebalance.f hosts l on most = some (rebalanceOf hosts l on most) := by
  unfold vmfleetref39_Rebalance.f rebalanceOf
  rw [place_eq]
  cases hv : vB hosts l on with
  | false => simp
  | true =>
    obtain ⟨h1, h2, h3, h4, h5, h6⟩ := (vB_iff _ _ _).1 hv
    have hs : (([] : List Int).length + on.length) * 8 ≤ 70368744177664 := by simp only [List.length_nil]; omega
    simp only [Option.bind_some, Bool.not_true, cond_false, if_true]
    rw [if_pos hs, List.nil_append]
    exact bindE (rreb_loop hosts l (by omega) most (min most 10).toNat on [] (by simp) (by omega)) rfl

/-! ### Assignment -/
theorem foldE_find {α β Z : Type} (g : α → Option β) (F : β → Z) (z : Z) : ∀ l : List α, foldE (S := Unit) (fun _ x => match g x with | some r => .inr (F r) | none => .inl ()) (fun _ => z) () l = match l.findSome? g with | some r => F r | none => z
  | [] => rfl
  | x :: l => by
    simp only [foldE, List.findSome?_cons]
    cases hg : g x with
    | some r => rfl
    | none => exact foldE_find g F z l

/-- A loop that looks for the first host that will do. -/
theorem loop_find {β Z : Type} {step : Int → Option (Int ⊕ Z)} (n : Nat) (g : Nat → Option β) (F : β → Z) (z : Z)
    (h1 : ∀ i, i < n → step i = some (match g i with | some r => .inr (F r) | none => .inl ((i : Int) + 1))) (h2 : step n = some (.inr z)) :
    loop step 0 = some (match (List.range n).findSome? g with | some r => F r | none => z) := by
  rw [← foldE_find]
  refine loop_list (step := step) (S := Unit) (fun _ i => i) (List.range n) _ (fun _ => z) () (fun _ _ => True) trivial (fun i x s hx _ => ⟨?_, fun _ _ => trivial⟩) (fun _ _ => by rw [List.length_range]; exact h2)
  obtain ⟨hi, rfl⟩ := range_get hx
  rw [h1 x hi]
  cases g x <;> rfl

def extOf (hosts : List Cap) (l : List Dem) : Nat → List Int → List Int × Bool
  | 0, on => (on, true)
  | k + 1, on => match (List.range hosts.length).findSome? (fun (h : Nat) => if admitOf (nth cap0 hosts h) (GU (l.take on.length) on h) (nth dem0 l on.length) = 0 then (if (extOf hosts l k (on ++ [(h : Int)])).2 = true then some (extOf hosts l k (on ++ [(h : Int)])).1 else none) else none) with
    | some r => (r, true)
    | none => ([], false)

theorem extend_succ (n : Nat) (hosts : List Cap) (l : List Dem) (on : List Int) : balance_extend.rc (n + 1) hosts l on =
(  bif decide ((on.length : Int) = (l.length : Int)) then
    some (on, true)
  else
    (loop (Y := (Unit) ⊕ (List Int × Bool)) (fun (x1 : Int) =>
      bif decide (x1 < (hosts.length : Int)) then
        if 0 ≤ x1 ∧ x1 < (hosts.length : Int) then
          if 0 ≤ (on.length : Int) ∧ (on.length : Int) ≤ (l.length : Int) then
            (balance_guests.f (slc l (0 : Int) (on.length : Int)) on x1).bind fun r1 =>
            if 0 ≤ (on.length : Int) ∧ (on.length : Int) < (l.length : Int) then
              (admission_Admit.f ((nth ((0 : Int), (0 : Int), false) hosts x1).1, ((nth ((0 : Int), (0 : Int), false) hosts x1).2)) r1 ((nth ((0 : Int), (0 : Int), (0 : Int), (0 : Int)) l (on.length : Int)).1, ((nth ((0 : Int), (0 : Int), (0 : Int), (0 : Int)) l (on.length : Int)).2).1, (((nth ((0 : Int), (0 : Int), (0 : Int), (0 : Int)) l (on.length : Int)).2).2))).bind fun r2 =>
              bif !decide (r2 = 0) then
                some (.inl (IntKind.wrap .i64 (x1 + 1)))
              else
                (slices_Clone_int_int.f on).bind fun r3 =>
                if (r3.length + ([x1] : List Int).length) * 8 ≤ 70368744177664 then
                  (balance_extend.rc n hosts l (r3 ++ ([x1] : List Int))).bind fun r4 =>
                  bif r4.2 then
                    some (.inr (.inr (r4.1, true)))
                  else
                    some (.inl (IntKind.wrap .i64 (x1 + 1)))
                else none
            else none
          else none
        else none
      else
        some (.inr (.inl ()))) (0 : Int)).bind fun o => match o with
    | .inl y2 =>
      some ([], false)
    | .inr r => some r) := rfl

theorem assign_succ (n : Nat) (hosts : List Cap) (l : List Dem) (on : List Int) : vmfleetref39_assign.rc (n + 1) hosts l on =
(  bif decide ((on.length : Int) = (l.length : Int)) then
    some (on, true)
  else
    (loop (Y := (Unit) ⊕ (List Int × Bool)) (fun (x1 : Int) =>
      bif decide (x1 < (hosts.length : Int)) then
        if 0 ≤ x1 ∧ x1 < (hosts.length : Int) then
          if 0 ≤ (on.length : Int) ∧ (on.length : Int) ≤ (l.length : Int) then
            (vmfleetref39_at.f (slc l (0 : Int) (on.length : Int)) on x1 (-1 : Int)).bind fun r1 =>
            if 0 ≤ (on.length : Int) ∧ (on.length : Int) < (l.length : Int) then
              (vmfleetref39_Admit.f ((nth ((0 : Int), (0 : Int), false) hosts x1).1, ((nth ((0 : Int), (0 : Int), false) hosts x1).2)) r1 ((nth ((0 : Int), (0 : Int), (0 : Int), (0 : Int)) l (on.length : Int)).1, ((nth ((0 : Int), (0 : Int), (0 : Int), (0 : Int)) l (on.length : Int)).2).1, (((nth ((0 : Int), (0 : Int), (0 : Int), (0 : Int)) l (on.length : Int)).2).2))).bind fun r2 =>
              bif !decide (r2 = 0) then
                some (.inl (IntKind.wrap .i64 (x1 + 1)))
              else
                if (([] : List Int).length + on.length) * 8 ≤ 70368744177664 then
                  if ((([] : List Int) ++ on).length + ([x1] : List Int).length) * 8 ≤ 70368744177664 then
                    (vmfleetref39_assign.rc n hosts l ((([] : List Int) ++ on) ++ ([x1] : List Int))).bind fun r3 =>
                    bif r3.2 then
                      some (.inr (.inr (r3.1, true)))
                    else
                      some (.inl (IntKind.wrap .i64 (x1 + 1)))
                  else none
                else none
            else none
          else none
        else none
      else
        some (.inr (.inl ()))) (0 : Int)).bind fun o => match o with
    | .inl y2 =>
      some ([], false)
    | .inr r => some r) := rfl

theorem extend_eq (hosts : List Cap) (l : List Dem) (hh : hosts.length ≤ 6) (hl : l.length ≤ 16) : ∀ (k n : Nat) (on : List Int), on.length + k = l.length → k < n → balance_extend.rc n hosts l on = some (extOf hosts l k on)
  | 0, n + 1, on, e, _ => by
    rw [extend_succ]
    have : (on.length : Int) = l.length := by omega
    simp only [this, decide_true, cond_true]
    rfl
  | k + 1, n + 1, on, e, hk => by
    rw [extend_succ]
    have h0 : ¬ (on.length : Int) = l.length := by omega
    simp only [h0, decide_false, cond_false]
    refine bindE (loop_find hosts.length (fun (h : Nat) => if admitOf (nth cap0 hosts h) (GU (l.take on.length) on h) (nth dem0 l on.length) = 0 then (if (extOf hosts l k (on ++ [(h : Int)])).2 = true then some (extOf hosts l k (on ++ [(h : Int)])).1 else none) else none) (fun r => .inr (r, true)) (.inl ()) (fun i hi => ?_) ?_) ?_
    · have g1 : (i : Int) < hosts.length := by omega
      have g2 : 0 ≤ (i : Int) ∧ (i : Int) < hosts.length := ⟨by omega, g1⟩
      have g3 : 0 ≤ (on.length : Int) ∧ (on.length : Int) ≤ l.length := ⟨by omega, by omega⟩
      have g4 : 0 ≤ (on.length : Int) ∧ (on.length : Int) < l.length := ⟨by omega, by omega⟩
      simp only [g1, decide_true, cond_true, g2, and_self, if_true, g3, g4]
      have e1 : ((nth ((0 : Int), (0 : Int), false) hosts i).1, (nth ((0 : Int), (0 : Int), false) hosts i).2) = nth cap0 hosts i := rfl
      have e2 : ((nth ((0 : Int), (0 : Int), (0 : Int), (0 : Int)) l on.length).1, (nth ((0 : Int), (0 : Int), (0 : Int), (0 : Int)) l on.length).2.1, (nth ((0 : Int), (0 : Int), (0 : Int), (0 : Int)) l on.length).2.2) = nth dem0 l on.length := rfl
      rw [wrap_i64 (n := (i : Int) + 1) (by omega) (by omega), slc_take, guests_eq _ _ _ (by rw [List.length_take]; omega) (by rw [List.length_take]; omega), Option.bind_some, e1, e2, admit_eq, Option.bind_some]
      by_cases ha : admitOf (nth cap0 hosts i) (GU (l.take on.length) on i) (nth dem0 l on.length) = 0
      · simp only [ha, decide_true, Bool.not_true, cond_false, if_true]
        rw [clone_eq on (by omega), Option.bind_some, if_pos (show (on.length + ([(i : Int)] : List Int).length) * 8 ≤ 70368744177664 by simp only [List.length_singleton]; omega), extend_eq hosts l hh hl k n (on ++ [(i : Int)]) (by simp only [List.length_append, List.length_singleton]; omega) (by omega), Option.bind_some]
        cases (extOf hosts l k (on ++ [(i : Int)])).2 <;> rfl
      · simp only [ha, decide_false, Bool.not_false, cond_true, if_false]
    · simp only [Int.lt_irrefl, decide_false, cond_false]
    · conv => rhs; unfold extOf
      cases (List.range hosts.length).findSome? _ <;> rfl

theorem rextend_eq (hosts : List Cap) (l : List Dem) (hh : hosts.length ≤ 6) (hl : l.length ≤ 16) : ∀ (k n : Nat) (on : List Int), on.length + k = l.length → k < n → vmfleetref39_assign.rc n hosts l on = some (extOf hosts l k on)
  | 0, n + 1, on, e, _ => by
    rw [assign_succ]
    have : (on.length : Int) = l.length := by omega
    simp only [this, decide_true, cond_true]
    rfl
  | k + 1, n + 1, on, e, hk => by
    rw [assign_succ]
    have h0 : ¬ (on.length : Int) = l.length := by omega
    simp only [h0, decide_false, cond_false]
    refine bindE (loop_find hosts.length (fun (h : Nat) => if admitOf (nth cap0 hosts h) (GU (l.take on.length) on h) (nth dem0 l on.length) = 0 then (if (extOf hosts l k (on ++ [(h : Int)])).2 = true then some (extOf hosts l k (on ++ [(h : Int)])).1 else none) else none) (fun r => .inr (r, true)) (.inl ()) (fun i hi => ?_) ?_) ?_
    · have g1 : (i : Int) < hosts.length := by omega
      have g2 : 0 ≤ (i : Int) ∧ (i : Int) < hosts.length := ⟨by omega, g1⟩
      have g3 : 0 ≤ (on.length : Int) ∧ (on.length : Int) ≤ l.length := ⟨by omega, by omega⟩
      have g4 : 0 ≤ (on.length : Int) ∧ (on.length : Int) < l.length := ⟨by omega, by omega⟩
      simp only [g1, decide_true, cond_true, g2, and_self, if_true, g3, g4]
      have e1 : ((nth ((0 : Int), (0 : Int), false) hosts i).1, (nth ((0 : Int), (0 : Int), false) hosts i).2) = nth cap0 hosts i := rfl
      have e2 : ((nth ((0 : Int), (0 : Int), (0 : Int), (0 : Int)) l on.length).1, (nth ((0 : Int), (0 : Int), (0 : Int), (0 : Int)) l on.length).2.1, (nth ((0 : Int), (0 : Int), (0 : Int), (0 : Int)) l on.length).2.2) = nth dem0 l on.length := rfl
      rw [wrap_i64 (n := (i : Int) + 1) (by omega) (by omega), slc_take, at_eq _ _ _ _ (by rw [List.length_take]; omega) (by rw [List.length_take]; omega), AT_neg _ _ _ _ (by decide), Option.bind_some, e1, e2, radmit_eq, Option.bind_some]
      by_cases ha : admitOf (nth cap0 hosts i) (GU (l.take on.length) on i) (nth dem0 l on.length) = 0
      · simp only [ha, decide_true, Bool.not_true, cond_false, if_true]
        rw [List.nil_append, if_pos (show (([] : List Int).length + on.length) * 8 ≤ 70368744177664 by simp only [List.length_nil]; omega), if_pos (show (on.length + ([(i : Int)] : List Int).length) * 8 ≤ 70368744177664 by simp only [List.length_singleton]; omega), rextend_eq hosts l hh hl k n (on ++ [(i : Int)]) (by simp only [List.length_append, List.length_singleton]; omega) (by omega), Option.bind_some]
        cases (extOf hosts l k (on ++ [(i : Int)])).2 <;> rfl
      · simp only [ha, decide_false, Bool.not_false, cond_true, if_false]
    · simp only [Int.lt_irrefl, decide_false, cond_false]
    · conv => rhs; unfold extOf
      cases (List.range hosts.length).findSome? _ <;> rfl

def assignOf (hosts : List Cap) (l : List Dem) : List Int × Bool := if 1 ≤ hosts.length ∧ hosts.length ≤ 6 ∧ l.length ≤ 8 then extOf hosts l l.length [] else ([], false)

theorem passign_eq (hosts : List Cap) (l : List Dem) : balance_Assign.f hosts l = some (assignOf hosts l) := by
  unfold balance_Assign.f assignOf
  by_cases h1 : (hosts.length : Int) < 1
  · have : ¬ (1 ≤ hosts.length ∧ hosts.length ≤ 6 ∧ l.length ≤ 8) := by omega
    rw [if_neg this]
    simp only [h1, decide_true, cond_true]
  by_cases h2 : (hosts.length : Int) > 6
  · have : ¬ (1 ≤ hosts.length ∧ hosts.length ≤ 6 ∧ l.length ≤ 8) := by omega
    rw [if_neg this]
    simp only [h1, h2, decide_true, decide_false, cond_true, cond_false]
  by_cases h3 : (l.length : Int) > 8
  · have : ¬ (1 ≤ hosts.length ∧ hosts.length ≤ 6 ∧ l.length ≤ 8) := by omega
    rw [if_neg this]
    simp only [h1, h2, h3, decide_true, decide_false, cond_true, cond_false]
  rw [if_pos (show 1 ≤ hosts.length ∧ hosts.length ≤ 6 ∧ l.length ≤ 8 by omega)]
  simp only [h1, h2, h3, decide_false, cond_false]
  unfold balance_extend.f
  rw [extend_eq hosts l (by omega) (by omega) l.length 12 [] (by simp) (by omega)]
  rfl

theorem rassign_eq (hosts : List Cap) (l : List Dem) : vmfleetref39_Assign.f hosts l = some (assignOf hosts l) := by
  unfold vmfleetref39_Assign.f assignOf
  by_cases h1 : (hosts.length : Int) < 1
  · have : ¬ (1 ≤ hosts.length ∧ hosts.length ≤ 6 ∧ l.length ≤ 8) := by omega
    rw [if_neg this]
    simp only [h1, decide_true, cond_true]
  by_cases h2 : (hosts.length : Int) > 6
  · have : ¬ (1 ≤ hosts.length ∧ hosts.length ≤ 6 ∧ l.length ≤ 8) := by omega
    rw [if_neg this]
    simp only [h1, h2, decide_true, decide_false, cond_true, cond_false]
  by_cases h3 : (l.length : Int) > 8
  · have : ¬ (1 ≤ hosts.length ∧ hosts.length ≤ 6 ∧ l.length ≤ 8) := by omega
    rw [if_neg this]
    simp only [h1, h2, h3, decide_true, decide_false, cond_true, cond_false]
  rw [if_pos (show 1 ≤ hosts.length ∧ hosts.length ≤ 6 ∧ l.length ≤ 8 by omega)]
  simp only [h1, h2, h3, decide_false, cond_false]
  unfold vmfleetref39_assign.f
  rw [rextend_eq hosts l (by omega) (by omega) l.length 12 [] (by simp) (by omega)]
  rfl

/-! ### Equal lists -/
theorem all_eq_zip {α : Type} (d : α) [DecidableEq α] : ∀ a b : List α, a.length = b.length → ((List.range a.length).all fun i => decide (nth d a i = nth d b i)) = decide (a = b) := by
  intro a b h
  rw [Bool.eq_iff_iff, List.all_eq_true, decide_eq_true_eq]
  constructor
  · intro hx
    apply List.ext_getElem h
    intro i h1 h2
    have := hx i (List.mem_range.2 h1)
    rw [nth_lt h1, nth_lt h2] at this
    simpa using this
  · rintro rfl i _
    simp

theorem sameInts_eq (a b : List Int) (ha : a.length ≤ 1000000) : vmfleetref1_SameInts.f a b = some (decide (a = b)) := by
  unfold vmfleetref1_SameInts.f
  by_cases h : (a.length : Int) = b.length
  · simp only [h, decide_true, Bool.not_true, cond_false]
    rw [← h, loop_all (List.range a.length) (fun i => decide (nth (0 : Int) a i = nth (0 : Int) b i)) (.inr false) (.inl ()) ?h1 ?h2]
    · rw [all_eq_zip _ a b (by omega)]
      by_cases e : a = b <;> simp [e]
    case h1 =>
      intro i x hx
      obtain ⟨hi, rfl⟩ := range_get hx
      have g1 : (x : Int) < a.length := by omega
      have g2 : 0 ≤ (x : Int) ∧ (x : Int) < a.length := ⟨by omega, g1⟩
      simp only [g1, decide_true, cond_true, g2, and_self, if_true]
      rw [wrap_i64 (n := (x : Int) + 1) (by omega) (by omega)]
      by_cases e : nth (0 : Int) a x = nth (0 : Int) b x
      · simp only [e, decide_true, Bool.not_true, cond_false, if_true]
      · simp only [e, decide_false, Bool.not_false, cond_true, Bool.false_eq_true, if_false]
    case h2 => simp
  · have : ¬ a = b := fun e => h (by rw [e])
    simp [h, this]

theorem sameMoves_eq (a b : List Mov) (ha : a.length ≤ 1000000) : vmfleetref39_SameMoves.f a b = some (decide (a = b)) := by
  unfold vmfleetref39_SameMoves.f
  by_cases h : (a.length : Int) = b.length
  · simp only [h, decide_true, Bool.not_true, cond_false]
    rw [← h, loop_all (List.range a.length) (fun i => decide (nth ((0 : Int), (0 : Int), (0 : Int)) a i = nth ((0 : Int), (0 : Int), (0 : Int)) b i)) (.inr false) (.inl ()) ?h1 ?h2]
    · rw [all_eq_zip _ a b (by omega)]
      by_cases e : a = b <;> simp [e]
    case h1 =>
      intro i x hx
      obtain ⟨hi, rfl⟩ := range_get hx
      have g1 : (x : Int) < a.length := by omega
      have g2 : 0 ≤ (x : Int) ∧ (x : Int) < a.length := ⟨by omega, g1⟩
      simp only [g1, decide_true, cond_true, g2, and_self, if_true]
      rw [wrap_i64 (n := (x : Int) + 1) (by omega) (by omega)]
      by_cases e : nth ((0 : Int), (0 : Int), (0 : Int)) a x = nth ((0 : Int), (0 : Int), (0 : Int)) b x
      · simp only [e, decide_true, Bool.not_true, cond_false, if_true]
      · have e' : ¬ ((nth ((0 : Int), (0 : Int), (0 : Int)) a x).1, (nth ((0 : Int), (0 : Int), (0 : Int)) a x).2) = ((nth ((0 : Int), (0 : Int), (0 : Int)) b x).1, (nth ((0 : Int), (0 : Int), (0 : Int)) b x).2) := e
        simp only [e, e', decide_false, Bool.not_false, cond_true, Bool.false_eq_true, if_false]
    case h2 => simp
  · have : ¬ a = b := fun e => h (by rw [e])
    simp [h, this]

end Go.Proofs.Ytondojojpgmjcaa.Fn
