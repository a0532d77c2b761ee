/- The law BalanceMoves, in plain Lean: at every input its function is true. -/
import Derived.Test.YtondojojpgmjcaaPureBalanceEvacuates
set_option linter.unusedVariables false
set_option linter.unusedSimpArgs false
namespace Go.Proofs.Ytondojojpgmjcaa.Fn
open Go Lift

/-- One move of a rebalancing, as the law checks it. -/
def pmStep (hs : List Cap) (ds : List Dem) (s : List Int × Int) (m : Mov) : Option (List Int × Int) :=
  if m.1 < 0 then none else if m.1 ≥ s.1.length then none else if nth (0 : Int) s.1 m.1 = m.2.1 then (if m.2.2 = m.2.1 then none else
    if vB hs ds (put s.1 m.1 m.2.2) = true then (if (spreadOf hs ds (put s.1 m.1 m.2.2)).2 = true then (if (spreadOf hs ds (put s.1 m.1 m.2.2)).1 ≥ s.2 then none else some (put s.1 m.1 m.2.2, (spreadOf hs ds (put s.1 m.1 m.2.2)).1)) else none) else none) else none

theorem reb_spec (hs : List Cap) (ds : List Dem) (z : List Int × Int) : ∀ (k : Nat) (on : List Int) (mv : List Mov), foldO (pmStep hs ds) z mv = some (on, (spreadOf hs ds on).1) →
    foldO (pmStep hs ds) z (rebOf hs ds k on mv).1 = some ((rebOf hs ds k on mv).2, (spreadOf hs ds (rebOf hs ds k on mv).2).1) ∧ ((rebOf hs ds k on mv).1.length = mv.length + k ∨ (improveOf hs ds (rebOf hs ds k on mv).2).2 = false)
  | 0, on, mv, h => ⟨h, .inl rfl⟩
  | k + 1, on, mv, h => by
    unfold rebOf
    by_cases c : (improveOf hs ds on).2 = true
    · rw [if_pos c]
      obtain ⟨g, x, e1, e2, e3, e4, e5⟩ := improve_spec c
      have hb : foldO (pmStep hs ds) z (mv ++ [(improveOf hs ds on).1]) = some (put on (improveOf hs ds on).1.1 (improveOf hs ds on).1.2.2, (spreadOf hs ds (put on (improveOf hs ds on).1.1 (improveOf hs ds on).1.2.2)).1) := by
        rw [foldO_snoc, h, Option.bind_some, e1]
        unfold pmStep
        simp only
        have hne : ¬ (x : Int) = nth (0 : Int) on g := fun hh => by
          rw [hh, put_same e2] at e5
          omega
        rw [if_neg (by omega), if_neg (by omega), if_pos trivial, if_neg hne, if_pos (spread_vB e4), if_pos e4, if_neg (by omega)]
      have := reb_spec hs ds z k _ _ hb
      refine ⟨this.1, ?_⟩
      rcases this.2 with h | h
      · left
        rw [h]
        simp only [List.length_append, List.length_singleton]
        omega
      · exact .inr h
    · rw [if_neg c]
      exact ⟨h, .inr (by simpa using c)⟩

theorem balanceMoves (hosts l : List Int) : vmfleetlaw40_BalanceMoves.f hosts l = some true := by
  unfold vmfleetlaw40_BalanceMoves.f
  rw [vmfleetlaw40_awake.ok]
  by_cases h1 : (hosts.length : Int) < 1
  · simp [h1]
  by_cases h2 : (hosts.length : Int) > 4
  · simp [h1, h2]
  by_cases h3 : (l.length : Int) > 6
  · simp [h1, h2, h3]
  simp only [h1, h2, h3, decide_false, cond_false]
  rw [problem_eq _ _ (by omega) (by omega), Option.bind_some, passign_eq, Option.bind_some]
  have hhl : (hosts.map capOf).length = hosts.length := List.length_map _
  have hdl : (l.map demOf).length = l.length := List.length_map _
  generalize hosts.map capOf = hs at hhl
  generalize l.map demOf = ds at hdl
  dsimp only
  cases hok : (assignOf hs ds).2 with
  | false => rfl
  | true =>
    have hva := assign_sound hok
    have el := vB_len hva
    generalize (assignOf hs ds).1 = on at hva el
    simp only [Bool.not_true, cond_false]
    rw [prebalance_eq, Option.bind_some, if_pos (show (([] : List Int).length + on.length) * 8 ≤ 70368744177664 by simp only [List.length_nil]; omega), List.nil_append, pspread_eq, Option.bind_some]
    have er : rebalanceOf hs ds on 10 = rebOf hs ds 10 on [] := by
      unfold rebalanceOf
      rw [if_pos hva]
      rfl
    rw [er]
    obtain ⟨i1, i2⟩ := reb_spec hs ds (on, (spreadOf hs ds on).1) 10 on [] rfl
    have i3 := (reb_len hs ds 10 on [])
    have i4 : (spreadOf hs ds on).2 = false → rebOf hs ds 10 on [] = ([], on) := fun h => by
      have : (improveOf hs ds on).2 = false := by unfold improveOf; rw [h]; rfl
      unfold rebOf
      rw [this]
      rfl
    generalize hrr : rebOf hs ds 10 on [] = rr at i1 i2 i3 i4
    obtain ⟨mv, y2⟩ := rr
    simp only [List.length_nil, Nat.zero_add] at i1 i2 i3 i4
    dsimp only
    refine bindE (loop_list (fun (s : List Int × Int) i => (s.1, s.2, i)) mv (fun s m => toE (Sum.inr false) (pmStep hs ds s m)) (fun s => (.inl s.1 : List Int ⊕ Bool)) (on, (spreadOf hs ds on).1) (fun _ _ => True) trivial (fun i m s hx _ => ⟨?_, fun _ _ => trivial⟩) (fun s _ => ?_)) ?_
    rotate_left 2
    · rw [foldE_O, i1]
      simp only [endE]
      rw [pimprove_eq, Option.bind_some, sameInts_eq _ _ (by omega)]
      simp only [decide_true, cond_true, Option.bind_some]
      cases hup : (spreadOf hs ds on).2 with
      | false =>
        have e := i4 hup
        cases e
        have hi : (improveOf hs ds on).2 = false := by unfold improveOf; rw [hup]; rfl
        rw [hi]
        rfl
      | true =>
        rcases i2 with h | h
        · have : (mv.length : Int) = 10 := by omega
          simp [this]
        · rw [h]
          cases decide ((mv.length : Int) = 10) <;> rfl
    · have hi := idx_lt hx
      have hb : 0 ≤ (i : Int) ∧ (i : Int) < mv.length := ⟨by omega, hi⟩
      simp only [hi, decide_true, cond_true, hb, and_self, if_true, nth_some hx]
      rw [wrap_i64 (n := (i : Int) + 1) (by omega) (by omega)]
      unfold pmStep
      by_cases c1 : m.1 < 0
      · rw [if_pos c1]; simp only [c1, decide_true, cond_true]; rfl
      · by_cases c2 : m.1 ≥ (s.1.length : Int)
        · rw [if_neg c1, if_pos c2]; simp only [c1, c2, decide_true, decide_false, cond_true, cond_false]; rfl
        · have g3 : 0 ≤ m.1 ∧ m.1 < (s.1.length : Int) := by omega
          rw [if_neg c1, if_neg c2]
          simp only [c1, c2, decide_false, cond_false, g3, and_self, if_true]
          by_cases c3 : nth (0 : Int) s.1 m.1 = m.2.1
          · by_cases c4 : m.2.2 = m.2.1
            · rw [if_pos c3, if_pos c4]
              simp only [c3, c4, decide_true, Bool.not_true, cond_true, cond_false]; rfl
            · rw [if_pos c3, if_neg c4]
              simp only [c3, c4, decide_true, decide_false, Bool.not_true, cond_false]
              rw [pspread_eq, Option.bind_some, lv_eq _ _ _ (by omega) (by omega) (by omega), Option.bind_some]
              cases vB hs ds (put s.1 m.1 m.2.2) with
              | false => rfl
              | true =>
                cases (spreadOf hs ds (put s.1 m.1 m.2.2)).2 with
                | false => rfl
                | true =>
                  by_cases c5 : (spreadOf hs ds (put s.1 m.1 m.2.2)).1 ≥ s.2
                  · rw [if_pos rfl, if_pos rfl, if_pos c5]
                    simp only [c5, decide_true, Bool.not_true, cond_false, cond_true]; rfl
                  · rw [if_pos rfl, if_pos rfl, if_neg c5]
                    simp only [c5, decide_false, Bool.not_true, cond_false]; rfl
          · rw [if_neg c3]
            simp only [c3, decide_false, Bool.not_false, cond_true]; rfl
    · simp only [Int.lt_irrefl, decide_false, cond_false]

theorem vmfleetlaw40_BalanceMoves.pure (x : (tup vmfleetlaw40_BalanceMoves.sp.args).den) (h : WfL vmfleetlaw40_BalanceMoves.sp.args x) : vmfleetlaw40_BalanceMoves.sp.f x = some true := balanceMoves x.1 x.2

end Go.Proofs.Ytondojojpgmjcaa.Fn
