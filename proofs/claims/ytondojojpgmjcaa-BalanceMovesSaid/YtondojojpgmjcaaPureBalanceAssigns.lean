/- The law BalanceAssigns, in plain Lean: at every input its function is true. -/
import Derived.Test.YtondojojpgmjcaaPureCh40f
set_option linter.unusedVariables false
set_option linter.unusedSimpArgs false
namespace Go.Proofs.Ytondojojpgmjcaa.Fn
open Go Lift

theorem vB_len {hosts : List Cap} {l : List Dem} {on : List Int} (h : vB hosts l on = true) : on.length = l.length := ((vB_iff _ _ _).1 h).2.2.2.1

theorem balanceAssigns (hosts l tr : List Int) : vmfleetlaw40_BalanceAssigns.f hosts l tr = some true := by
  unfold vmfleetlaw40_BalanceAssigns.f
  rw [vmfleetlaw40_awake.ok]
  by_cases h1 : (hosts.length : Int) < 1
  · simp [h1]
  by_cases h2 : (hosts.length : Int) > 4
  · simp [h1, h2]
  by_cases h3 : (l.length : Int) > 6
  · simp [h1, h2, h3]
  by_cases h4 : (tr.length : Int) < l.length
  · simp [h1, h2, h3, h4]
  simp only [h1, h2, h3, h4, decide_false, cond_false]
  rw [problem_eq _ _ (by omega) (by omega), Option.bind_some, passign_eq, Option.bind_some]
  have hhl : (hosts.map capOf).length = hosts.length := List.length_map _
  have hdl : (l.map demOf).length = l.length := List.length_map _
  generalize hosts.map capOf = hs at hhl
  generalize l.map demOf = ds at hdl
  dsimp only
  refine bindE (x := .inl ()) ?_ ?_
  · cases hok : (assignOf hs ds).2 with
    | true =>
      simp only [cond_true, cond_false, Bool.not_true]
      rw [lv_eq _ _ _ (by omega) (by omega) (by omega), assign_sound hok]
      rfl
    | false =>
      rw [assign_fail hok]
      rfl
  dsimp only
  obtain ⟨y, hy, other, rfl⟩ := loop_ind (step := (fun (x2 : List Int × Int) =>
              bif decide (x2.2 < (ds.length : Int)) then
                if 0 ≤ x2.2 ∧ x2.2 < (tr.length : Int) then
                  (vmfleetmake_Round.f (nth (0 : Int) tr x2.2) (hs.length : Int)).bind fun r8 =>
                  if (x2.1.length + ([r8] : List Int).length) * 8 ≤ 70368744177664 then
                    some (.inl (x2.1 ++ ([r8] : List Int), IntKind.wrap .i64 (x2.2 + 1)))
                  else none
                else none
              else
                some (.inr ((.inl x2.1 : (List Int) ⊕ (Bool)))))) (I := fun s => ∃ n : Nat, s.2 = n ∧ n ≤ ds.length ∧ s.1.length = n) (Q := fun y => ∃ other, y = .inl other) (fun s => ds.length - s.2.toNat) (x := ([], (0 : Int))) ⟨0, rfl, Nat.zero_le _, rfl⟩ (by
    rintro ⟨s, j⟩ ⟨n, hj, hn, hs'⟩
    simp only at hj hs'
    subst hj
    by_cases hlt : n < ds.length
    · have g1 : (n : Int) < ds.length := by omega
      have g2 : 0 ≤ (n : Int) ∧ (n : Int) < tr.length := ⟨by omega, by omega⟩
      obtain ⟨r, hr, _⟩ := round_some (nth (0 : Int) tr n) hs.length (by omega) (by omega)
      refine .inl ⟨(s ++ [r], ((n + 1 : Nat) : Int)), ?_, ⟨n + 1, rfl, by omega, by simp [hs']⟩, ?_⟩
      · simp only [g1, decide_true, cond_true, g2, and_self, if_true, hr, Option.bind_some]
        rw [if_pos (by simp only [List.length_singleton]; omega), wrap_i64 (by omega) (by omega)]
        rfl
      · simp only
        omega
    · have g1 : ¬ (n : Int) < ds.length := by omega
      refine .inr ⟨.inl s, ?_, s, rfl⟩
      simp only [g1, decide_false, cond_false])
  refine bindE hy ?_
  dsimp only
  rw [lv_eq _ _ _ (by omega) (by omega) (by omega), Option.bind_some]
  cases hvo : vB hs ds other with
  | false => rfl
  | true =>
    obtain ⟨hok, hlx⟩ := assign_complete hvo (by omega)
    have hva := assign_sound hok
    rw [hok]
    simp only [Bool.not_true, cond_false]
    have el := vB_len hva
    have eo := vB_len hvo
    generalize (assignOf hs ds).1 = on at hlx el
    obtain ⟨y, hy, hq⟩ := loop_ind (step := (fun (x4 : Int) =>
                    bif decide (x4 < (on.length : Int)) then
                      if 0 ≤ x4 ∧ x4 < (on.length : Int) then
                        if 0 ≤ x4 ∧ x4 < (other.length : Int) then
                          bif !decide ((nth (0 : Int) on x4) = (nth (0 : Int) other x4)) then
                            if 0 ≤ x4 ∧ x4 < (on.length : Int) then
                              if 0 ≤ x4 ∧ x4 < (other.length : Int) then
                                bif decide ((nth (0 : Int) on x4) < (nth (0 : Int) other x4)) then
                                  ((some true : Option Bool)).bind fun r11 =>
                                  some (.inr ((.inr r11 : (Unit) ⊕ (Bool))))
                                else
                                  some (.inr (.inr false))
                              else none
                            else none
                          else
                            some (.inl (IntKind.wrap .i64 (x4 + 1)))
                        else none
                      else none
                    else
                      some (.inr (.inl ())))) (I := fun x => ∃ n : Nat, x = n ∧ n ≤ on.length ∧ LX (on.drop n) (other.drop n)) (Q := fun y => y = .inl () ∨ y = .inr true) (fun x => on.length - x.toNat) (x := (0 : Int)) ⟨0, rfl, Nat.zero_le _, by simpa using hlx⟩ (by
      rintro x ⟨n, rfl, hn, hl⟩
      by_cases hlt : n < on.length
      · have g1 : (n : Int) < on.length := by omega
        have g2 : 0 ≤ (n : Int) ∧ (n : Int) < on.length := ⟨by omega, g1⟩
        have g3 : 0 ≤ (n : Int) ∧ (n : Int) < other.length := ⟨by omega, by omega⟩
        rw [List.drop_eq_getElem_cons hlt, List.drop_eq_getElem_cons (show n < other.length by omega)] at hl
        simp only [g1, decide_true, cond_true, g2, g3, and_self, if_true, nth_lt hlt, nth_lt (show n < other.length by omega)]
        by_cases c : on[n] = other[n]
        · refine .inl ⟨((n + 1 : Nat) : Int), ?_, ⟨n + 1, rfl, by omega, ?_⟩, by omega⟩
          · simp only [c, decide_true, Bool.not_true, cond_false]
            rw [wrap_i64 (by omega) (by omega)]
            rfl
          · rcases hl with h | h
            · omega
            · exact h.2
        · have c2 : on[n] < other[n] := by
            rcases hl with h | h
            · exact h
            · exact absurd h.1 c
          refine .inr ⟨.inr true, ?_, .inr rfl⟩
          simp only [c, c2, decide_false, decide_true, Bool.not_false, cond_true, Option.bind_some]
      · have g1 : ¬ (n : Int) < on.length := by omega
        refine .inr ⟨.inl (), ?_, .inl rfl⟩
        simp only [g1, decide_false, cond_false])
    refine bindE hy ?_
    rcases hq with rfl | rfl <;> rfl

theorem vmfleetlaw40_BalanceAssigns.pure (x : (tup vmfleetlaw40_BalanceAssigns.sp.args).den) (h : WfL vmfleetlaw40_BalanceAssigns.sp.args x) : vmfleetlaw40_BalanceAssigns.sp.f x = some true := balanceAssigns x.1 x.2.1 x.2.2

end Go.Proofs.Ytondojojpgmjcaa.Fn
