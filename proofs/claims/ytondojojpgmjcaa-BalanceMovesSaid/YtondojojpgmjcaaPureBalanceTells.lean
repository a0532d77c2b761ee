/- The law BalanceTells, in plain Lean: at every input its function is true. -/
import Derived.Test.YtondojojpgmjcaaPureCh40e
set_option linter.unusedVariables false
set_option linter.unusedSimpArgs false
namespace Go.Proofs.Ytondojojpgmjcaa.Fn
open Go Lift

theorem tells_eq (hosts : List Cap) (l : List Dem) (on : List Int) (d : Dem) (no : List Int) (most host : Int) (hl : l.length ≤ 16) (hno : no.length ≤ 1000000) : vmfleetlaw40_tells.f hosts l on d no most host = some true := by
  unfold vmfleetlaw40_tells.f
  have hc : ∃ c : Cap, ((bif decide ((hosts.length : Int) > 0) then
    if 0 ≤ (0 : Int) ∧ (0 : Int) < (hosts.length : Int) then
      some (.inl ((nth ((0 : Int), (0 : Int), false) hosts (0 : Int)).1, ((nth ((0 : Int), (0 : Int), false) hosts (0 : Int)).2)))
    else none
  else
    some (.inl ((0 : Int), (0 : Int), false)) : Option ((Int × Int × Bool) ⊕ (Bool)))) = some (.inl c) := by
    by_cases h : (hosts.length : Int) > 0
    · have h' : 0 ≤ (0 : Int) ∧ (0 : Int) < (hosts.length : Int) := ⟨by omega, h⟩
      simp only [h, h', decide_true, cond_true, and_self, if_true]
      exact ⟨_, rfl⟩
    · simp only [h, decide_false, cond_false]
      exact ⟨_, rfl⟩
  obtain ⟨c, hc⟩ := hc
  rw [hc, Option.bind_some]
  dsimp only
  rw [pspread_eq, rspread_eq, pchoose_eq _ _ _ _ _ hno, rChoose_eq _ _ _ _ _ hno, passign_eq, rassign_eq, pimprove_eq, rimprove_eq _ _ _ (by omega), prebalance_eq, rrebalance_eq, pevac_eq, revac_eq, pload_eq, rload_eq]
  simp only [Option.bind_some, decide_true, Bool.not_true, cond_false, beq_self_eq_true]
  have ha : (assignOf hosts l).1.length ≤ 1000000 := by
    unfold assignOf
    split
    · have := ext_len hosts l l.length []
      simp only [List.length_nil] at this
      omega
    · simp
  have hr : (rebalanceOf hosts l on most).1.length ≤ 1000000 ∧ (rebalanceOf hosts l on most).2.length ≤ 1000000 := by
    unfold rebalanceOf
    split
    · rename_i hv
      obtain ⟨h1, h2, h3, h4, h5, h6⟩ := (vB_iff _ _ _).1 hv
      have := reb_len hosts l (min most 10).toNat on []
      simp only [List.length_nil] at this
      omega
    · simp
  have he := evac_len hosts l on host
  rw [sameInts_eq _ _ ha, sameMoves_eq _ _ hr.1, sameInts_eq _ _ hr.2, sameMoves_eq _ _ he.1, sameInts_eq _ _ he.2]
  simp only [Option.bind_some, decide_true, Bool.not_true, cond_false, cond_true]

theorem balanceTells (hosts : List Cap) (l : List Dem) (on : List Int) (d : Dem) (no : List Int) (most host : Int) : vmfleetlaw40_BalanceTells.f hosts l on d no most host = some true := by
  unfold vmfleetlaw40_BalanceTells.f vmfleetlaw40_small.f
  rw [vmfleetlaw40_awake.ok]
  by_cases h1 : (hosts.length : Int) ≤ 4
  · by_cases h2 : (l.length : Int) ≤ 6
    · by_cases h3 : (on.length : Int) > 20
      · simp [h1, h2, h3]
      · by_cases h4 : (no.length : Int) > 20
        · simp [h1, h2, h3, h4]
        · rw [tells_eq _ _ _ _ _ _ _ (by omega) (by omega)]
          simp [h1, h2, h3, h4]
    · simp [h1, h2]
  · simp [h1]

theorem vmfleetlaw40_BalanceTells.pure (x : (tup vmfleetlaw40_BalanceTells.sp.args).den) (h : WfL vmfleetlaw40_BalanceTells.sp.args x) : vmfleetlaw40_BalanceTells.sp.f x = some true := balanceTells x.1 x.2.1 x.2.2.1 x.2.2.2.1 x.2.2.2.2.1 x.2.2.2.2.2.1 x.2.2.2.2.2.2

end Go.Proofs.Ytondojojpgmjcaa.Fn
