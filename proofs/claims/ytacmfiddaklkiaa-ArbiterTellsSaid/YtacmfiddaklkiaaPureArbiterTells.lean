/- The law ArbiterTells, in plain Lean: at every store, claim and command its function is true. No condition but the arguments' ranges. -/
import Derived.Test.YtacmfiddaklkiaaPureCh26
set_option linter.unusedVariables false
set_option linter.unusedSimpArgs false
namespace Go.Proofs.Ytacmfiddaklkiaa.Fn
open Go Lift

theorem light_len {b : List ByteArray} {r : Bool} (h : vmfleetlaw26_light.f b = some r) (hr : r = true) : b.length ≤ 100 := by
  unfold vmfleetlaw26_light.f at h
  obtain ⟨o, _, h⟩ := Option.bind_eq_some_iff.1 h
  subst hr
  cases o with
  | inl u =>
    simp only [Option.some.injEq, decide_eq_true_eq] at h
    omega
  | inr r =>
    simp only [Option.some.injEq] at h
    subst h
    rename_i hl
    exfalso
    have := loop_some hl
    obtain ⟨k, hk⟩ := this
    have key : ∀ (k : Nat) (x : Int), loopN (fun (x1 : Int) =>
        bif decide (x1 < (b.length : Int)) then
          bif decide (x1 < 200) then
            if 0 ≤ x1 ∧ x1 < (b.length : Int) then
              bif decide (((nth (⟨#[]⟩ : ByteArray) b x1).size : Int) > 300) then
                some (.inr (.inr false))
              else
                some (.inl (IntKind.wrap .i64 (x1 + 1)))
            else none
          else
            some (.inr (.inl ()))
        else
          some (.inr (.inl ()))) k x ≠ some (.inr true : Unit ⊕ Bool) := by
      intro k
      induction k with
      | zero => intro x h; simp [loopN] at h
      | succ k ih =>
        intro x h
        simp only [loopN] at h
        split at h
        · exact ih _ h
        · rename_i y hy
          cases h
          by_cases h1 : x < (b.length : Int)
          · by_cases h2 : x < 200
            · by_cases h3 : 0 ≤ x ∧ x < (b.length : Int)
              · by_cases h4 : ((nth (⟨#[]⟩ : ByteArray) b x).size : Int) > 300
                · simp [h1, h2, h3, h4] at hy
                · simp [h1, h2, h3, h4] at hy
              · have h3' : ¬ 0 ≤ x := fun h => h3 ⟨h, h1⟩
                simp [h1, h2, h3'] at hy
            · simp [h1, h2] at hy
          · simp [h1] at hy
        · cases h
    exact key k 0 hk

theorem light_some (b : List ByteArray) : ∃ r, vmfleetlaw26_light.f b = some r := by
  unfold vmfleetlaw26_light.f
  have hl : ∃ y : Unit ⊕ Bool, loop (Y := Unit ⊕ Bool) (fun (x1 : Int) =>
      bif decide (x1 < (b.length : Int)) then
        bif decide (x1 < 200) then
          if 0 ≤ x1 ∧ x1 < (b.length : Int) then
            bif decide (((nth (⟨#[]⟩ : ByteArray) b x1).size : Int) > 300) then
              some (.inr (.inr false))
            else
              some (.inl (IntKind.wrap .i64 (x1 + 1)))
          else none
        else
          some (.inr (.inl ()))
      else
        some (.inr (.inl ()))) (0 : Int) = some y ∧ True := by
    refine loop_ind (I := fun x => 0 ≤ x ∧ x ≤ 200) (fun x => (200 - x).toNat) ⟨by decide, by decide⟩ fun x hI => ?_
    obtain ⟨i1, i2⟩ := hI
    by_cases h1 : x < (b.length : Int)
    · by_cases h2 : x < 200
      · have h3 : 0 ≤ x ∧ x < (b.length : Int) := ⟨i1, h1⟩
        by_cases h4 : ((nth (⟨#[]⟩ : ByteArray) b x).size : Int) > 300
        · right; exact ⟨.inr false, by simp only [h1, h2, h3, h4, and_self, if_true, decide_true, cond_true], trivial⟩
        · left
          refine ⟨x + 1, ?_, ⟨by omega, by omega⟩, by omega⟩
          simp only [h1, h2, h3, h4, and_self, if_true, decide_true, decide_false, cond_true, cond_false]
          rw [wrap_i64 (by omega) (by omega)]
      · right; exact ⟨.inl (), by simp only [h1, h2, decide_true, decide_false, cond_true, cond_false], trivial⟩
    · right; exact ⟨.inl (), by simp only [h1, decide_false, cond_false], trivial⟩
  obtain ⟨y, hy, _⟩ := hl
  rw [hy]
  cases y with
  | inl u => exact ⟨_, rfl⟩
  | inr r => exact ⟨_, rfl⟩

theorem arbiterTells (s : Sto) (host seen gen : Int) (o : Cmd) (hg : 0 ≤ s.2.1) (hseen : 0 ≤ seen) (ho : 0 ≤ o.2.2.1) (ho2 : o.2.2.1 ≤ 4294967295) : vmfleetlaw26_ArbiterTells.f s host seen gen o = some true := by
  unfold vmfleetlaw26_ArbiterTells.f
  obtain ⟨r, hr⟩ := light_some s.1
  rw [arbiter_awake, hr]
  simp only [Option.bind_some]
  cases r with
  | false => simp
  | true =>
    have hlen := light_len hr rfl
    have hl : s.1.length ≤ 1000000 := by omega
    simp only [Bool.not_true, cond_false]
    by_cases hd : (o.2.2.2.size : Int) > 300
    · simp [hd]
    · simp only [hd, decide_false, cond_false]
      rw [claim_eqA s host seen hl hseen, claim_eqR s host seen hl hg, exec_eqA s gen o hl ho ho2, exec_eqR s gen o hl hg ho ho2, new_eqA s.1 hl, new_eqR s.1 hl, valid_eqA s hl, valid_eqR s hl hg]
      have c1 : (claimOf s host seen).1.1.length ≤ 1000000 := by unfold claimOf; split <;> exact hl
      have c2 : (execOf s gen o).1.1.length ≤ 1000000 := by
        unfold execOf
        split
        · split
          · exact hl
          · split
            · split
              · simp only [put, List.length_set]; exact hl
              · exact hl
            · exact hl
        · exact hl
      have c3 : (newOf s.1).1.1.length ≤ 1000000 := by unfold newOf; split; exact hl; exact Nat.zero_le _
      simp only [Option.bind_some, beq_self_eq_true, cond_true, decide_true]
      rw [sameStore_refl _ c1, sameStore_refl _ c2, sameStore_refl _ c3]
      simp

theorem vmfleetlaw26_ArbiterTells.pure (x : (tup vmfleetlaw26_ArbiterTells.sp.args).den) (h : WfL vmfleetlaw26_ArbiterTells.sp.args x) : vmfleetlaw26_ArbiterTells.sp.f x = some true :=
  arbiterTells x.1 x.2.1 x.2.2.1 x.2.2.2.1 x.2.2.2.2 h.1.2.1.1 h.2.2.1.1 h.2.2.2.2.2.2.1.1 h.2.2.2.2.2.2.1.2

end Go.Proofs.Ytacmfiddaklkiaa.Fn
