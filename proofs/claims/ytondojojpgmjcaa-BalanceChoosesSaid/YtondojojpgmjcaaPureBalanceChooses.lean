/- The law BalanceChooses, in plain Lean: at every input its function is true. -/
import Derived.Test.YtondojojpgmjcaaPureBalanceMoves
set_option linter.unusedVariables false
set_option linter.unusedSimpArgs false
namespace Go.Proofs.Ytondojojpgmjcaa.Fn
open Go Lift

/-- A loop with an invariant, and what comes after. -/
theorem bindI {X Y β : Type} {step : X → Option (X ⊕ Y)} {x : X} {f : Y → Option β} {r : Option β} (I : X → Prop) (Q : Y → Prop) (μ : X → Nat) (h0 : I x)
    (h : ∀ x, I x → (∃ x', step x = some (.inl x') ∧ I x' ∧ μ x' < μ x) ∨ ∃ y, step x = some (.inr y) ∧ Q y) (k : ∀ y, Q y → f y = r) : (loop step x).bind f = r := by
  obtain ⟨y, hy, hq⟩ := loop_ind (I := I) (Q := Q) μ h0 h
  exact bindE hy (k y hq)

/-- The guests on a host, as the law collects them. -/
theorem lg_loop (l : List Dem) (on : List Int) (h : Int) (e : l.length = on.length) (hb : l.length ≤ 1000000) (Z : Type) (step : List Dem × Int → Option ((List Dem × Int) ⊕ (List Dem ⊕ Z)))
    (hs : step = fun x2 =>
                  bif decide (x2.2 < (l.length : Int)) then
                    bif decide (x2.2 < (on.length : Int)) then
                      if 0 ≤ x2.2 ∧ x2.2 < (on.length : Int) then
                        bif decide ((nth (0 : Int) on x2.2) = h) then
                          if 0 ≤ x2.2 ∧ x2.2 < (l.length : Int) then
                            if (x2.1.length + ([((nth ((0 : Int), (0 : Int), (0 : Int), (0 : Int)) l x2.2).1, ((nth ((0 : Int), (0 : Int), (0 : Int), (0 : Int)) l x2.2).2).1, (((nth ((0 : Int), (0 : Int), (0 : Int), (0 : Int)) l x2.2).2).2))] : List (Int × Int × Int × Int)).length) * 32 ≤ 70368744177664 then
                              some (.inl ((x2.1 ++ ([((nth ((0 : Int), (0 : Int), (0 : Int), (0 : Int)) l x2.2).1, ((nth ((0 : Int), (0 : Int), (0 : Int), (0 : Int)) l x2.2).2).1, (((nth ((0 : Int), (0 : Int), (0 : Int), (0 : Int)) l x2.2).2).2))] : List (Int × Int × Int × Int))), IntKind.wrap .i64 (x2.2 + 1)))
                            else none
                          else none
                        else
                          some (.inl (x2.1, IntKind.wrap .i64 (x2.2 + 1)))
                      else none
                    else
                      some (.inr (.inl x2.1))
                  else
                    some (.inr (.inl x2.1))) : loop step ([], (0 : Int)) = some (.inl (GU l on h)) := by
  subst hs
  refine loop_at (fun i => (GU (l.take i) (on.take i) h, (i : Int))) l.length (Sum.inl (GU l on h)) (fun i hi => ?_) ?_
  · have h1 : (i : Int) < l.length := by omega
    have h2 : 0 ≤ (i : Int) ∧ (i : Int) < l.length := ⟨by omega, h1⟩
    have h3' : (i : Int) < on.length := by omega
    have h3 : 0 ≤ (i : Int) ∧ (i : Int) < on.length := ⟨by omega, by omega⟩
    simp only [h1, h3', decide_true, cond_true, h2, h3, and_self, if_true, nth_lt hi, nth_lt (show i < on.length by omega)]
    rw [GU_step h hi (by omega), wrap_i64 (n := (i : Int) + 1) (by omega) (by omega)]
    by_cases hx : on[i] = h
    · have := GU_len (l.take i) (on.take i) h
      simp only [List.length_take] at this
      have hs : ((GU (l.take i) (on.take i) h).length + ([(l[i].1, l[i].2.1, l[i].2.2)] : List Dem).length) * 32 ≤ 70368744177664 := by simp only [List.length_singleton]; omega
      simp only [hx, decide_true, cond_true, hs, if_true]
      rfl
    · simp only [hx, decide_false, cond_false, if_false, List.append_nil]
      rfl
  · simp only [Int.lt_irrefl, decide_false, cond_false, List.take_length]
    rw [e, List.take_length]

theorem balanceChooses (hosts l : List Int) (n no : Int) : vmfleetlaw40_BalanceChooses.f hosts l n no = some true := by
  unfold vmfleetlaw40_BalanceChooses.f
  rw [vmfleetlaw40_awake.ok]
  by_cases h1 : (hosts.length : Int) < 1
  · simp [h1]
  by_cases h2 : (hosts.length : Int) > 4
  · simp [h1, h2]
  by_cases h3 : (l.length : Int) > 6
  · simp [h1, h2, h3]
  simp only [h1, h2, h3, decide_false, cond_false]
  rw [problem_eq _ _ (by omega) (by omega), Option.bind_some, problem_eq [] [n] (by simp) (by simp), Option.bind_some, passign_eq, Option.bind_some]
  have hhl : (hosts.map capOf).length = hosts.length := List.length_map _
  have hdl : (l.map demOf).length = l.length := List.length_map _
  generalize hosts.map capOf = hs at hhl
  generalize l.map demOf = ds at hdl
  dsimp only
  cases hok : (assignOf hs ds).2 with
  | false => rfl
  | true =>
    have hva := assign_sound hok
    have el := vB_len hva
    generalize (assignOf hs ds).1 = on at hva el
    simp only [Bool.not_true, cond_false]
    rw [wrap_i64 (n := (hs.length : Int) + 1) (by omega) (by omega)]
    obtain ⟨x, ex, x0, x1⟩ := round_some no ((hs.length : Int) + 1) (by omega) (by omega)
    have ed : ((nth ((0 : Int), (0 : Int), (0 : Int), (0 : Int)) (List.map demOf [n]) (0 : Int)).1, (nth ((0 : Int), (0 : Int), (0 : Int), (0 : Int)) (List.map demOf [n]) (0 : Int)).2.1, (nth ((0 : Int), (0 : Int), (0 : Int), (0 : Int)) (List.map demOf [n]) (0 : Int)).2.2) = demOf n := rfl
    have hd0 : 0 ≤ (0 : Int) ∧ (0 : Int) < ((List.map demOf [n]).length : Int) := by simp
    rw [ex, Option.bind_some, if_pos hd0, ed, pchoose_eq _ _ _ _ _ (by simp), hva, if_pos rfl, Option.bind_some]
    have hspec := choose_spec hs (fun h => GU ds on h) (demOf n) [x]
    generalize chooseOf hs (fun h => GU ds on h) (demOf n) [x] = ch at hspec
    have hmem : ∀ k : Nat, chOK hs (fun h => GU ds on h) (demOf n) [x] k ↔ (¬ (k : Int) = x ∧ admitOf (nth cap0 hs k) (GU ds on k) (demOf n) = 0) := fun k => by
      unfold chOK
      rw [List.mem_singleton]
    have hin : ch.2 = true → ∀ k : Nat, (k : Int) = ch.1 → chOK hs (fun h => GU ds on h) (demOf n) [x] k := by
      rcases hspec with ⟨e, _⟩ | ⟨h, _, e, hk, _⟩
      · rw [e]; intro h; cases h
      · rw [e]; intro _ k hk'
        have : k = h := by
          have hk' : (k : Int) = (h : Int) := hk'
          omega
        rw [this]; exact hk
    refine bindI (fun s => ∃ m : Nat, s.2.2 = m ∧ m ≤ hs.length ∧ (s.1 = true → ∃ k, k < m ∧ chOK hs (fun h => GU ds on h) (demOf n) [x] k ∧ s.2.1 = chFr hs (fun h => GU ds on h) k) ∧ ∀ k, k < m → chOK hs (fun h => GU ds on h) (demOf n) [x] k → s.1 = true ∧ chFr hs (fun h => GU ds on h) k ≤ s.2.1)
      (fun y => ∃ c : Bool, ∃ w : Int, y = .inl (c, w) ∧ (c = true → ∃ k, k < hs.length ∧ chOK hs (fun h => GU ds on h) (demOf n) [x] k ∧ w = chFr hs (fun h => GU ds on h) k) ∧ ∀ k, k < hs.length → chOK hs (fun h => GU ds on h) (demOf n) [x] k → c = true ∧ chFr hs (fun h => GU ds on h) k ≤ w)
      (fun s => hs.length - s.2.2.toNat) ⟨0, rfl, Nat.zero_le _, fun h => (by cases h), fun k hk => absurd hk (Nat.not_lt_zero _)⟩ ?_ ?_
    · rintro ⟨c, w, j⟩ ⟨m, hj, hm, hc, ha⟩
      simp only at hj hc ha
      subst hj
      have lt_of : ∀ k, k < m + 1 → k = m ∨ k < m := fun k hk => by omega
      by_cases hlt : m < hs.length
      · have g1 : (m : Int) < hs.length := by omega
        have g2 : 0 ≤ (m : Int) ∧ (m : Int) < hs.length := ⟨by omega, g1⟩
        have e : ((nth ((0 : Int), (0 : Int), false) hs m).1, (nth ((0 : Int), (0 : Int), false) hs m).2) = nth cap0 hs m := rfl
        have hgo : ∀ (c' : Bool) (w' : Int) (f : Bool), (f = true ↔ chOK hs (fun h => GU ds on h) (demOf n) [x] m) →
            (bif ch.2 then bif decide ((m : Int) = ch.1) then bif !f then some (.inr (.inr false)) else some (.inl (c', w', (m : Int) + 1)) else some (.inl (c', w', (m : Int) + 1)) else some (.inl (c', w', (m : Int) + 1)) : Option ((Bool × Int × Int) ⊕ ((Bool × Int) ⊕ Bool))) = some (.inl (c', w', (m : Int) + 1)) := by
          intro c' w' f hf
          cases h2 : ch.2 with
          | false => rfl
          | true =>
            by_cases h3 : (m : Int) = ch.1
            · rw [hf.2 (hin h2 m h3)]
              simp only [h3, decide_true, cond_true, Bool.not_true, cond_false]
            · simp only [h3, decide_false, cond_true, cond_false]
        left
        dsimp only
        have d1 : decide ((m : Int) < hs.length) = true := decide_eq_true g1
        simp only [d1, cond_true]
        by_cases c1 : (m : Int) = x
        · have hno : ¬ chOK hs (fun h => GU ds on h) (demOf n) [x] m := fun h => ((hmem m).1 h).1 c1
          refine ⟨(c, w, (m : Int) + 1), ?_, ⟨m + 1, rfl, by omega, fun h => ?_, fun k hk hok' => ?_⟩, ?_⟩
          · refine bindE (lg_loop ds on m (by omega) (by omega) _ _ rfl) ?_
            dsimp only
            have c1' : decide ((m : Int) = x) = true := decide_eq_true c1
            rw [if_pos g2, e, pfree_eq, Option.bind_some, wrap_i64 (n := (m : Int) + 1) (by omega) (by omega), c1']
            simp only [Bool.not_true, cond_false, Option.bind_some]
            exact hgo c w false ⟨fun h => (by cases h), fun h => absurd h hno⟩
          · obtain ⟨k, k1, k2, k3⟩ := hc h
            exact ⟨k, by omega, k2, k3⟩
          · rcases lt_of k hk with rfl | hk
            · exact absurd hok' hno
            · exact ha k hk hok'
          · simp only; omega
        · by_cases c2 : admitOf (nth cap0 hs m) (GU ds on m) (demOf n) = 0
          · have hyes : chOK hs (fun h => GU ds on h) (demOf n) [x] m := (hmem m).2 ⟨c1, c2⟩
            by_cases c3 : c = true ∧ ¬ chFr hs (fun h => GU ds on h) m > w
            · refine ⟨(c, w, (m : Int) + 1), ?_, ⟨m + 1, rfl, by omega, fun h => ?_, fun k hk hok' => ?_⟩, ?_⟩
              · refine bindE (lg_loop ds on m (by omega) (by omega) _ _ rfl) ?_
                dsimp only
                rw [if_pos g2, e, pfree_eq, Option.bind_some, wrap_i64 (n := (m : Int) + 1) (by omega) (by omega)]
                have c3' : ¬ (frOf (nth cap0 hs m) (GU ds on m)).1 > w := c3.2
                simp only [c1, decide_false, Bool.not_false, cond_true, g2, hd0, and_self, if_true, ed, admit_eq, Option.bind_some, c2, decide_true, c3.1, Bool.not_true, cond_false, c3']
                exact hgo true w true ⟨fun _ => hyes, fun _ => rfl⟩
              · obtain ⟨k, k1, k2, k3⟩ := hc h
                exact ⟨k, by omega, k2, k3⟩
              · rcases lt_of k hk with rfl | hk
                · exact ⟨c3.1, by have := c3.2; simp only; omega⟩
                · exact ha k hk hok'
              · simp only; omega
            · refine ⟨(true, chFr hs (fun h => GU ds on h) m, (m : Int) + 1), ?_, ⟨m + 1, rfl, by omega, fun h => ⟨m, by omega, hyes, rfl⟩, fun k hk hok' => ⟨rfl, ?_⟩⟩, ?_⟩
              · refine bindE (lg_loop ds on m (by omega) (by omega) _ _ rfl) ?_
                dsimp only
                rw [if_pos g2, e, pfree_eq, Option.bind_some, wrap_i64 (n := (m : Int) + 1) (by omega) (by omega)]
                simp only [c1, decide_false, Bool.not_false, cond_true, g2, hd0, and_self, if_true, ed, admit_eq, Option.bind_some, c2, decide_true]
                have := hgo true (chFr hs (fun h => GU ds on h) m) true ⟨fun _ => hyes, fun _ => rfl⟩
                cases hcc : c with
                | false => exact this
                | true =>
                  have c4 : (frOf (nth cap0 hs m) (GU ds on m)).1 > w := by
                    have : chFr hs (fun h => GU ds on h) m > w := Decidable.byContradiction fun h => c3 ⟨hcc, h⟩
                    exact this
                  simp only [c4, decide_true, Bool.not_true, cond_true, cond_false, Option.bind_some]
                  exact this
              · rcases lt_of k hk with rfl | hk
                · exact Int.le_refl _
                · obtain ⟨q1, q2⟩ := ha k hk hok'
                  have : chFr hs (fun h => GU ds on h) m > w := Decidable.byContradiction fun h => c3 ⟨q1, h⟩
                  simp only
                  omega
              · simp only; omega
          · have hno : ¬ chOK hs (fun h => GU ds on h) (demOf n) [x] m := fun h => c2 ((hmem m).1 h).2
            refine ⟨(c, w, (m : Int) + 1), ?_, ⟨m + 1, rfl, by omega, fun h => ?_, fun k hk hok' => ?_⟩, ?_⟩
            · refine bindE (lg_loop ds on m (by omega) (by omega) _ _ rfl) ?_
              dsimp only
              rw [if_pos g2, e, pfree_eq, Option.bind_some, wrap_i64 (n := (m : Int) + 1) (by omega) (by omega)]
              simp only [c1, decide_false, Bool.not_false, cond_true, g2, hd0, and_self, if_true, ed, admit_eq, Option.bind_some, c2, cond_false]
              exact hgo c w false ⟨fun h => (by cases h), fun h => absurd h hno⟩
            · obtain ⟨k, k1, k2, k3⟩ := hc h
              exact ⟨k, by omega, k2, k3⟩
            · rcases lt_of k hk with rfl | hk
              · exact absurd hok' hno
              · exact ha k hk hok'
            · simp only; omega
      · have g1 : ¬ (m : Int) < hs.length := by omega
        have hm' : m = hs.length := by omega
        subst hm'
        refine .inr ⟨.inl (c, w), ?_, c, w, rfl, hc, ha⟩
        simp only [g1, decide_false, cond_false]
    · rintro y ⟨c, w, rfl, hc, ha⟩
      dsimp only
      rcases hspec with ⟨e, hnone⟩ | ⟨h, hh, e, hk, hmax⟩
      · have hcf : c = false := by
          cases c with
          | false => rfl
          | true => obtain ⟨k, k1, k2, _⟩ := hc rfl; exact absurd k2 (hnone k k1)
        rw [e, hcf]
        rfl
      · obtain ⟨q1, q2⟩ := ha h hh hk
        obtain ⟨k, k1, k2, k3⟩ := hc q1
        have q3 := hmax k k1 k2
        have g1 : ¬ (h : Int) < 0 := by omega
        have g2 : ¬ (h : Int) ≥ hs.length := by omega
        have g3 : 0 ≤ (h : Int) ∧ (h : Int) < hs.length := ⟨by omega, by omega⟩
        have e1 : ((nth ((0 : Int), (0 : Int), false) hs h).1, (nth ((0 : Int), (0 : Int), false) hs h).2) = nth cap0 hs h := rfl
        rw [e, q1]
        simp only [Bool.not_true, cond_false, g1, g2, decide_false]
        refine bindE (lg_loop ds on h (by omega) (by omega) _ _ rfl) ?_
        dsimp only
        rw [if_pos g3, e1, pfree_eq, Option.bind_some]
        have : (frOf (nth cap0 hs h) (GU ds on h)).1 = w := by
          have : chFr hs (fun h => GU ds on h) h = w := by omega
          exact this
        simp only [this, decide_true, cond_true, Option.bind_some]

theorem vmfleetlaw40_BalanceChooses.pure (x : (tup vmfleetlaw40_BalanceChooses.sp.args).den) (h : WfL vmfleetlaw40_BalanceChooses.sp.args x) : vmfleetlaw40_BalanceChooses.sp.f x = some true := balanceChooses x.1 x.2.1 x.2.2.1 x.2.2.2

end Go.Proofs.Ytondojojpgmjcaa.Fn
