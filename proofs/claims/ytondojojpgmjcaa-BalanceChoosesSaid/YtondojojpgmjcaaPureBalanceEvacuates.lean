/- The law BalanceEvacuates, in plain Lean: at every input its function is true. -/
import Derived.Test.YtondojojpgmjcaaPureBalanceAssigns
set_option linter.unusedVariables false
set_option linter.unusedSimpArgs false
namespace Go.Proofs.Ytondojojpgmjcaa.Fn
open Go Lift

theorem foldO_snoc {S α : Type} (st : S → α → Option S) (x : α) : ∀ (l : List α) (s : S), foldO st s (l ++ [x]) = (foldO st s l).bind fun s' => st s' x
  | [], s => by simp only [List.nil_append, foldO, Option.bind_some]; cases st s x <;> rfl
  | y :: l, s => by
    simp only [List.cons_append, foldO]
    cases st s y with
    | none => rfl
    | some s' => exact foldO_snoc st x l s'

/-- One move of an evacuation, as the law checks it. -/
def peStep (hs : List Cap) (ds : List Dem) (h : Int) (a : List Int) (m : Mov) : Option (List Int) :=
  if m.1 < 0 then none else if m.1 ≥ a.length then none else if m.2.1 = h then (if nth (0 : Int) a m.1 = h then (if m.2.2 = h then none else if vB hs ds (put a m.1 m.2.2) = true then some (put a m.1 m.2.2) else none) else none) else none

def evJ (hs : List Cap) (ds : List Dem) (host : Int) (on : List Int) (s : List Int × List Mov) (i : Nat) : Prop :=
  evI hs ds on s i ∧ foldO (peStep hs ds host) on s.2 = some s.1 ∧ ∀ j : Nat, j < i → nth (0 : Int) s.1 j ≠ host ∧ (nth (0 : Int) on j ≠ host → nth (0 : Int) s.1 j = nth (0 : Int) on j)

theorem ev_stepJ {hs : List Cap} {ds : List Dem} {on : List Int} {host : Int} {s s' : List Int × List Mov} {i : Nat} (hi : i < ds.length) (hJ : evJ hs ds host on s i) (h : evStep hs ds host s i = some s') : evJ hs ds host on s' (i + 1) := by
  obtain ⟨hI, hp, hj⟩ := hJ
  refine ⟨ev_step hi hI h, ?_⟩
  obtain ⟨hv, hl, hm, ho⟩ := hI
  have hlen := vB_len hv
  have lt_of : ∀ k, k < i + 1 → k = i ∨ k < i := fun k hk => by omega
  unfold evStep at h
  split at h
  · rename_i hc0
    split at h
    · rename_i hc
      cases h
      rcases choose_spec hs (fun h => AT ds s.1 h i) (nth dem0 ds i) [host] with ⟨e, _⟩ | ⟨x, hx, e, hok, _⟩
      · rw [e] at hc; cases hc
      · rw [e]
        have hne : ¬ (x : Int) = host := fun hh => hok.1 (by rw [hh]; simp)
        have hvp := vB_put hv hi hx hok.2
        refine ⟨?_, fun j hjl => ?_⟩
        · show foldO _ _ (s.2 ++ [((i : Int), host, (x : Int))]) = some (put s.1 i x)
          rw [foldO_snoc, hp, Option.bind_some]
          unfold peStep
          simp only
          rw [if_neg (by omega), if_neg (by omega), if_pos trivial, if_pos hc0, if_neg hne, if_pos hvp]
        · show nth 0 (put s.1 i x) j ≠ host ∧ (_ → nth 0 (put s.1 i x) j = _)
          rcases lt_of j hjl with rfl | hjl
          · rw [nth_put_self _ _ _ (by omega)]
            refine ⟨hne, fun hn => absurd ?_ hn⟩
            rw [← ho j (Nat.le_refl _)]
            exact hc0
          · rw [nth_put_ne _ _ _ _ (by omega)]
            exact hj j hjl
    · cases h
  · rename_i hc0
    cases h
    refine ⟨hp, fun j hjl => ?_⟩
    rcases lt_of j hjl with rfl | hjl
    · exact ⟨hc0, fun _ => ho j (Nat.le_refl _)⟩
    · exact hj j hjl

theorem evac_spec {hs : List Cap} {ds : List Dem} {on : List Int} {host : Int} (h : (evacOf hs ds on host).2.2 = true) : vB hs ds on = true ∧ evJ hs ds host on ((evacOf hs ds on host).2.1, (evacOf hs ds on host).1) ds.length := by
  unfold evacOf at h ⊢
  split at h
  · rename_i hc
    rw [if_pos hc]
    cases hf : foldO (evStep hs ds host) (on, []) (List.range ds.length) with
    | none => rw [hf] at h; cases h
    | some s =>
      rw [List.range_eq_range'] at hf
      have := foldO_inv (evStep hs ds host) (evJ hs ds host on) ds.length 0 (on, []) s ⟨⟨hc.1, rfl, Nat.zero_le _, fun _ _ => rfl⟩, rfl, fun j hj => absurd hj (Nat.not_lt_zero _)⟩ (fun i s s' _ hi hI he => ev_stepJ (by omega) hI he) hf
      rw [Nat.zero_add] at this
      exact ⟨hc.1, this⟩
  · cases h

theorem evac_none {hs : List Cap} {ds : List Dem} {on : List Int} {host : Int} (h : (evacOf hs ds on host).2.2 = false) : evacOf hs ds on host = ([], [], false) := by
  unfold evacOf at h ⊢
  split at h
  · rename_i hc
    rw [if_pos hc]
    cases hf : foldO (evStep hs ds host) (on, []) (List.range ds.length) with
    | none => rfl
    | some s => rw [hf] at h; cases h
  · rename_i hc
    rw [if_neg hc]

theorem assign_none {hs : List Cap} {ds : List Dem} (h1 : 1 ≤ hs.length) (h2 : hs.length ≤ 6) (h3 : ds.length ≤ 8) (h : (assignOf hs ds).2 = false) : vB hs ds (assignOf hs ds).1 = false := by
  rw [Bool.eq_false_iff]
  intro hv
  have := (assign_complete hv h3).1
  rw [h] at this
  cases this

theorem balanceEvacuates (hosts l : List Int) (host : Int) : vmfleetlaw40_BalanceEvacuates.f hosts l host = some true := by
  unfold vmfleetlaw40_BalanceEvacuates.f
  rw [vmfleetlaw40_awake.ok]
  by_cases h1 : (hosts.length : Int) < 1
  · simp [h1]
  by_cases h2 : (hosts.length : Int) > 4
  · simp [h1, h2]
  by_cases h3 : (l.length : Int) > 6
  · simp [h1, h2, h3]
  simp only [h1, h2, h3, decide_false, cond_false]
  rw [problem_eq _ _ (by omega) (by omega), Option.bind_some, passign_eq, Option.bind_some]
  have hhl : (hosts.map capOf).length = hosts.length := List.length_map _
  have hdl : (l.map demOf).length = l.length := List.length_map _
  generalize hosts.map capOf = hs at hhl
  generalize l.map demOf = ds at hdl
  dsimp only
  obtain ⟨r, er, r0, r1⟩ := round_some host hs.length (by omega) (by omega)
  rw [er, Option.bind_some, pevac_eq, Option.bind_some]
  have hfail : (assignOf hs ds).2 = false → evacOf hs ds (assignOf hs ds).1 r = ([], [], false) := fun h => by
    unfold evacOf
    rw [assign_none (by omega) (by omega) (by omega) h]
    simp
  cases hok : (assignOf hs ds).2 with
  | false =>
    rw [hfail hok]
    rfl
  | true =>
    have hva := assign_sound hok
    have el := vB_len hva
    generalize (assignOf hs ds).1 = on at hva el
    simp only [Bool.not_true, cond_false, Option.bind_some]
    cases hev : (evacOf hs ds on r).2.2 with
    | false =>
      rw [evac_none hev]
      rfl
    | true =>
      obtain ⟨_, ⟨i1, i2, i3, i4⟩, i5, i6⟩ := evac_spec hev
      simp only [Bool.not_true, cond_false]
      generalize (evacOf hs ds on r).1 = mv at i1 i2 i3 i4 i5 i6
      generalize (evacOf hs ds on r).2.1 = y3 at i1 i2 i3 i4 i5 i6
      simp only at i1 i2 i3 i4 i5 i6
      rw [if_pos (show (([] : List Int).length + on.length) * 8 ≤ 70368744177664 by simp only [List.length_nil]; omega), List.nil_append]
      refine bindE (loop_list (fun (s : List Int) i => (s, i)) mv (fun s m => toE (Sum.inr false) (peStep hs ds r s m)) (fun s => (.inl s : List Int ⊕ Bool)) on (fun _ _ => True) trivial (fun i m s hx _ => ⟨?_, fun _ _ => trivial⟩) (fun s _ => ?_)) ?_
      rotate_left 2
      · rw [foldE_O, i5]
        simp only [endE]
        have key : ∀ (n : Nat), n < y3.length → nth (0 : Int) y3 n ≠ r ∧ (nth (0 : Int) on n ≠ r → nth (0 : Int) y3 n = nth (0 : Int) on n) := fun n hn => i6 n (by omega)
        refine bindE (loop_all (List.range y3.length) (fun _ => true) (.inr false) (.inl ()) (fun i x hx => ?_) ?_) ?_
        · obtain ⟨hi, rfl⟩ := range_get hx
          have g1 : (x : Int) < y3.length := by omega
          have g2 : 0 ≤ (x : Int) ∧ (x : Int) < y3.length := ⟨by omega, g1⟩
          have g3 : 0 ≤ (x : Int) ∧ (x : Int) < on.length := ⟨by omega, by omega⟩
          obtain ⟨k1, k2⟩ := key x hi
          simp only [g1, decide_true, cond_true, g2, g3, and_self, if_true, k1, decide_false, cond_false]
          rw [wrap_i64 (n := (x : Int) + 1) (by omega) (by omega)]
          by_cases c : nth (0 : Int) on x = r
          · simp only [c, decide_true, Bool.not_true, cond_false]
          · have k3 := k2 c
            simp only [c, k3, decide_true, decide_false, Bool.not_true, Bool.not_false, cond_true, cond_false]
        · simp
        · have : (List.range y3.length).all (fun _ => true) = true := by simp
          rw [if_pos this]
          dsimp only
          rw [sameInts_eq _ _ (by omega)]
          simp
      · have hi := idx_lt hx
        have hb : 0 ≤ (i : Int) ∧ (i : Int) < mv.length := ⟨by omega, hi⟩
        have hml : mv.length ≤ ds.length := i3
        simp only [hi, decide_true, cond_true, hb, and_self, if_true, nth_some hx]
        rw [wrap_i64 (n := (i : Int) + 1) (by omega) (by omega)]
        unfold peStep
        by_cases c1 : m.1 < 0
        · rw [if_pos c1]; simp only [c1, decide_true, cond_true]; rfl
        · by_cases c2 : m.1 ≥ (s.length : Int)
          · rw [if_neg c1, if_pos c2]; simp only [c1, c2, decide_true, decide_false, cond_true, cond_false]; rfl
          · have g3 : 0 ≤ m.1 ∧ m.1 < (s.length : Int) := by omega
            rw [if_neg c1, if_neg c2]
            simp only [c1, c2, decide_false, cond_false, g3, and_self, if_true]
            by_cases c3 : m.2.1 = r
            · by_cases c4 : nth (0 : Int) s m.1 = r
              · by_cases c5 : m.2.2 = r
                · rw [if_pos c3, if_pos c4, if_pos c5]
                  simp only [c3, c4, c5, decide_true, Bool.not_true, cond_true, cond_false]; rfl
                · rw [if_pos c3, if_pos c4, if_neg c5]
                  simp only [c3, c4, c5, decide_true, decide_false, Bool.not_true, cond_false]
                  rw [lv_eq _ _ _ (by omega) (by omega) (by omega), Option.bind_some]
                  cases vB hs ds (put s m.1 m.2.2) <;> rfl
              · rw [if_pos c3, if_neg c4]
                simp only [c3, c4, decide_true, decide_false, Bool.not_true, Bool.not_false, cond_true, cond_false]; rfl
            · rw [if_neg c3]
              simp only [c3, decide_false, Bool.not_false, cond_true]; rfl
      · simp only [Int.lt_irrefl, decide_false, cond_false]

theorem vmfleetlaw40_BalanceEvacuates.pure (x : (tup vmfleetlaw40_BalanceEvacuates.sp.args).den) (h : WfL vmfleetlaw40_BalanceEvacuates.sp.args x) : vmfleetlaw40_BalanceEvacuates.sp.f x = some true := balanceEvacuates x.1 x.2.1 x.2.2

end Go.Proofs.Ytondojojpgmjcaa.Fn
