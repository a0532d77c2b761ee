/- The law TaxSamples, in plain Lean: no condition but the arguments' ranges. -/
import Derived.Test.YtdpldckcbdeojaaPureCh37c
set_option linter.unusedVariables false
set_option linter.unusedSimpArgs false
namespace Go.Proofs.Ytdpldckcbdeojaa.Fn
open Go Lift

theorem diff_inner {s : List Int} (hs : s.Nodup) (hl : s.length ≤ 32) {i : Nat} (hi : i < s.length) : (loop (Y := (Unit) ⊕ ((Int) ⊕ ((Unit) ⊕ (Bool)))) (fun (x2 : Int) =>
    bif decide (x2 < (i : Int)) then
      if 0 ≤ (i : Int) ∧ (i : Int) < (s.length : Int) then
        if 0 ≤ x2 ∧ x2 < (s.length : Int) then
          bif decide ((nth (0 : Int) s (i : Int)) = (nth (0 : Int) s x2)) then
            some (.inr (.inr (.inr (.inr false))))
          else
            some (.inl (IntKind.wrap .i64 (x2 + 1)))
        else none
      else none
    else
      some (.inr (.inl ()))) (0 : Int)) = some (.inl ()) := by
  refine loop_from (0 : Int) (fun m : Nat => (m : Int)) i (Sum.inl ()) rfl (fun m hm => ?_) ?_
  · have b1 : (m : Int) < i := by omega
    have b2 : 0 ≤ (m : Int) ∧ (m : Int) < s.length := by omega
    have c2 : 0 ≤ (i : Int) ∧ (i : Int) < s.length := by omega
    have hne : s[m] ≠ s[i] := (List.pairwise_iff_getElem.1 hs) m i (by omega) hi hm
    have hd : ¬ nth (0 : Int) s i = nth (0 : Int) s m := by
      rw [nth_some (List.getElem?_eq_getElem hi), nth_some (List.getElem?_eq_getElem (show m < s.length by omega))]
      exact fun hh => hne hh.symm
    try dsimp only
    rw [decide_eq_true b1, cond_true, if_pos c2, if_pos b2, decide_eq_false hd, cond_false, wrap_i64 (by omega) (by omega)]
    rfl
  · have : ¬ (i : Int) < i := by omega
    try dsimp only
    rw [decide_eq_false this]
    rfl

theorem diff_outer {s : List Int} {pages : Int} (hs : okS pages s) (hl : s.length ≤ 32) : (loop (Y := (Unit) ⊕ (Bool)) (fun (x1 : Int) =>
    bif decide (x1 < (s.length : Int)) then
      if 0 ≤ x1 ∧ x1 < (s.length : Int) then
        bif decide ((nth (0 : Int) s x1) < 0) then
          some (.inr (.inr false))
        else
          if 0 ≤ x1 ∧ x1 < (s.length : Int) then
            bif decide ((nth (0 : Int) s x1) ≥ pages) then
              some (.inr (.inr false))
            else
              (loop (Y := (Unit) ⊕ ((Int) ⊕ ((Unit) ⊕ (Bool)))) (fun (x2 : Int) =>
                bif decide (x2 < x1) then
                  if 0 ≤ x1 ∧ x1 < (s.length : Int) then
                    if 0 ≤ x2 ∧ x2 < (s.length : Int) then
                      bif decide ((nth (0 : Int) s x1) = (nth (0 : Int) s x2)) then
                        some (.inr (.inr (.inr (.inr false))))
                      else
                        some (.inl (IntKind.wrap .i64 (x2 + 1)))
                    else none
                  else none
                else
                  some (.inr (.inl ()))) (0 : Int)).bind fun o => match o with
              | .inl y3 =>
                some (.inl (IntKind.wrap .i64 (x1 + 1)))
              | .inr r => some r
          else none
      else none
    else
      some (.inr (.inl ()))) (0 : Int)) = some (.inl ()) := by
  refine loop_from (0 : Int) (fun m : Nat => (m : Int)) s.length (Sum.inl ()) rfl (fun i hi => ?_) ?_
  · have b1 : (i : Int) < s.length := by omega
    have c2 : 0 ≤ (i : Int) ∧ (i : Int) < s.length := by omega
    have hv := hs.2 s[i] (List.getElem_mem hi)
    rw [← nth_some (d := (0 : Int)) (List.getElem?_eq_getElem hi)] at hv
    have d1 : ¬ nth (0 : Int) s i < 0 := by omega
    have d2 : ¬ nth (0 : Int) s i ≥ pages := by omega
    try dsimp only
    rw [decide_eq_true b1, cond_true, if_pos c2, decide_eq_false d1, cond_false, if_pos c2, decide_eq_false d2, cond_false]
    refine bind_of (diff_inner hs.1 hl hi) ?_
    try dsimp only
    rw [wrap_i64 (by omega) (by omega)]
    rfl
  · have : ¬ (s.length : Int) < s.length := by omega
    try dsimp only
    rw [decide_eq_false this]
    rfl

theorem estimate_ok {old u m : Int} (m1 : 1 ≤ m) (m32 : m ≤ 32) (u0 : 0 ≤ u) (u1 : u ≤ m) (o0 : 0 ≤ old) (o1 : old ≤ 1000) :
    ∃ e sh, idletax_Estimate.f old u m = some e ∧ IntKind.wrap .i64 (Int.tdiv (IntKind.wrap .i64 (u * 1000)) m) = sh ∧ (sh ≥ old → e = sh) ∧ (¬ sh ≥ old → e ≥ sh ∧ e < old) := by
  have w1 : IntKind.wrap .i64 (u * 1000) = u * 1000 := wrap_i64 (by omega) (by omega)
  have q : Int.tdiv (u * 1000) m = u * 1000 / m := Int.tdiv_eq_ediv_of_nonneg (by omega)
  have q0 : 0 ≤ u * 1000 / m := Int.ediv_nonneg (by omega) (by omega)
  have q1 : u * 1000 / m ≤ u * 1000 := Int.ediv_le_self _ (by omega)
  unfold idletax_Estimate.f
  have a1 : ¬ m < 1 := by omega
  have a2 : ¬ m > 32 := by omega
  have a3 : ¬ u < 0 := by omega
  have a4 : ¬ u > m := by omega
  have a5 : ¬ old < 0 := by omega
  have a6 : ¬ old > 1000 := by omega
  have a7 : ¬ m = 0 := by omega
  rw [decide_eq_false a1, decide_eq_false a2, decide_eq_false a3, decide_eq_false a4, decide_eq_false a5, decide_eq_false a6, if_neg a7, w1, q]
  simp only [cond_false]
  generalize u * 1000 / m = sh at q0 q1 ⊢
  rw [wrap_i64 (n := sh) (by omega) (by omega), wrap_i64 (n := 3 * old) (by omega) (by omega), wrap_i64 (n := 3 * old + sh) (by omega) (by omega)]
  have e4 : Int.tdiv (3 * old + sh) 4 = (3 * old + sh) / 4 := Int.tdiv_eq_ediv_of_nonneg (by omega)
  rw [e4, wrap_i64 (n := (3 * old + sh) / 4) (by omega) (by omega)]
  by_cases c : sh > old
  · rw [decide_eq_true c, cond_true]
    exact ⟨_, _, rfl, rfl, fun _ => rfl, fun h => by omega⟩
  · rw [decide_eq_false c, cond_false]
    exact ⟨_, _, rfl, rfl, fun h => by omega, fun h => by omega⟩

theorem taxSamples (seed pages n old used : Int) : vmfleetlaw37_TaxSamples.f seed pages n old used = some true := by
  unfold vmfleetlaw37_TaxSamples.f
  rw [vmfleetlaw37_awake.ok]
  by_cases a1 : pages < 1
  · rw [decide_eq_true a1]; rfl
  rw [decide_eq_false a1, cond_false]
  by_cases a2 : pages > 32
  · rw [decide_eq_true a2]; rfl
  rw [decide_eq_false a2, cond_false]
  by_cases a3 : n < 1
  · rw [decide_eq_true a3]; rfl
  rw [decide_eq_false a3, cond_false]
  by_cases a4 : n > 60
  · rw [decide_eq_true a4]; rfl
  rw [decide_eq_false a4, cond_false]
  by_cases a5 : old < 0
  · rw [decide_eq_true a5]; rfl
  rw [decide_eq_false a5, cond_false]
  by_cases a6 : old > 1000
  · rw [decide_eq_true a6]; rfl
  rw [decide_eq_false a6, cond_false]
  obtain ⟨⟨s, sd⟩, e1, _, _, e3⟩ := sample_eq seed pages n (by omega)
  obtain ⟨s1, s2⟩ := e3 (by omega) (by omega) (by omega)
  dsimp only at s1 s2
  have hmin : (s.length : Int) = min pages n := by omega
  have h32 : s.length ≤ 32 := by omega
  have hpos : 1 ≤ (s.length : Int) := by omega
  rw [e1, Option.bind_some, Option.bind_some]
  dsimp only
  rw [decide_eq_true hmin, Bool.not_true, cond_false, sameInts_self s (by omega), Option.bind_some, Bool.not_true, cond_false, decide_eq_true rfl, Bool.not_true, cond_false]
  refine bind_of (diff_outer s2 h32) ?_
  dsimp only
  rw [wrap_i64 (n := (s.length : Int) + 1) (by omega) (by omega)]
  obtain ⟨u, eu, u0, u1⟩ := round_ok used ((s.length : Int) + 1) (by omega) (by omega)
  obtain ⟨e, sh, ee, esh, h1, h2⟩ := estimate_ok (old := old) hpos (by omega) u0 (by omega) (by omega) (by omega)
  rw [eu, Option.bind_some, ee, Option.bind_some, if_neg (by omega), esh]
  by_cases c : sh ≥ old
  · rw [decide_eq_true c, cond_true, decide_eq_true (h1 c)]
    rfl
  · rw [decide_eq_false c, cond_false, decide_eq_true (h2 c).1, cond_true, decide_eq_true (h2 c).2]
    rfl

theorem vmfleetlaw37_TaxSamples.pure (x : (tup vmfleetlaw37_TaxSamples.sp.args).den) (h : WfL vmfleetlaw37_TaxSamples.sp.args x) : vmfleetlaw37_TaxSamples.sp.f x = some true :=
  taxSamples x.1 x.2.1 x.2.2.1 x.2.2.2.1 x.2.2.2.2

end Go.Proofs.Ytdpldckcbdeojaa.Fn
