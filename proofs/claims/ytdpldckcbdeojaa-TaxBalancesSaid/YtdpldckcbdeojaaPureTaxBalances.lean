/- The law TaxBalances, in plain Lean: at every input its function is true. -/
import Derived.Test.YtdpldckcbdeojaaPureTaxDivides
set_option linter.unusedVariables false
set_option linter.unusedSimpArgs false
namespace Go.Proofs.Ytdpldckcbdeojaa.Fn
open Go Lift

local notation "cl(" l ", " i ")" => nth ((0 : Int), (0 : Int), (0 : Int), (0 : Int), (0 : Int)) l i

/-- The claim with the pages that the guest was given. -/
def paid (l : List Clm) (p : List Int) (i : Int) : Clm := (cl(l, i).1, cl(l, i).2.1, cl(l, i).2.2.1, nth (0 : Int) p i, cl(l, i).2.2.2.2)

theorem paid_ok {l : List Clm} {p : List Int} (hl : okL l) (hp : okP l p) {i : Nat} (hi : i < l.length) : okC (paid l p i) := by
  obtain ⟨h1, h2, h3, h4, h5, h6, h7, h8, h9⟩ := hl i hi
  have := hp.2 i hi
  exact ⟨h1, h2, h3, h4, h5, (by show 0 ≤ nth (0 : Int) p i; omega), (by show nth (0 : Int) p i ≤ 96; omega), h8, h9⟩

def bal (l : List Clm) (t : Int) (p : List Int) : Prop := ∀ i m : Nat, i < l.length → m < l.length → i ≠ m → cl(l, i).1 < nth (0 : Int) p i → nth (0 : Int) p m < cl(l, m).2.1 → rle t (paid l p i) (cand l p m)

theorem bal_grants {l : List Clm} {t : Int} (hl : okL l) (ht : okT t) : ∀ k : Nat, bal l t (grants l t (start l) k) := by
  intro k
  induction k with
  | zero =>
    intro i m hi hm him h1 h2
    have e : nth (0 : Int) (grants l t (start l) 0) i = cl(l, i).1 := start_nth hi
    omega
  | succ k ih =>
    have hp := grants_ok hl (start_ok hl) ht k
    show bal l t (grant l t (grants l t (start l) k))
    generalize grants l t (start l) k = p at *
    have hp' := grant_ok hl hp ht
    rcases grant_spec hl hp ht with ⟨h1, h2, h3⟩ | ⟨j, h1, h2, h3, h4, h5, h6⟩
    · rw [h2]; exact ih
    · intro i m hi hm him hri hlm
      have kj := cand_ok hl hp h1 h3
      by_cases hij : i = j
      · subst hij
        have e1 : paid l (grant l t p) i = cand l p i := by unfold paid cand; rw [h6, if_pos rfl]
        have e2 : cand l (grant l t p) m = cand l p m := by unfold cand; rw [h6, if_neg (fun hh => him hh.symm)]
        rw [h6, if_neg (fun hh => him hh.symm)] at hlm
        rw [e1, e2]
        exact h4 m hm hlm
      · have e1 : paid l (grant l t p) i = paid l p i := by unfold paid; rw [h6, if_neg hij]
        rw [h6, if_neg hij] at hri
        rw [e1]
        by_cases hmj : m = j
        · subst hmj
          have km := cand_ok hl hp' hm hlm
          refine rle_trans (paid_ok hl hp hi) kj km (ih i m hi hm him hri h3) ?_
          have hpr := price_range (a := cl(l, m).2.2.2.2) (t := t) (hl m hm).2.2.2.2.2.2.2.1 (hl m hm).2.2.2.2.2.2.2.2 ht
          have hs := (hl m hm).2.2.2.1
          unfold rle costOf cand
          dsimp only
          rw [h6, if_pos rfl]
          have g1 : (nth (0 : Int) p m + 1) * price cl(l, m).2.2.2.2 t ≤ (nth (0 : Int) p m + 1 + 1) * price cl(l, m).2.2.2.2 t := Int.mul_le_mul_of_nonneg_right (by omega) (by omega)
          exact Int.mul_le_mul_of_nonneg_right g1 (by omega)
        · have e2 : cand l (grant l t p) m = cand l p m := by unfold cand; rw [h6, if_neg hmj]
          rw [h6, if_neg hmj] at hlm
          rw [e2]
          exact ih i m hi hm him hri hlm

theorem bal_inner {cs : List Clm} {p : List Int} {t : Int} (hl : okL cs) (h8 : cs.length ≤ 8) (hp : okP cs p) (ht : okT t) (hb : bal cs t p) {i : Nat} (hi : i < cs.length) : (loop (Y := (Unit) ⊕ ((Int) ⊕ ((Unit) ⊕ (Bool)))) (fun (x2 : Int) =>
    bif decide (x2 < (cs.length : Int)) then
      if 0 ≤ (i : Int) ∧ (i : Int) < (cs.length : Int) then
        if 0 ≤ x2 ∧ x2 < (cs.length : Int) then
          if 0 ≤ (i : Int) ∧ (i : Int) < (p.length : Int) then
            if 0 ≤ x2 ∧ x2 < (p.length : Int) then
              bif !decide ((i : Int) = x2) then
                if 0 ≤ (i : Int) ∧ (i : Int) < (p.length : Int) then
                  if 0 ≤ (i : Int) ∧ (i : Int) < (cs.length : Int) then
                    bif (decide ((nth (0 : Int) p (i : Int)) > ((nth ((0 : Int), (0 : Int), (0 : Int), (0 : Int), (0 : Int)) cs (i : Int)).1))) then
                      if 0 ≤ x2 ∧ x2 < (p.length : Int) then
                        if 0 ≤ x2 ∧ x2 < (cs.length : Int) then
                          bif (decide ((nth (0 : Int) p x2) < (((nth ((0 : Int), (0 : Int), (0 : Int), (0 : Int), (0 : Int)) cs x2).2).1))) then
                            (idletax_Poorer.f ((nth ((0 : Int), (0 : Int), (0 : Int), (0 : Int), (0 : Int)) cs (i : Int)).1, ((nth ((0 : Int), (0 : Int), (0 : Int), (0 : Int), (0 : Int)) cs (i : Int)).2).1, (((nth ((0 : Int), (0 : Int), (0 : Int), (0 : Int), (0 : Int)) cs (i : Int)).2).2).1, nth (0 : Int) p (i : Int), ((((nth ((0 : Int), (0 : Int), (0 : Int), (0 : Int), (0 : Int)) cs (i : Int)).2).2).2).2) ((nth ((0 : Int), (0 : Int), (0 : Int), (0 : Int), (0 : Int)) cs x2).1, ((nth ((0 : Int), (0 : Int), (0 : Int), (0 : Int), (0 : Int)) cs x2).2).1, (((nth ((0 : Int), (0 : Int), (0 : Int), (0 : Int), (0 : Int)) cs x2).2).2).1, (IntKind.wrap .i64 ((nth (0 : Int) p x2) + 1)), ((((nth ((0 : Int), (0 : Int), (0 : Int), (0 : Int), (0 : Int)) cs x2).2).2).2).2) t).bind fun r7 =>
                            bif r7 then
                              some (.inr (.inr (.inr (.inr false))))
                            else
                              some (.inl (IntKind.wrap .i64 (x2 + 1)))
                          else
                            some (.inl (IntKind.wrap .i64 (x2 + 1)))
                        else none
                      else none
                    else
                      some (.inl (IntKind.wrap .i64 (x2 + 1)))
                  else none
                else none
              else
                some (.inl (IntKind.wrap .i64 (x2 + 1)))
            else none
          else none
        else none
      else none
    else
      some (.inr (.inl ()))) (0 : Int)) = some (.inl ()) := by
  refine loop_from (0 : Int) (fun m : Nat => (m : Int)) cs.length (Sum.inl ()) rfl (fun m hm => ?_) ?_
  · have b1 : (m : Int) < cs.length := by omega
    have b2 : 0 ≤ (m : Int) ∧ (m : Int) < cs.length := by omega
    have b3 : 0 ≤ (m : Int) ∧ (m : Int) < p.length := by rw [hp.1]; omega
    have c2 : 0 ≤ (i : Int) ∧ (i : Int) < cs.length := by omega
    have c3 : 0 ≤ (i : Int) ∧ (i : Int) < p.length := by rw [hp.1]; omega
    have hq := hp.2 m hm
    have hc := hl m hm
    have w1 : IntKind.wrap .i64 ((m : Int) + 1) = ((m + 1 : Nat) : Int) := by rw [wrap_i64 (by omega) (by omega)]; omega
    have w2 : IntKind.wrap .i64 (nth (0 : Int) p m + 1) = nth (0 : Int) p m + 1 := by
      have := hc.1; have := hc.2.2.1
      rw [wrap_i64 (by omega) (by omega)]
    try dsimp only
    rw [decide_eq_true b1, cond_true, if_pos c2, if_pos b2, if_pos c3, if_pos b3, w1, w2]
    by_cases him : (i : Int) = m
    · rw [decide_eq_true him]; rfl
    rw [decide_eq_false him, Bool.not_false, cond_true, if_pos c3, if_pos c2]
    by_cases d1 : nth (0 : Int) p i > cl(cs, i).1
    case neg => rw [decide_eq_false d1]; rfl
    rw [decide_eq_true d1, cond_true, if_pos b3, if_pos b2]
    by_cases d2 : nth (0 : Int) p m < cl(cs, m).2.1
    case neg => rw [decide_eq_false d2]; rfl
    rw [decide_eq_true d2, cond_true]
    have e1 : (cl(cs, i).1, cl(cs, i).2.1, cl(cs, i).2.2.1, nth (0 : Int) p i, cl(cs, i).2.2.2.2) = paid cs p i := rfl
    have e2 : (cl(cs, m).1, cl(cs, m).2.1, cl(cs, m).2.2.1, nth (0 : Int) p m + 1, cl(cs, m).2.2.2.2) = cand cs p m := rfl
    rw [e1, e2, poorer_eq, Option.bind_some]
    have hr := hb i m hi hm (by omega) (by omega) d2
    cases hpo : poor (paid cs p i) (cand cs p m) t with
    | false => rfl
    | true => exact absurd hr ((poor_iff (paid_ok hl hp hi) (cand_ok hl hp hm d2) ht).1 hpo)
  · have : ¬ (cs.length : Int) < cs.length := by omega
    try dsimp only
    rw [decide_eq_false this]
    rfl

theorem bal_outer {cs : List Clm} {p : List Int} {t : Int} (hl : okL cs) (h8 : cs.length ≤ 8) (hp : okP cs p) (ht : okT t) (hb : bal cs t p) : (loop (Y := (Unit) ⊕ (Bool)) (fun (x1 : Int) =>
    bif decide (x1 < (cs.length : Int)) then
      (loop (Y := (Unit) ⊕ ((Int) ⊕ ((Unit) ⊕ (Bool)))) (fun (x2 : Int) =>
        bif decide (x2 < (cs.length : Int)) then
          if 0 ≤ x1 ∧ x1 < (cs.length : Int) then
            if 0 ≤ x2 ∧ x2 < (cs.length : Int) then
              if 0 ≤ x1 ∧ x1 < (p.length : Int) then
                if 0 ≤ x2 ∧ x2 < (p.length : Int) then
                  bif !decide (x1 = x2) then
                    if 0 ≤ x1 ∧ x1 < (p.length : Int) then
                      if 0 ≤ x1 ∧ x1 < (cs.length : Int) then
                        bif (decide ((nth (0 : Int) p x1) > ((nth ((0 : Int), (0 : Int), (0 : Int), (0 : Int), (0 : Int)) cs x1).1))) then
                          if 0 ≤ x2 ∧ x2 < (p.length : Int) then
                            if 0 ≤ x2 ∧ x2 < (cs.length : Int) then
                              bif (decide ((nth (0 : Int) p x2) < (((nth ((0 : Int), (0 : Int), (0 : Int), (0 : Int), (0 : Int)) cs x2).2).1))) then
                                (idletax_Poorer.f ((nth ((0 : Int), (0 : Int), (0 : Int), (0 : Int), (0 : Int)) cs x1).1, ((nth ((0 : Int), (0 : Int), (0 : Int), (0 : Int), (0 : Int)) cs x1).2).1, (((nth ((0 : Int), (0 : Int), (0 : Int), (0 : Int), (0 : Int)) cs x1).2).2).1, nth (0 : Int) p x1, ((((nth ((0 : Int), (0 : Int), (0 : Int), (0 : Int), (0 : Int)) cs x1).2).2).2).2) ((nth ((0 : Int), (0 : Int), (0 : Int), (0 : Int), (0 : Int)) cs x2).1, ((nth ((0 : Int), (0 : Int), (0 : Int), (0 : Int), (0 : Int)) cs x2).2).1, (((nth ((0 : Int), (0 : Int), (0 : Int), (0 : Int), (0 : Int)) cs x2).2).2).1, (IntKind.wrap .i64 ((nth (0 : Int) p x2) + 1)), ((((nth ((0 : Int), (0 : Int), (0 : Int), (0 : Int), (0 : Int)) cs x2).2).2).2).2) t).bind fun r7 =>
                                bif r7 then
                                  some (.inr (.inr (.inr (.inr false))))
                                else
                                  some (.inl (IntKind.wrap .i64 (x2 + 1)))
                              else
                                some (.inl (IntKind.wrap .i64 (x2 + 1)))
                            else none
                          else none
                        else
                          some (.inl (IntKind.wrap .i64 (x2 + 1)))
                      else none
                    else none
                  else
                    some (.inl (IntKind.wrap .i64 (x2 + 1)))
                else none
              else none
            else none
          else none
        else
          some (.inr (.inl ()))) (0 : Int)).bind fun o => match o with
      | .inl y3 =>
        some (.inl (IntKind.wrap .i64 (x1 + 1)))
      | .inr r => some r
    else
      some (.inr (.inl ()))) (0 : Int)) = some (.inl ()) := by
  refine loop_from (0 : Int) (fun i : Nat => (i : Int)) cs.length (Sum.inl ()) rfl (fun i hi => ?_) ?_
  · have b1 : (i : Int) < cs.length := by omega
    try dsimp only
    rw [decide_eq_true b1, cond_true]
    refine bind_of (bal_inner hl h8 hp ht hb hi) ?_
    try dsimp only
    rw [wrap_i64 (by omega) (by omega)]
    rfl
  · have : ¬ (cs.length : Int) < cs.length := by omega
    try dsimp only
    rw [decide_eq_false this]
    rfl

theorem taxBalances (l : List Int) (total tax : Int) : vmfleetlaw37_TaxBalances.f l total tax = some true := by
  unfold vmfleetlaw37_TaxBalances.f
  rw [vmfleetlaw37_awake.ok]
  by_cases hl : (l.length : Int) > 8
  · rw [decide_eq_true hl]; rfl
  rw [decide_eq_false hl, cond_false]
  obtain ⟨cs, e1, e2, e3⟩ := claims_ok l (by omega)
  obtain ⟨T, e5, T0, T1⟩ := round_ok total 97 (by decide) (by decide)
  obtain ⟨t, e4, t0, t1⟩ := round_ok tax 100 (by decide) (by decide)
  have ht : okT t := ⟨t0, by omega⟩
  rw [e1, Option.bind_some, e4, Option.bind_some, e5, Option.bind_some, targets_eq, Option.bind_some, targets_valid e3 (by omega) T0 (by omega) ht]
  by_cases hr : reserve cs cs.length ≤ T
  · rw [if_pos hr]
    have hp := grants_ok e3 (start_ok e3) ht (T - reserve cs cs.length).toNat
    have hb := bal_grants e3 ht (T - reserve cs cs.length).toNat
    generalize grants cs t (start cs) (T - reserve cs cs.length).toNat = p at hp hb ⊢
    try dsimp only
    rw [Bool.not_true, cond_false, hp.1, decide_eq_true rfl, Bool.not_true, cond_false]
    have hh := bal_outer e3 (by omega) hp ht hb
    rw [hp.1] at hh
    exact bind_of hh rfl
  · rw [if_neg hr]
    rfl

theorem vmfleetlaw37_TaxBalances.pure (x : (tup vmfleetlaw37_TaxBalances.sp.args).den) (h : WfL vmfleetlaw37_TaxBalances.sp.args x) : vmfleetlaw37_TaxBalances.sp.f x = some true :=
  taxBalances x.1 x.2.1 x.2.2

end Go.Proofs.Ytdpldckcbdeojaa.Fn
