/- The law TaxGrows, in plain Lean: at every input its function is true. -/
import Derived.Test.YtdpldckcbdeojaaPureTaxDivides
set_option linter.unusedVariables false
set_option linter.unusedSimpArgs false
namespace Go.Proofs.Ytdpldckcbdeojaa.Fn
open Go Lift

local notation "cl(" l ", " i ")" => nth ((0 : Int), (0 : Int), (0 : Int), (0 : Int), (0 : Int)) l i

theorem grow_none {cs : List Clm} {p : List Int} (hl : okL cs) (h8 : cs.length ≤ 8) (hp : okP cs p) (h : ∀ i : Nat, i < cs.length → cl(cs, i).2.1 = nth (0 : Int) p i) : (loop (Y := (Int × Bool) ⊕ (Bool)) (fun (x1 : Int × Bool × Int) =>
    bif decide (x1.2.2 < (cs.length : Int)) then
      (if 0 ≤ x1.2.2 ∧ x1.2.2 < (p.length : Int) then
        if 0 ≤ x1.2.2 ∧ x1.2.2 < (p.length : Int) then
          bif !decide ((nth (0 : Int) p x1.2.2) = (nth (0 : Int) p x1.2.2)) then
            if 0 ≤ x1.2.2 ∧ x1.2.2 < (p.length : Int) then
              if 0 ≤ x1.2.2 ∧ x1.2.2 < (p.length : Int) then
                bif (!decide ((nth (0 : Int) p x1.2.2) = (IntKind.wrap .i64 ((nth (0 : Int) p x1.2.2) + 1)))) then
                  some (.inr (.inr (.inr false)))
                else
                  some (.inl ())
              else none
            else none
          else
            some (.inl ())
        else none
      else none : Option ((Unit) ⊕ ((Int × Bool × Int) ⊕ ((Int × Bool) ⊕ (Bool))))).bind fun o => match o with
      | .inl y2 =>
        if 0 ≤ x1.2.2 ∧ x1.2.2 < (p.length : Int) then
          if 0 ≤ x1.2.2 ∧ x1.2.2 < (p.length : Int) then
            let v6 := IntKind.wrap .i64 ((IntKind.wrap .i64 (x1.1 + (nth (0 : Int) p x1.2.2))) - (nth (0 : Int) p x1.2.2))
            bif x1.2.1 then
              some (.inl (v6, true, IntKind.wrap .i64 (x1.2.2 + 1)))
            else
              if 0 ≤ x1.2.2 ∧ x1.2.2 < (p.length : Int) then
                if 0 ≤ x1.2.2 ∧ x1.2.2 < (cs.length : Int) then
                  some (.inl (v6, (decide ((nth (0 : Int) p x1.2.2) < (((nth ((0 : Int), (0 : Int), (0 : Int), (0 : Int), (0 : Int)) cs x1.2.2).2).1))), IntKind.wrap .i64 (x1.2.2 + 1)))
                else none
              else none
          else none
        else none
      | .inr r => some r
    else
      some (.inr (.inl (x1.1, x1.2.1)))) ((0 : Int), false, (0 : Int))) = some (.inl ((0 : Int), false)) := by
  refine loop_from ((0 : Int), false, (0 : Int)) (fun i : Nat => ((0 : Int), false, (i : Int))) cs.length (Sum.inl ((0 : Int), false)) rfl (fun i hi => ?_) ?_
  · have b1 : (i : Int) < cs.length := by omega
    have b2 : 0 ≤ (i : Int) ∧ (i : Int) < cs.length := by omega
    have b3 : 0 ≤ (i : Int) ∧ (i : Int) < p.length := by rw [hp.1]; omega
    obtain ⟨c1, c2, c3, _⟩ := hl i hi
    have hq := hp.2 i hi
    have d1 : ¬ nth (0 : Int) p i < cl(cs, i).2.1 := by have := h i hi; omega
    dsimp only
    rw [decide_eq_true b1, cond_true, if_pos b3, if_pos b3, decide_eq_true rfl, Bool.not_true, cond_false, Option.bind_some]
    dsimp only
    rw [if_pos b3, if_pos b3, cond_false, if_pos b3, if_pos b2, decide_eq_false d1, wrap_i64 (n := (i : Int) + 1) (by omega) (by omega), wrap_i64 (n := 0 + nth (0 : Int) p i) (by omega) (by omega), wrap_i64 (n := 0 + nth (0 : Int) p i - nth (0 : Int) p i) (by omega) (by omega)]
    rw [show (0 : Int) + nth (0 : Int) p i - nth (0 : Int) p i = 0 by omega]
    rfl
  · have : ¬ (cs.length : Int) < cs.length := by omega
    dsimp only
    rw [decide_eq_false this]
    rfl

theorem grow_one {cs : List Clm} {p q : List Int} (hl : okL cs) (h8 : cs.length ≤ 8) (hp : okP cs p) {j : Nat} (hj : j < cs.length) (hjl : nth (0 : Int) p j < cl(cs, j).2.1) (hql : q.length = cs.length) (hq : ∀ i : Nat, nth (0 : Int) q i = if i = j then nth (0 : Int) p j + 1 else nth (0 : Int) p i) : (loop (Y := (Int × Bool) ⊕ (Bool)) (fun (x1 : Int × Bool × Int) =>
    bif decide (x1.2.2 < (cs.length : Int)) then
      (if 0 ≤ x1.2.2 ∧ x1.2.2 < (q.length : Int) then
        if 0 ≤ x1.2.2 ∧ x1.2.2 < (p.length : Int) then
          bif !decide ((nth (0 : Int) q x1.2.2) = (nth (0 : Int) p x1.2.2)) then
            if 0 ≤ x1.2.2 ∧ x1.2.2 < (q.length : Int) then
              if 0 ≤ x1.2.2 ∧ x1.2.2 < (p.length : Int) then
                bif (!decide ((nth (0 : Int) q x1.2.2) = (IntKind.wrap .i64 ((nth (0 : Int) p x1.2.2) + 1)))) then
                  some (.inr (.inr (.inr false)))
                else
                  some (.inl ())
              else none
            else none
          else
            some (.inl ())
        else none
      else none : Option ((Unit) ⊕ ((Int × Bool × Int) ⊕ ((Int × Bool) ⊕ (Bool))))).bind fun o => match o with
      | .inl y2 =>
        if 0 ≤ x1.2.2 ∧ x1.2.2 < (q.length : Int) then
          if 0 ≤ x1.2.2 ∧ x1.2.2 < (p.length : Int) then
            let v6 := IntKind.wrap .i64 ((IntKind.wrap .i64 (x1.1 + (nth (0 : Int) q x1.2.2))) - (nth (0 : Int) p x1.2.2))
            bif x1.2.1 then
              some (.inl (v6, true, IntKind.wrap .i64 (x1.2.2 + 1)))
            else
              if 0 ≤ x1.2.2 ∧ x1.2.2 < (p.length : Int) then
                if 0 ≤ x1.2.2 ∧ x1.2.2 < (cs.length : Int) then
                  some (.inl (v6, (decide ((nth (0 : Int) p x1.2.2) < (((nth ((0 : Int), (0 : Int), (0 : Int), (0 : Int), (0 : Int)) cs x1.2.2).2).1))), IntKind.wrap .i64 (x1.2.2 + 1)))
                else none
              else none
          else none
        else none
      | .inr r => some r
    else
      some (.inr (.inl (x1.1, x1.2.1)))) ((0 : Int), false, (0 : Int))) = some (.inl ((1 : Int), true)) := by
  have key := loop_ind (I := fun x : Int × Bool × Int => 0 ≤ x.2.2 ∧ x.2.2 ≤ (cs.length : Int) ∧ x.1 = (if (j : Int) < x.2.2 then 1 else 0) ∧ ((j : Int) < x.2.2 → x.2.1 = true)) (Q := fun y : (Int × Bool) ⊕ (Bool) => y = .inl ((1 : Int), true)) (fun x => ((cs.length : Int) - x.2.2).toNat) (x := ((0 : Int), false, (0 : Int))) ⟨Int.le_refl 0, by simp only; omega, by simp only; rw [if_neg (by omega)], fun hh => by simp only at hh; omega⟩ (step := (fun (x1 : Int × Bool × Int) =>
    bif decide (x1.2.2 < (cs.length : Int)) then
      (if 0 ≤ x1.2.2 ∧ x1.2.2 < (q.length : Int) then
        if 0 ≤ x1.2.2 ∧ x1.2.2 < (p.length : Int) then
          bif !decide ((nth (0 : Int) q x1.2.2) = (nth (0 : Int) p x1.2.2)) then
            if 0 ≤ x1.2.2 ∧ x1.2.2 < (q.length : Int) then
              if 0 ≤ x1.2.2 ∧ x1.2.2 < (p.length : Int) then
                bif (!decide ((nth (0 : Int) q x1.2.2) = (IntKind.wrap .i64 ((nth (0 : Int) p x1.2.2) + 1)))) then
                  some (.inr (.inr (.inr false)))
                else
                  some (.inl ())
              else none
            else none
          else
            some (.inl ())
        else none
      else none : Option ((Unit) ⊕ ((Int × Bool × Int) ⊕ ((Int × Bool) ⊕ (Bool))))).bind fun o => match o with
      | .inl y2 =>
        if 0 ≤ x1.2.2 ∧ x1.2.2 < (q.length : Int) then
          if 0 ≤ x1.2.2 ∧ x1.2.2 < (p.length : Int) then
            let v6 := IntKind.wrap .i64 ((IntKind.wrap .i64 (x1.1 + (nth (0 : Int) q x1.2.2))) - (nth (0 : Int) p x1.2.2))
            bif x1.2.1 then
              some (.inl (v6, true, IntKind.wrap .i64 (x1.2.2 + 1)))
            else
              if 0 ≤ x1.2.2 ∧ x1.2.2 < (p.length : Int) then
                if 0 ≤ x1.2.2 ∧ x1.2.2 < (cs.length : Int) then
                  some (.inl (v6, (decide ((nth (0 : Int) p x1.2.2) < (((nth ((0 : Int), (0 : Int), (0 : Int), (0 : Int), (0 : Int)) cs x1.2.2).2).1))), IntKind.wrap .i64 (x1.2.2 + 1)))
                else none
              else none
          else none
        else none
      | .inr r => some r
    else
      some (.inr (.inl (x1.1, x1.2.1))))) ?h
  · obtain ⟨y, h1, h2⟩ := key
    rw [h1, h2]
  case h =>
    rintro ⟨n, b, x⟩ ⟨i1, i2, i3, i4⟩
    dsimp only at i1 i2 i3 i4 ⊢
    by_cases hx : x < (cs.length : Int)
    · left
      obtain ⟨i, rfl⟩ := Int.eq_ofNat_of_zero_le i1
      have b2 : 0 ≤ (i : Int) ∧ (i : Int) < cs.length := by omega
      have b3 : 0 ≤ (i : Int) ∧ (i : Int) < p.length := by rw [hp.1]; omega
      have b4 : 0 ≤ (i : Int) ∧ (i : Int) < q.length := by rw [hql]; omega
      have w : IntKind.wrap .i64 ((i : Int) + 1) = (i : Int) + 1 := wrap_i64 (by omega) (by omega)
      obtain ⟨c1, c2, c3, _⟩ := hl i (by omega)
      have hpi := hp.2 i (by omega)
      have hn : 0 ≤ n ∧ n ≤ 1 := by rw [i3]; split <;> omega
      rw [decide_eq_true hx, cond_true, if_pos b4, if_pos b3, hq i, w]
      -- what follows in both cases
      have tail : ∀ v : Int, v = (if (j : Int) < (i : Int) + 1 then 1 else 0) → ∃ x', (bif b then (some (.inl (v, true, (i : Int) + 1)) : Option ((Int × Bool × Int) ⊕ ((Int × Bool) ⊕ (Bool)))) else
          if 0 ≤ (i : Int) ∧ (i : Int) < (p.length : Int) then if 0 ≤ (i : Int) ∧ (i : Int) < (cs.length : Int) then some (.inl (v, decide (nth (0 : Int) p i < cl(cs, i).2.1), (i : Int) + 1)) else none else none) = some (.inl x') ∧
          (0 ≤ x'.2.2 ∧ x'.2.2 ≤ (cs.length : Int) ∧ x'.1 = (if (j : Int) < x'.2.2 then 1 else 0) ∧ ((j : Int) < x'.2.2 → x'.2.1 = true)) ∧ ((cs.length : Int) - x'.2.2).toNat < ((cs.length : Int) - (i : Int)).toNat := by
        intro v hv
        cases hb : b with
        | true => exact ⟨_, rfl, ⟨by simp only; omega, by simp only; omega, hv, fun _ => rfl⟩, by simp only; omega⟩
        | false =>
          rw [cond_false, if_pos b3, if_pos b2]
          refine ⟨_, rfl, ⟨by simp only; omega, by simp only; omega, hv, fun hh => ?_⟩, by simp only; omega⟩
          simp only at hh ⊢
          by_cases hji : i = j
          · subst hji; exact decide_eq_true hjl
          · have := i4 (by omega); rw [hb] at this; cases this
      by_cases hji : i = j
      · subst hji
        rw [if_pos rfl]
        have hne : ¬ nth (0 : Int) p i + 1 = nth (0 : Int) p i := by omega
        have w2 : IntKind.wrap .i64 (nth (0 : Int) p i + 1) = nth (0 : Int) p i + 1 := wrap_i64 (by omega) (by omega)
        rw [decide_eq_false hne, Bool.not_false, cond_true, if_pos b4, if_pos b3, w2, decide_eq_true rfl, Bool.not_true, cond_false, Option.bind_some]
        dsimp only
        rw [if_pos b4, if_pos b3, wrap_i64 (n := n + (nth (0 : Int) p i + 1)) (by omega) (by omega), wrap_i64 (n := n + (nth (0 : Int) p i + 1) - nth (0 : Int) p i) (by omega) (by omega)]
        refine tail _ ?_
        rw [i3, if_neg (by omega), if_pos (by omega)]
        omega
      · rw [if_neg hji, decide_eq_true rfl, Bool.not_true, cond_false, Option.bind_some]
        dsimp only
        rw [if_pos b4, if_pos b3, wrap_i64 (n := n + nth (0 : Int) p i) (by omega) (by omega), wrap_i64 (n := n + nth (0 : Int) p i - nth (0 : Int) p i) (by omega) (by omega)]
        refine tail _ ?_
        rw [i3]
        by_cases hlt : (j : Int) < i
        · rw [if_pos hlt, if_pos (by omega)]; omega
        · rw [if_neg hlt, if_neg (by omega)]; omega
    · right
      rw [decide_eq_false hx, cond_false]
      have hb := i4 (by omega)
      rw [if_pos (by omega)] at i3
      exact ⟨_, rfl, by rw [i3, hb]⟩

theorem taxGrows (l : List Int) (total tax : Int) : vmfleetlaw37_TaxGrows.f l total tax = some true := by
  unfold vmfleetlaw37_TaxGrows.f
  rw [vmfleetlaw37_awake.ok]
  by_cases hl : (l.length : Int) > 8
  · rw [decide_eq_true hl]; rfl
  rw [decide_eq_false hl, cond_false]
  obtain ⟨cs, e1, e2, e3⟩ := claims_ok l (by omega)
  obtain ⟨T, e5, T0, T1⟩ := round_ok total 96 (by decide) (by decide)
  obtain ⟨t, e4, t0, t1⟩ := round_ok tax 100 (by decide) (by decide)
  have ht : okT t := ⟨t0, by omega⟩
  rw [e1, Option.bind_some, e5, Option.bind_some, e4, Option.bind_some, targets_eq, Option.bind_some, wrap_i64 (n := T + 1) (by omega) (by omega), targets_eq, Option.bind_some, targets_valid e3 (by omega) T0 (by omega) ht, targets_valid e3 (by omega) (show 0 ≤ T + 1 by omega) (by omega) ht]
  by_cases hr : reserve cs cs.length ≤ T
  · rw [if_pos hr, if_pos (by omega)]
    have hp := grants_ok e3 (start_ok e3) ht (T - reserve cs cs.length).toNat
    have hk : (T + 1 - reserve cs cs.length).toNat = (T - reserve cs cs.length).toNat + 1 := by omega
    rw [hk, show grants cs t (start cs) ((T - reserve cs cs.length).toNat + 1) = grant cs t (grants cs t (start cs) (T - reserve cs cs.length).toNat) from rfl]
    generalize grants cs t (start cs) (T - reserve cs cs.length).toNat = p at hp ⊢
    have hq := grant_ok e3 hp ht
    dsimp only
    rw [Bool.not_true, cond_false, cond_false, hp.1, decide_eq_true rfl, Bool.not_true, cond_false, hq.1, decide_eq_true rfl, Bool.not_true, cond_false]
    rcases grant_spec e3 hp ht with ⟨h1, h2, h3⟩ | ⟨j, h1, h2, h3, h4, h5, h6⟩
    · rw [h2]
      have hh := grow_none e3 (by omega) hp h3
      rw [hp.1] at hh
      exact bind_of hh rfl
    · have hh := grow_one e3 (by omega) hp h1 h3 h5 h6
      rw [hp.1, h5] at hh
      exact bind_of hh rfl
  · rw [if_neg hr]
    rfl

theorem vmfleetlaw37_TaxGrows.pure (x : (tup vmfleetlaw37_TaxGrows.sp.args).den) (h : WfL vmfleetlaw37_TaxGrows.sp.args x) : vmfleetlaw37_TaxGrows.sp.f x = some true :=
  taxGrows x.1 x.2.1 x.2.2

end Go.Proofs.Ytdpldckcbdeojaa.Fn
