/- The law TaxVictim, in plain Lean: at every input its function is true. -/
import Derived.Test.YtdpldckcbdeojaaPureCh37c
set_option linter.unusedVariables false
set_option linter.unusedSimpArgs false
namespace Go.Proofs.Ytdpldckcbdeojaa.Fn
open Go Lift

local notation "cl(" l ", " i ")" => nth ((0 : Int), (0 : Int), (0 : Int), (0 : Int), (0 : Int)) l i

def rich (l : List Clm) (i : Nat) : Prop := cl(l, i).2.2.2.1 > cl(l, i).1

theorem vict_spec {l : List Clm} {t : Int} (hl : okL l) (ht : okT t) : ∀ n : Nat, n ≤ l.length →
    (vict l t n < 0 ∧ ∀ i : Nat, i < n → ¬ rich l i) ∨
    (∃ j : Nat, j < n ∧ vict l t n = j ∧ rich l j ∧ ∀ i : Nat, i < n → rich l i → rle t cl(l, i) cl(l, j)) := by
  intro n
  induction n with
  | zero => intro _; left; exact ⟨by unfold vict; decide, fun i hi => by omega⟩
  | succ n ih =>
    intro hn
    have ih := ih (by omega)
    have kn := hl n (by omega)
    have e1 : vict l t (n + 1) = if okC cl(l, n) ∧ cl(l, n).2.2.2.1 > cl(l, n).1 then (if vict l t n < 0 then (n : Int) else if poor cl(l, n) cl(l, vict l t n) t = true then (n : Int) else vict l t n) else vict l t n := rfl
    by_cases c1 : rich l n
    · right
      rw [if_pos ⟨kn, c1⟩] at e1
      rcases ih with ⟨h1, h2⟩ | ⟨j, h1, h2, h3, h4⟩
      · refine ⟨n, by omega, by rw [e1, if_pos h1], c1, fun i hi hc => ?_⟩
        by_cases hin : i = n
        · subst hin; exact rle_refl _ _
        · exact absurd hc (h2 i (by omega))
      · have kj := hl j (by omega)
        rw [h2, if_neg (by omega)] at e1
        cases hpo : poor cl(l, n) cl(l, j) t with
        | true =>
          rw [hpo, if_pos rfl] at e1
          have hlt := (poor_iff kn kj ht).1 hpo
          have hle : rle t cl(l, j) cl(l, n) := (rle_total t cl(l, n) cl(l, j)).resolve_left hlt
          refine ⟨n, by omega, e1, c1, fun i hi hc => ?_⟩
          by_cases hin : i = n
          · subst hin; exact rle_refl _ _
          · exact rle_trans (hl i (by omega)) kj kn (h4 i (by omega) hc) hle
        | false =>
          rw [hpo, if_neg (by decide)] at e1
          have hle := poor_false kn kj ht hpo
          refine ⟨j, by omega, e1, h3, fun i hi hc => ?_⟩
          by_cases hin : i = n
          · subst hin; exact hle
          · exact h4 i (by omega) hc
    · rw [if_neg (fun hh => c1 hh.2)] at e1
      rw [e1]
      rcases ih with ⟨h1, h2⟩ | ⟨j, h1, h2, h3, h4⟩
      · left
        refine ⟨h1, fun i hi => ?_⟩
        by_cases hin : i = n
        · subst hin; exact c1
        · exact h2 i (by omega)
      · right
        refine ⟨j, by omega, h2, h3, fun i hi hc => ?_⟩
        by_cases hin : i = n
        · subst hin; exact absurd hc c1
        · exact h4 i (by omega) hc

theorem loopA {cs : List Clm} {t : Int} (h8 : cs.length ≤ 8) (h : ∀ i : Nat, i < cs.length → ¬ rich cs i) : (loop (Y := (Bool) ⊕ (Bool)) (fun (x1 : Bool × Int) =>
    bif decide (x1.2 < (cs.length : Int)) then
      if 0 ≤ x1.2 ∧ x1.2 < (cs.length : Int) then
        if 0 ≤ x1.2 ∧ x1.2 < (cs.length : Int) then
          bif decide ((((((nth ((0 : Int), (0 : Int), (0 : Int), (0 : Int), (0 : Int)) cs x1.2).2).2).2).1) ≤ ((nth ((0 : Int), (0 : Int), (0 : Int), (0 : Int), (0 : Int)) cs x1.2).1)) then
            some (.inl (x1.1, IntKind.wrap .i64 (x1.2 + 1)))
          else
            bif !false then
              some (.inr (.inr false))
            else
              bif decide ((0 : Int) < 0) then
                some (.inr (.inr false))
              else
                bif decide ((0 : Int) ≥ (cs.length : Int)) then
                  some (.inr (.inr false))
                else
                  if 0 ≤ x1.2 ∧ x1.2 < (cs.length : Int) then
                    if 0 ≤ (0 : Int) ∧ (0 : Int) < (cs.length : Int) then
                      (idletax_Poorer.f ((nth ((0 : Int), (0 : Int), (0 : Int), (0 : Int), (0 : Int)) cs x1.2).1, ((nth ((0 : Int), (0 : Int), (0 : Int), (0 : Int), (0 : Int)) cs x1.2).2).1, (((nth ((0 : Int), (0 : Int), (0 : Int), (0 : Int), (0 : Int)) cs x1.2).2).2).1, ((((nth ((0 : Int), (0 : Int), (0 : Int), (0 : Int), (0 : Int)) cs x1.2).2).2).2)) ((nth ((0 : Int), (0 : Int), (0 : Int), (0 : Int), (0 : Int)) cs (0 : Int)).1, ((nth ((0 : Int), (0 : Int), (0 : Int), (0 : Int), (0 : Int)) cs (0 : Int)).2).1, (((nth ((0 : Int), (0 : Int), (0 : Int), (0 : Int), (0 : Int)) cs (0 : Int)).2).2).1, ((((nth ((0 : Int), (0 : Int), (0 : Int), (0 : Int), (0 : Int)) cs (0 : Int)).2).2).2)) t).bind fun r5 =>
                      bif r5 then
                        some (.inr (.inr false))
                      else
                        some (.inl (true, IntKind.wrap .i64 (x1.2 + 1)))
                    else none
                  else none
        else none
      else none
    else
      some (.inr (.inl x1.1))) (false, (0 : Int))) = some (.inl false) := by
  refine loop_from (false, (0 : Int)) (fun i : Nat => (false, (i : Int))) cs.length (Sum.inl false) rfl (fun i hi => ?_) ?_
  · have b1 : (i : Int) < cs.length := by omega
    have b2 : 0 ≤ (i : Int) ∧ (i : Int) < cs.length := by omega
    have hr := h i hi
    have b4 : cl(cs, i).2.2.2.1 ≤ cl(cs, i).1 := by unfold rich at hr; omega
    dsimp only
    rw [decide_eq_true b1, cond_true, if_pos b2, if_pos b2, decide_eq_true b4, cond_true, wrap_i64 (n := (i : Int) + 1) (by omega) (by omega)]
    rfl
  · have : ¬ (cs.length : Int) < cs.length := by omega
    dsimp only
    rw [decide_eq_false this]
    rfl

theorem loopB {cs : List Clm} {t : Int} (hl : okL cs) (ht : okT t) (h8 : cs.length ≤ 8) {j : Nat} (hj : j < cs.length) (hr : rich cs j) (h : ∀ i : Nat, i < cs.length → rich cs i → rle t cl(cs, i) cl(cs, j)) : (loop (Y := (Bool) ⊕ (Bool)) (fun (x1 : Bool × Int) =>
    bif decide (x1.2 < (cs.length : Int)) then
      if 0 ≤ x1.2 ∧ x1.2 < (cs.length : Int) then
        if 0 ≤ x1.2 ∧ x1.2 < (cs.length : Int) then
          bif decide ((((((nth ((0 : Int), (0 : Int), (0 : Int), (0 : Int), (0 : Int)) cs x1.2).2).2).2).1) ≤ ((nth ((0 : Int), (0 : Int), (0 : Int), (0 : Int), (0 : Int)) cs x1.2).1)) then
            some (.inl (x1.1, IntKind.wrap .i64 (x1.2 + 1)))
          else
            bif !true then
              some (.inr (.inr false))
            else
              bif decide ((j : Int) < 0) then
                some (.inr (.inr false))
              else
                bif decide ((j : Int) ≥ (cs.length : Int)) then
                  some (.inr (.inr false))
                else
                  if 0 ≤ x1.2 ∧ x1.2 < (cs.length : Int) then
                    if 0 ≤ (j : Int) ∧ (j : Int) < (cs.length : Int) then
                      (idletax_Poorer.f ((nth ((0 : Int), (0 : Int), (0 : Int), (0 : Int), (0 : Int)) cs x1.2).1, ((nth ((0 : Int), (0 : Int), (0 : Int), (0 : Int), (0 : Int)) cs x1.2).2).1, (((nth ((0 : Int), (0 : Int), (0 : Int), (0 : Int), (0 : Int)) cs x1.2).2).2).1, ((((nth ((0 : Int), (0 : Int), (0 : Int), (0 : Int), (0 : Int)) cs x1.2).2).2).2)) ((nth ((0 : Int), (0 : Int), (0 : Int), (0 : Int), (0 : Int)) cs (j : Int)).1, ((nth ((0 : Int), (0 : Int), (0 : Int), (0 : Int), (0 : Int)) cs (j : Int)).2).1, (((nth ((0 : Int), (0 : Int), (0 : Int), (0 : Int), (0 : Int)) cs (j : Int)).2).2).1, ((((nth ((0 : Int), (0 : Int), (0 : Int), (0 : Int), (0 : Int)) cs (j : Int)).2).2).2)) t).bind fun r5 =>
                      bif r5 then
                        some (.inr (.inr false))
                      else
                        some (.inl (true, IntKind.wrap .i64 (x1.2 + 1)))
                    else none
                  else none
        else none
      else none
    else
      some (.inr (.inl x1.1))) (false, (0 : Int))) = some (.inl true) := by
  have key := loop_ind (I := fun x : Bool × Int => 0 ≤ x.2 ∧ x.2 ≤ (cs.length : Int) ∧ ((j : Int) < x.2 → x.1 = true)) (Q := fun y : (Bool) ⊕ (Bool) => y = .inl true) (fun x => ((cs.length : Int) - x.2).toNat) (x := (false, (0 : Int))) ⟨Int.le_refl 0, by simp only; omega, fun hh => by simp only at hh; omega⟩ (step := (fun (x1 : Bool × Int) =>
    bif decide (x1.2 < (cs.length : Int)) then
      if 0 ≤ x1.2 ∧ x1.2 < (cs.length : Int) then
        if 0 ≤ x1.2 ∧ x1.2 < (cs.length : Int) then
          bif decide ((((((nth ((0 : Int), (0 : Int), (0 : Int), (0 : Int), (0 : Int)) cs x1.2).2).2).2).1) ≤ ((nth ((0 : Int), (0 : Int), (0 : Int), (0 : Int), (0 : Int)) cs x1.2).1)) then
            some (.inl (x1.1, IntKind.wrap .i64 (x1.2 + 1)))
          else
            bif !true then
              some (.inr (.inr false))
            else
              bif decide ((j : Int) < 0) then
                some (.inr (.inr false))
              else
                bif decide ((j : Int) ≥ (cs.length : Int)) then
                  some (.inr (.inr false))
                else
                  if 0 ≤ x1.2 ∧ x1.2 < (cs.length : Int) then
                    if 0 ≤ (j : Int) ∧ (j : Int) < (cs.length : Int) then
                      (idletax_Poorer.f ((nth ((0 : Int), (0 : Int), (0 : Int), (0 : Int), (0 : Int)) cs x1.2).1, ((nth ((0 : Int), (0 : Int), (0 : Int), (0 : Int), (0 : Int)) cs x1.2).2).1, (((nth ((0 : Int), (0 : Int), (0 : Int), (0 : Int), (0 : Int)) cs x1.2).2).2).1, ((((nth ((0 : Int), (0 : Int), (0 : Int), (0 : Int), (0 : Int)) cs x1.2).2).2).2)) ((nth ((0 : Int), (0 : Int), (0 : Int), (0 : Int), (0 : Int)) cs (j : Int)).1, ((nth ((0 : Int), (0 : Int), (0 : Int), (0 : Int), (0 : Int)) cs (j : Int)).2).1, (((nth ((0 : Int), (0 : Int), (0 : Int), (0 : Int), (0 : Int)) cs (j : Int)).2).2).1, ((((nth ((0 : Int), (0 : Int), (0 : Int), (0 : Int), (0 : Int)) cs (j : Int)).2).2).2)) t).bind fun r5 =>
                      bif r5 then
                        some (.inr (.inr false))
                      else
                        some (.inl (true, IntKind.wrap .i64 (x1.2 + 1)))
                    else none
                  else none
        else none
      else none
    else
      some (.inr (.inl x1.1)))) ?h
  · obtain ⟨y, h1, h2⟩ := key
    rw [h1, h2]
  case h =>
    rintro ⟨b, x⟩ ⟨i1, i2, i3⟩
    dsimp only at i1 i2 i3 ⊢
    by_cases hx : x < (cs.length : Int)
    · left
      obtain ⟨i, rfl⟩ := Int.eq_ofNat_of_zero_le i1
      have b2 : 0 ≤ (i : Int) ∧ (i : Int) < cs.length := by omega
      have b5 : 0 ≤ (j : Int) ∧ (j : Int) < cs.length := by omega
      have w : IntKind.wrap .i64 ((i : Int) + 1) = (i : Int) + 1 := wrap_i64 (by omega) (by omega)
      rw [decide_eq_true hx, cond_true, if_pos b2, if_pos b2, w]
      by_cases c : rich cs i
      · have c1 : ¬ cl(cs, i).2.2.2.1 ≤ cl(cs, i).1 := by unfold rich at c; omega
        have c2 : ¬ (j : Int) < 0 := by omega
        have c3 : ¬ (j : Int) ≥ (cs.length : Int) := by omega
        have hp : poor cl(cs, i) cl(cs, j) t = false := by
          cases hpo : poor cl(cs, i) cl(cs, j) t with
          | false => rfl
          | true => exact absurd (h i (by omega) c) ((poor_iff (hl i (by omega)) (hl j hj) ht).1 hpo)
        rw [decide_eq_false c1, cond_false, Bool.not_true, cond_false, decide_eq_false c2, cond_false, decide_eq_false c3, cond_false, if_pos b2, if_pos b5, eta5, eta5, poorer_eq, Option.bind_some, hp, cond_false]
        exact ⟨_, rfl, ⟨by simp only; omega, by simp only; omega, fun _ => rfl⟩, by simp only; omega⟩
      · have c1 : cl(cs, i).2.2.2.1 ≤ cl(cs, i).1 := by unfold rich at c; omega
        rw [decide_eq_true c1, cond_true]
        refine ⟨_, rfl, ⟨by simp only; omega, by simp only; omega, fun hh => ?_⟩, by simp only; omega⟩
        simp only at hh ⊢
        by_cases hji : j = i
        · subst hji; exact absurd hr c
        · exact i3 (by omega)
    · right
      rw [decide_eq_false hx, cond_false]
      exact ⟨_, rfl, by rw [i3 (by omega)]⟩

theorem taxVictim (l : List Int) (tax : Int) : vmfleetlaw37_TaxVictim.f l tax = some true := by
  unfold vmfleetlaw37_TaxVictim.f
  rw [vmfleetlaw37_awake.ok]
  by_cases hl : (l.length : Int) > 8
  · rw [decide_eq_true hl]; rfl
  rw [decide_eq_false hl, cond_false]
  obtain ⟨cs, e1, e2, e3⟩ := claims_ok l (by omega)
  obtain ⟨t, e4, t0, t1⟩ := round_ok tax 100 (by decide) (by decide)
  have ht : okT t := ⟨t0, by omega⟩
  rw [e1, Option.bind_some, e4, Option.bind_some, victim_eq cs t (by omega), Option.bind_some]
  rcases vict_spec e3 ht cs.length (Nat.le_refl _) with ⟨h1, h2⟩ | ⟨j, h1, h2, h3, h4⟩
  · have ev : victimOf cs t = (0, false) := by unfold victimOf; rw [if_pos ht, if_pos h1]
    rw [ev]
    exact bind_of (loopA (t := t) (by omega) h2) rfl
  · have ev : victimOf cs t = ((j : Int), true) := by unfold victimOf; rw [if_pos ht, h2, if_neg (by omega)]
    rw [ev]
    refine bind_of (loopB e3 ht (by omega) h1 h3 h4) ?_
    have b5 : 0 ≤ (j : Int) ∧ (j : Int) < cs.length := by omega
    dsimp only
    rw [beq_self_eq_true, cond_true, Bool.not_true, cond_false, if_pos b5, if_pos b5, decide_eq_true (show cl(cs, j).2.2.2.1 > cl(cs, j).1 from h3)]
    rfl

theorem vmfleetlaw37_TaxVictim.pure (x : (tup vmfleetlaw37_TaxVictim.sp.args).den) (h : WfL vmfleetlaw37_TaxVictim.sp.args x) : vmfleetlaw37_TaxVictim.sp.f x = some true :=
  taxVictim x.1 x.2

end Go.Proofs.Ytdpldckcbdeojaa.Fn
