/- The law TaxDivides, in plain Lean: at every input its function is true. -/
import Derived.Test.YtdpldckcbdeojaaPureCh37c
set_option linter.unusedVariables false
set_option linter.unusedSimpArgs false
namespace Go.Proofs.Ytdpldckcbdeojaa.Fn
open Go Lift

local notation "cl(" l ", " i ")" => nth ((0 : Int), (0 : Int), (0 : Int), (0 : Int), (0 : Int)) l i

theorem limit_le {l : List Clm} (hl : okL l) : ∀ {i : Nat}, i ≤ l.length → 0 ≤ limit l i ∧ limit l i ≤ 96 * i := by
  intro i
  induction i with
  | zero => intro _; exact ⟨Int.le_refl 0, Int.le_refl _⟩
  | succ i ih =>
    intro hi
    have := ih (by omega)
    obtain ⟨h1, h2, h3, _⟩ := hl i (by omega)
    have e : limit l (i + 1) = limit l i + cl(l, i).2.1 := rfl
    omega

/-- What the targets of valid claims are. -/
theorem targets_valid {l : List Clm} {total t : Int} (hl : okL l) (h8 : l.length ≤ 8) (h0 : 0 ≤ total) (h96 : total ≤ 96) (ht : okT t) :
    targetsOf l total t = if reserve l l.length ≤ total then (grants l t (start l) (total - reserve l l.length).toNat, true) else ([], false) := by
  unfold targetsOf
  by_cases h : reserve l l.length ≤ total
  · rw [if_pos h, if_pos ⟨h8, h0, h96, ht, hl, h⟩]
  · rw [if_neg h, if_neg (fun hh => h hh.2.2.2.2.2)]

def sumP (l : List Clm) (p : List Int) (n : Nat) : Int := upto (fun i => nth (0 : Int) p i) n

theorem grants_sum {l : List Clm} {t : Int} (hl : okL l) (ht : okT t) : ∀ k : Nat, sumP l (grants l t (start l) k) l.length ≤ reserve l l.length + k ∧ (sumP l (grants l t (start l) k) l.length = reserve l l.length + k ∨ ∀ i : Nat, i < l.length → cl(l, i).2.1 = nth (0 : Int) (grants l t (start l) k) i) := by
  intro k
  induction k with
  | zero =>
    have e : sumP l (start l) l.length = reserve l l.length := upto_congr fun i hi => start_nth hi
    refine ⟨?_, .inl ?_⟩
    · show sumP l (start l) l.length ≤ _
      omega
    · show sumP l (start l) l.length = _
      omega
  | succ k ih =>
    have hp := grants_ok hl (start_ok hl) ht k
    show sumP l (grant l t (grants l t (start l) k)) l.length ≤ _ ∧ (sumP l (grant l t (grants l t (start l) k)) l.length = _ ∨ ∀ i : Nat, i < l.length → cl(l, i).2.1 = nth (0 : Int) (grant l t (grants l t (start l) k)) i)
    generalize grants l t (start l) k = p at *
    rcases grant_spec hl hp ht with ⟨h1, h2, h3⟩ | ⟨j, h1, h2, h3, h4, h5, h6⟩
    · rw [h2]
      exact ⟨by omega, .inr h3⟩
    · have e : sumP l (grant l t p) l.length = sumP l p l.length + 1 := by
        unfold sumP
        rw [upto_bump (g := fun i => nth (0 : Int) p i) (j := j) fun i hi => by rw [h6, if_neg hi], if_pos h1, h6, if_pos rfl]
        omega
      rcases ih.2 with ih2 | ih2
      · exact ⟨by omega, .inl (by omega)⟩
      · have := ih2 j h1; omega

theorem sumP_le {l : List Clm} {p : List Int} (hl : okL l) (hp : okP l p) : sumP l p l.length ≤ limit l l.length := upto_le fun i hi => (hp.2 i hi).2

theorem div_sums {cs : List Clm} (hl : okL cs) (h8 : cs.length ≤ 8) : (loop (Y := (Int × Int) ⊕ (Bool)) (fun (x1 : Int × Int × Int) =>
    bif decide (x1.2.2 < (cs.length : Int)) then
      if 0 ≤ x1.2.2 ∧ x1.2.2 < (cs.length : Int) then
        if 0 ≤ x1.2.2 ∧ x1.2.2 < (cs.length : Int) then
          some (.inl ((IntKind.wrap .i64 (x1.1 + ((nth ((0 : Int), (0 : Int), (0 : Int), (0 : Int), (0 : Int)) cs x1.2.2).1))), (IntKind.wrap .i64 (x1.2.1 + (((nth ((0 : Int), (0 : Int), (0 : Int), (0 : Int), (0 : Int)) cs x1.2.2).2).1))), IntKind.wrap .i64 (x1.2.2 + 1)))
        else none
      else none
    else
      some (.inr (.inl (x1.1, x1.2.1)))) ((0 : Int), (0 : Int), (0 : Int))) = some (.inl (reserve cs cs.length, limit cs cs.length)) := by
  refine loop_from ((0 : Int), (0 : Int), (0 : Int)) (fun i : Nat => (reserve cs i, limit cs i, (i : Int))) cs.length (Sum.inl (reserve cs cs.length, limit cs cs.length)) rfl (fun i hi => ?_) ?_
  · have b1 : (i : Int) < cs.length := by omega
    have b2 : 0 ≤ (i : Int) ∧ (i : Int) < cs.length := by omega
    obtain ⟨c1, c2, c3, _⟩ := hl i hi
    have r1 := reserve_pos hl (i := i) (by omega)
    have r2 := reserve_le hl (i := i) (by omega)
    have l1 := limit_le hl (i := i) (by omega)
    dsimp only
    rw [decide_eq_true b1, cond_true, if_pos b2, if_pos b2, wrap_i64 (n := (i : Int) + 1) (by omega) (by omega), wrap_i64 (n := reserve cs i + _) (by omega) (by omega), wrap_i64 (n := limit cs i + _) (by omega) (by omega)]
    rfl
  · have : ¬ (cs.length : Int) < cs.length := by omega
    dsimp only
    rw [decide_eq_false this]
    rfl

theorem sumP_range {l : List Clm} {p : List Int} (hl : okL l) (hp : okP l p) : ∀ {i : Nat}, i ≤ l.length → 0 ≤ sumP l p i ∧ sumP l p i ≤ 96 * i := by
  intro i
  induction i with
  | zero => intro _; exact ⟨Int.le_refl 0, Int.le_refl _⟩
  | succ i ih =>
    intro hi
    have := ih (by omega)
    obtain ⟨h1, h2, h3, _⟩ := hl i (by omega)
    have := hp.2 i (by omega)
    have e : sumP l p (i + 1) = sumP l p i + nth (0 : Int) p i := rfl
    omega

theorem div_all {cs : List Clm} {p : List Int} (hl : okL cs) (h8 : cs.length ≤ 8) (hp : okP cs p) : (loop (Y := (Int) ⊕ (Bool)) (fun (x3 : Int × Int) =>
    bif decide (x3.2 < (cs.length : Int)) then
      if 0 ≤ x3.2 ∧ x3.2 < (p.length : Int) then
        if 0 ≤ x3.2 ∧ x3.2 < (cs.length : Int) then
          bif decide ((nth (0 : Int) p x3.2) < ((nth ((0 : Int), (0 : Int), (0 : Int), (0 : Int), (0 : Int)) cs x3.2).1)) then
            some (.inr (.inr false))
          else
            if 0 ≤ x3.2 ∧ x3.2 < (p.length : Int) then
              if 0 ≤ x3.2 ∧ x3.2 < (cs.length : Int) then
                bif (decide ((nth (0 : Int) p x3.2) > (((nth ((0 : Int), (0 : Int), (0 : Int), (0 : Int), (0 : Int)) cs x3.2).2).1))) then
                  some (.inr (.inr false))
                else
                  if 0 ≤ x3.2 ∧ x3.2 < (p.length : Int) then
                    some (.inl ((IntKind.wrap .i64 (x3.1 + (nth (0 : Int) p x3.2))), IntKind.wrap .i64 (x3.2 + 1)))
                  else none
              else none
            else none
        else none
      else none
    else
      some (.inr (.inl x3.1))) ((0 : Int), (0 : Int))) = some (.inl (sumP cs p cs.length)) := by
  refine loop_from ((0 : Int), (0 : Int)) (fun i : Nat => (sumP cs p i, (i : Int))) cs.length (Sum.inl (sumP cs p cs.length)) rfl (fun i hi => ?_) ?_
  · have b1 : (i : Int) < cs.length := by omega
    have b2 : 0 ≤ (i : Int) ∧ (i : Int) < cs.length := by omega
    have b3 : 0 ≤ (i : Int) ∧ (i : Int) < p.length := by rw [hp.1]; omega
    obtain ⟨c1, c2, c3, _⟩ := hl i hi
    have hq := hp.2 i hi
    have r2 := sumP_range hl hp (i := i) (by omega)
    have d1 : ¬ nth (0 : Int) p i < cl(cs, i).1 := by omega
    have d2 : ¬ nth (0 : Int) p i > cl(cs, i).2.1 := by omega
    dsimp only
    rw [decide_eq_true b1, cond_true, if_pos b3, if_pos b2, decide_eq_false d1, cond_false, if_pos b3, if_pos b2, decide_eq_false d2, cond_false, if_pos b3, wrap_i64 (n := (i : Int) + 1) (by omega) (by omega), wrap_i64 (n := sumP cs p i + _) (by omega) (by omega)]
    rfl
  · have : ¬ (cs.length : Int) < cs.length := by omega
    dsimp only
    rw [decide_eq_false this]
    rfl

theorem taxDivides (l : List Int) (total tax : Int) : vmfleetlaw37_TaxDivides.f l total tax = some true := by
  unfold vmfleetlaw37_TaxDivides.f
  rw [vmfleetlaw37_awake.ok]
  by_cases hl : (l.length : Int) > 8
  · rw [decide_eq_true hl]; rfl
  rw [decide_eq_false hl, cond_false]
  obtain ⟨cs, e1, e2, e3⟩ := claims_ok l (by omega)
  obtain ⟨T, e5, T0, T1⟩ := round_ok total 97 (by decide) (by decide)
  obtain ⟨t, e4, t0, t1⟩ := round_ok tax 100 (by decide) (by decide)
  have ht : okT t := ⟨t0, by omega⟩
  rw [e1, Option.bind_some, e5, Option.bind_some, e4, Option.bind_some, targets_eq, Option.bind_some, targets_valid e3 (by omega) T0 (by omega) ht]
  refine bind_of (div_sums e3 (by omega)) ?_
  dsimp only
  by_cases hr : reserve cs cs.length ≤ T
  · rw [if_pos hr, decide_eq_true hr]
    have hp := grants_ok e3 (start_ok e3) ht (T - reserve cs cs.length).toNat
    have hs := grants_sum e3 ht (T - reserve cs cs.length).toNat
    have hk : reserve cs cs.length + (T - reserve cs cs.length).toNat = T := by omega
    rw [hk] at hs
    generalize grants cs t (start cs) (T - reserve cs cs.length).toNat = p at hp hs ⊢
    dsimp only
    rw [beq_self_eq_true, Bool.not_true, cond_false, cond_false, hp.1, decide_eq_true rfl, Bool.not_true, cond_false]
    have hh := div_all e3 (by omega) hp
    rw [hp.1] at hh
    refine bind_of hh ?_
    dsimp only
    have hle := sumP_le e3 hp
    have hfin : sumP cs p cs.length = min T (limit cs cs.length) := by
      rcases hs.2 with h | h
      · omega
      · have : sumP cs p cs.length = limit cs cs.length := upto_congr fun i hi => (h i hi).symm
        omega
    rw [decide_eq_true hfin]
    rfl
  · rw [if_neg hr, decide_eq_false hr]
    rfl

theorem vmfleetlaw37_TaxDivides.pure (x : (tup vmfleetlaw37_TaxDivides.sp.args).den) (h : WfL vmfleetlaw37_TaxDivides.sp.args x) : vmfleetlaw37_TaxDivides.sp.f x = some true :=
  taxDivides x.1 x.2.1 x.2.2

end Go.Proofs.Ytdpldckcbdeojaa.Fn
