/- The targets (chapter 37): both functions compute the closed form. In plain Lean. -/
import Derived.Test.YtdpldckcbdeojaaPureCh37
set_option linter.unusedVariables false
set_option linter.unusedSimpArgs false
namespace Go.Proofs.Ytdpldckcbdeojaa.Fn
open Go Lift

local notation "cl(" l ", " i ")" => nth ((0 : Int), (0 : Int), (0 : Int), (0 : Int), (0 : Int)) l i

def candN (l : List Clm) (t : Int) (p : List Int) : Nat → Clm
  | 0 => (0, 0, 0, 0, 0)
  | i + 1 => if nth (0 : Int) p i < cl(l, i).2.1 then (if pickN l t p i < 0 then cand l p i else if poor (cand l p (pickN l t p i)) (cand l p i) t = true then cand l p i else candN l t p i) else candN l t p i

theorem candN_eq (l : List Clm) (t : Int) (p : List Int) : ∀ i, ¬ pickN l t p i < 0 → candN l t p i = cand l p (pickN l t p i) := by
  intro i
  induction i with
  | zero => intro h; exact absurd (show pickN l t p 0 < 0 by unfold pickN; decide) h
  | succ i ih =>
    have e1 : pickN l t p (i + 1) = if nth (0 : Int) p i < cl(l, i).2.1 then (if pickN l t p i < 0 then (i : Int) else if poor (cand l p (pickN l t p i)) (cand l p i) t = true then (i : Int) else pickN l t p i) else pickN l t p i := rfl
    have e2 : candN l t p (i + 1) = if nth (0 : Int) p i < cl(l, i).2.1 then (if pickN l t p i < 0 then cand l p i else if poor (cand l p (pickN l t p i)) (cand l p i) t = true then cand l p i else candN l t p i) else candN l t p i := rfl
    intro h
    rw [e1] at h
    rw [e1, e2]
    by_cases c1 : nth (0 : Int) p i < cl(l, i).2.1
    · rw [if_pos c1] at h ⊢
      rw [if_pos c1]
      by_cases c2 : pickN l t p i < 0
      · rw [if_pos c2, if_pos c2]
      · rw [if_neg c2, if_neg c2]
        by_cases c3 : poor (cand l p (pickN l t p i)) (cand l p i) t = true
        · rw [if_pos c3, if_pos c3]
        · rw [if_neg c3, if_neg c3]; exact ih c2
    · rw [if_neg c1] at h ⊢
      rw [if_neg c1]
      exact ih h

theorem innerI_eq {l : List Clm} {t : Int} {p : List Int} (hl : okL l) (hp : okP l p) (h8 : l.length ≤ 8) : (loop (Y := (Int) ⊕ ((List Int × Int) ⊕ ((List Int) ⊕ (List Int × Bool)))) (fun (x4 : Int × (Int × Int × Int × Int × Int) × Int) =>
  bif decide (x4.2.2 < (l.length : Int)) then
    if 0 ≤ x4.2.2 ∧ x4.2.2 < (l.length : Int) then
      if 0 ≤ x4.2.2 ∧ x4.2.2 < (p.length : Int) then
        let v3 := IntKind.wrap .i64 ((nth (0 : Int) p x4.2.2) + 1)
        if 0 ≤ x4.2.2 ∧ x4.2.2 < (p.length : Int) then
          bif decide ((nth (0 : Int) p x4.2.2) < (((nth ((0 : Int), (0 : Int), (0 : Int), (0 : Int), (0 : Int)) l x4.2.2).2).1)) then
            bif decide (x4.1 < 0) then
              some (.inl (x4.2.2, ((nth ((0 : Int), (0 : Int), (0 : Int), (0 : Int), (0 : Int)) l x4.2.2).1, ((nth ((0 : Int), (0 : Int), (0 : Int), (0 : Int), (0 : Int)) l x4.2.2).2).1, (((nth ((0 : Int), (0 : Int), (0 : Int), (0 : Int), (0 : Int)) l x4.2.2).2).2).1, v3, ((((nth ((0 : Int), (0 : Int), (0 : Int), (0 : Int), (0 : Int)) l x4.2.2).2).2).2).2), IntKind.wrap .i64 (x4.2.2 + 1)))
            else
              (idletax_Poorer.f x4.2.1 ((nth ((0 : Int), (0 : Int), (0 : Int), (0 : Int), (0 : Int)) l x4.2.2).1, ((nth ((0 : Int), (0 : Int), (0 : Int), (0 : Int), (0 : Int)) l x4.2.2).2).1, (((nth ((0 : Int), (0 : Int), (0 : Int), (0 : Int), (0 : Int)) l x4.2.2).2).2).1, v3, ((((nth ((0 : Int), (0 : Int), (0 : Int), (0 : Int), (0 : Int)) l x4.2.2).2).2).2).2) t).bind fun r3 =>
              bif r3 then
                some (.inl (x4.2.2, ((nth ((0 : Int), (0 : Int), (0 : Int), (0 : Int), (0 : Int)) l x4.2.2).1, ((nth ((0 : Int), (0 : Int), (0 : Int), (0 : Int), (0 : Int)) l x4.2.2).2).1, (((nth ((0 : Int), (0 : Int), (0 : Int), (0 : Int), (0 : Int)) l x4.2.2).2).2).1, v3, ((((nth ((0 : Int), (0 : Int), (0 : Int), (0 : Int), (0 : Int)) l x4.2.2).2).2).2).2), IntKind.wrap .i64 (x4.2.2 + 1)))
              else
                some (.inl (x4.1, x4.2.1, IntKind.wrap .i64 (x4.2.2 + 1)))
          else
            some (.inl (x4.1, x4.2.1, IntKind.wrap .i64 (x4.2.2 + 1)))
        else none
      else none
    else none
  else
    some (.inr (.inl x4.1))) ((-1 : Int), ((0 : Int), (0 : Int), (0 : Int), (0 : Int), (0 : Int)), (0 : Int))) = some (.inl (pickN l t p l.length)) := by
  refine loop_at (fun i : Nat => (pickN l t p i, candN l t p i, (i : Int))) l.length (Sum.inl (pickN l t p l.length)) (fun i hi => ?_) ?_
  · have b1 : (i : Int) < l.length := by omega
    have b2 : 0 ≤ (i : Int) ∧ (i : Int) < l.length := by omega
    have b3 : IntKind.wrap .i64 ((i : Int) + 1) = ((i + 1 : Nat) : Int) := by rw [wrap_i64 (by omega) (by omega)]; omega
    have b4 : 0 ≤ (i : Int) ∧ (i : Int) < p.length := by rw [hp.1]; exact b2
    have hq := hp.2 i hi
    have hc := hl i hi
    have b5 : IntKind.wrap .i64 (nth (0 : Int) p i + 1) = nth (0 : Int) p i + 1 := by
      have := hc.1; have := hc.2.2.1
      rw [wrap_i64 (by omega) (by omega)]
    simp only [b1, decide_true, cond_true, b2, b4, and_self, if_true, poorer_eq, Option.bind_some, b3, b5]
    have e0 : (cl(l, i).1, cl(l, i).2.1, cl(l, i).2.2.1, nth (0 : Int) p i + 1, cl(l, i).2.2.2.2) = cand l p i := rfl
    rw [e0]
    have e1 : pickN l t p (i + 1) = if nth (0 : Int) p i < cl(l, i).2.1 then (if pickN l t p i < 0 then (i : Int) else if poor (cand l p (pickN l t p i)) (cand l p i) t = true then (i : Int) else pickN l t p i) else pickN l t p i := rfl
    have e2 : candN l t p (i + 1) = if nth (0 : Int) p i < cl(l, i).2.1 then (if pickN l t p i < 0 then cand l p i else if poor (cand l p (pickN l t p i)) (cand l p i) t = true then cand l p i else candN l t p i) else candN l t p i := rfl
    rw [e1, e2]
    by_cases c1 : nth (0 : Int) p i < cl(l, i).2.1
    · rw [decide_eq_true c1, cond_true, if_pos c1, if_pos c1]
      by_cases c2 : pickN l t p i < 0
      · rw [decide_eq_true c2, cond_true, if_pos c2, if_pos c2]
      · rw [decide_eq_false c2, cond_false, if_neg c2, if_neg c2, candN_eq l t p i c2]
        cases poor (cand l p (pickN l t p i)) (cand l p i) t
        · rw [cond_false, if_neg (by decide), if_neg (by decide)]
        · rw [cond_true, if_pos rfl, if_pos rfl]
    · rw [decide_eq_false c1, cond_false, if_neg c1, if_neg c1]
  · have : ¬ (l.length : Int) < l.length := by omega
    simp only [this, decide_false, cond_false]

theorem innerR_eq {l : List Clm} {t : Int} {p : List Int} (hl : okL l) (hp : okP l p) (h8 : l.length ≤ 8) : (loop (Y := (Int) ⊕ ((List Int × Int) ⊕ ((List Int) ⊕ (List Int × Bool)))) (fun (x4 : Int × (Int × Int × Int × Int × Int) × Int) =>
  bif decide (x4.2.2 < (l.length : Int)) then
    if 0 ≤ x4.2.2 ∧ x4.2.2 < (l.length : Int) then
      if 0 ≤ x4.2.2 ∧ x4.2.2 < (p.length : Int) then
        let v4 := IntKind.wrap .i64 ((nth (0 : Int) p x4.2.2) + 1)
        if 0 ≤ x4.2.2 ∧ x4.2.2 < (p.length : Int) then
          if 0 ≤ x4.2.2 ∧ x4.2.2 < (l.length : Int) then
            bif decide ((nth (0 : Int) p x4.2.2) < (((nth ((0 : Int), (0 : Int), (0 : Int), (0 : Int), (0 : Int)) l x4.2.2).2).1)) then
              bif decide (x4.1 < 0) then
                some (.inl (x4.2.2, ((nth ((0 : Int), (0 : Int), (0 : Int), (0 : Int), (0 : Int)) l x4.2.2).1, ((nth ((0 : Int), (0 : Int), (0 : Int), (0 : Int), (0 : Int)) l x4.2.2).2).1, (((nth ((0 : Int), (0 : Int), (0 : Int), (0 : Int), (0 : Int)) l x4.2.2).2).2).1, v4, ((((nth ((0 : Int), (0 : Int), (0 : Int), (0 : Int), (0 : Int)) l x4.2.2).2).2).2).2), IntKind.wrap .i64 (x4.2.2 + 1)))
              else
                (vmfleetref35_Poorer.f x4.2.1 ((nth ((0 : Int), (0 : Int), (0 : Int), (0 : Int), (0 : Int)) l x4.2.2).1, ((nth ((0 : Int), (0 : Int), (0 : Int), (0 : Int), (0 : Int)) l x4.2.2).2).1, (((nth ((0 : Int), (0 : Int), (0 : Int), (0 : Int), (0 : Int)) l x4.2.2).2).2).1, v4, ((((nth ((0 : Int), (0 : Int), (0 : Int), (0 : Int), (0 : Int)) l x4.2.2).2).2).2).2) t).bind fun r3 =>
                bif r3 then
                  some (.inl (x4.2.2, ((nth ((0 : Int), (0 : Int), (0 : Int), (0 : Int), (0 : Int)) l x4.2.2).1, ((nth ((0 : Int), (0 : Int), (0 : Int), (0 : Int), (0 : Int)) l x4.2.2).2).1, (((nth ((0 : Int), (0 : Int), (0 : Int), (0 : Int), (0 : Int)) l x4.2.2).2).2).1, v4, ((((nth ((0 : Int), (0 : Int), (0 : Int), (0 : Int), (0 : Int)) l x4.2.2).2).2).2).2), IntKind.wrap .i64 (x4.2.2 + 1)))
                else
                  some (.inl (x4.1, x4.2.1, IntKind.wrap .i64 (x4.2.2 + 1)))
            else
              some (.inl (x4.1, x4.2.1, IntKind.wrap .i64 (x4.2.2 + 1)))
          else none
        else none
      else none
    else none
  else
    some (.inr (.inl x4.1))) ((-1 : Int), ((0 : Int), (0 : Int), (0 : Int), (0 : Int), (0 : Int)), (0 : Int))) = some (.inl (pickN l t p l.length)) := by
  rw [← innerI_eq hl hp h8]
  congr 1
  funext x
  by_cases c1 : x.2.2 < (l.length : Int)
  case neg => rw [decide_eq_false c1]; rfl
  by_cases c2 : 0 ≤ x.2.2 ∧ x.2.2 < (l.length : Int)
  case neg => rw [decide_eq_true c1, cond_true, cond_true, if_neg c2, if_neg c2]
  simp only [c2, and_self, if_true]
  rfl

theorem outerI_eq {l : List Clm} {t : Int} {p : List Int} (hl : okL l) (hp : okP l p) (ht : okT t) (h8 : l.length ≤ 8) (n : Nat) (hn : n ≤ 1000) : (loop (Y := (List Int) ⊕ (List Int × Bool)) (fun (x3 : List Int × Int) =>
  bif decide (x3.2 > 0) then
    (loop (Y := (Int) ⊕ ((List Int × Int) ⊕ ((List Int) ⊕ (List Int × Bool)))) (fun (x4 : Int × (Int × Int × Int × Int × Int) × Int) =>
      bif decide (x4.2.2 < (l.length : Int)) then
        if 0 ≤ x4.2.2 ∧ x4.2.2 < (l.length : Int) then
          if 0 ≤ x4.2.2 ∧ x4.2.2 < (x3.1.length : Int) then
            let v3 := IntKind.wrap .i64 ((nth (0 : Int) x3.1 x4.2.2) + 1)
            if 0 ≤ x4.2.2 ∧ x4.2.2 < (x3.1.length : Int) then
              bif decide ((nth (0 : Int) x3.1 x4.2.2) < (((nth ((0 : Int), (0 : Int), (0 : Int), (0 : Int), (0 : Int)) l x4.2.2).2).1)) then
                bif decide (x4.1 < 0) then
                  some (.inl (x4.2.2, ((nth ((0 : Int), (0 : Int), (0 : Int), (0 : Int), (0 : Int)) l x4.2.2).1, ((nth ((0 : Int), (0 : Int), (0 : Int), (0 : Int), (0 : Int)) l x4.2.2).2).1, (((nth ((0 : Int), (0 : Int), (0 : Int), (0 : Int), (0 : Int)) l x4.2.2).2).2).1, v3, ((((nth ((0 : Int), (0 : Int), (0 : Int), (0 : Int), (0 : Int)) l x4.2.2).2).2).2).2), IntKind.wrap .i64 (x4.2.2 + 1)))
                else
                  (idletax_Poorer.f x4.2.1 ((nth ((0 : Int), (0 : Int), (0 : Int), (0 : Int), (0 : Int)) l x4.2.2).1, ((nth ((0 : Int), (0 : Int), (0 : Int), (0 : Int), (0 : Int)) l x4.2.2).2).1, (((nth ((0 : Int), (0 : Int), (0 : Int), (0 : Int), (0 : Int)) l x4.2.2).2).2).1, v3, ((((nth ((0 : Int), (0 : Int), (0 : Int), (0 : Int), (0 : Int)) l x4.2.2).2).2).2).2) t).bind fun r3 =>
                  bif r3 then
                    some (.inl (x4.2.2, ((nth ((0 : Int), (0 : Int), (0 : Int), (0 : Int), (0 : Int)) l x4.2.2).1, ((nth ((0 : Int), (0 : Int), (0 : Int), (0 : Int), (0 : Int)) l x4.2.2).2).1, (((nth ((0 : Int), (0 : Int), (0 : Int), (0 : Int), (0 : Int)) l x4.2.2).2).2).1, v3, ((((nth ((0 : Int), (0 : Int), (0 : Int), (0 : Int), (0 : Int)) l x4.2.2).2).2).2).2), IntKind.wrap .i64 (x4.2.2 + 1)))
                  else
                    some (.inl (x4.1, x4.2.1, IntKind.wrap .i64 (x4.2.2 + 1)))
              else
                some (.inl (x4.1, x4.2.1, IntKind.wrap .i64 (x4.2.2 + 1)))
            else none
          else none
        else none
      else
        some (.inr (.inl x4.1))) ((-1 : Int), ((0 : Int), (0 : Int), (0 : Int), (0 : Int), (0 : Int)), (0 : Int))).bind fun o => match o with
    | .inl y5 =>
      bif decide (y5 < 0) then
        some (.inr (.inl x3.1))
      else
        if 0 ≤ y5 ∧ y5 < (x3.1.length : Int) then
          if 0 ≤ y5 ∧ y5 < (x3.1.length : Int) then
            some (.inl (put x3.1 y5 (IntKind.wrap .i64 ((nth (0 : Int) x3.1 y5) + 1)), IntKind.wrap .i64 (x3.2 - 1)))
          else none
        else none
    | .inr r => some r
  else
    some (.inr (.inl x3.1))) (p, (n : Int))) = some (.inl (grants l t p n)) := by
  have key := loop_ind (I := fun x : List Int × Int => ∃ k : Nat, k ≤ n ∧ x = (grants l t p k, (n : Int) - k)) (Q := fun y : (List Int) ⊕ (List Int × Bool) => y = .inl (grants l t p n)) (fun x => x.2.toNat) (x := (p, (n : Int))) ⟨0, Nat.zero_le _, by simp [grants]⟩ (step := (fun (x3 : List Int × Int) =>
  bif decide (x3.2 > 0) then
    (loop (Y := (Int) ⊕ ((List Int × Int) ⊕ ((List Int) ⊕ (List Int × Bool)))) (fun (x4 : Int × (Int × Int × Int × Int × Int) × Int) =>
      bif decide (x4.2.2 < (l.length : Int)) then
        if 0 ≤ x4.2.2 ∧ x4.2.2 < (l.length : Int) then
          if 0 ≤ x4.2.2 ∧ x4.2.2 < (x3.1.length : Int) then
            let v3 := IntKind.wrap .i64 ((nth (0 : Int) x3.1 x4.2.2) + 1)
            if 0 ≤ x4.2.2 ∧ x4.2.2 < (x3.1.length : Int) then
              bif decide ((nth (0 : Int) x3.1 x4.2.2) < (((nth ((0 : Int), (0 : Int), (0 : Int), (0 : Int), (0 : Int)) l x4.2.2).2).1)) then
                bif decide (x4.1 < 0) then
                  some (.inl (x4.2.2, ((nth ((0 : Int), (0 : Int), (0 : Int), (0 : Int), (0 : Int)) l x4.2.2).1, ((nth ((0 : Int), (0 : Int), (0 : Int), (0 : Int), (0 : Int)) l x4.2.2).2).1, (((nth ((0 : Int), (0 : Int), (0 : Int), (0 : Int), (0 : Int)) l x4.2.2).2).2).1, v3, ((((nth ((0 : Int), (0 : Int), (0 : Int), (0 : Int), (0 : Int)) l x4.2.2).2).2).2).2), IntKind.wrap .i64 (x4.2.2 + 1)))
                else
                  (idletax_Poorer.f x4.2.1 ((nth ((0 : Int), (0 : Int), (0 : Int), (0 : Int), (0 : Int)) l x4.2.2).1, ((nth ((0 : Int), (0 : Int), (0 : Int), (0 : Int), (0 : Int)) l x4.2.2).2).1, (((nth ((0 : Int), (0 : Int), (0 : Int), (0 : Int), (0 : Int)) l x4.2.2).2).2).1, v3, ((((nth ((0 : Int), (0 : Int), (0 : Int), (0 : Int), (0 : Int)) l x4.2.2).2).2).2).2) t).bind fun r3 =>
                  bif r3 then
                    some (.inl (x4.2.2, ((nth ((0 : Int), (0 : Int), (0 : Int), (0 : Int), (0 : Int)) l x4.2.2).1, ((nth ((0 : Int), (0 : Int), (0 : Int), (0 : Int), (0 : Int)) l x4.2.2).2).1, (((nth ((0 : Int), (0 : Int), (0 : Int), (0 : Int), (0 : Int)) l x4.2.2).2).2).1, v3, ((((nth ((0 : Int), (0 : Int), (0 : Int), (0 : Int), (0 : Int)) l x4.2.2).2).2).2).2), IntKind.wrap .i64 (x4.2.2 + 1)))
                  else
                    some (.inl (x4.1, x4.2.1, IntKind.wrap .i64 (x4.2.2 + 1)))
              else
                some (.inl (x4.1, x4.2.1, IntKind.wrap .i64 (x4.2.2 + 1)))
            else none
          else none
        else none
      else
        some (.inr (.inl x4.1))) ((-1 : Int), ((0 : Int), (0 : Int), (0 : Int), (0 : Int), (0 : Int)), (0 : Int))).bind fun o => match o with
    | .inl y5 =>
      bif decide (y5 < 0) then
        some (.inr (.inl x3.1))
      else
        if 0 ≤ y5 ∧ y5 < (x3.1.length : Int) then
          if 0 ≤ y5 ∧ y5 < (x3.1.length : Int) then
            some (.inl (put x3.1 y5 (IntKind.wrap .i64 ((nth (0 : Int) x3.1 y5) + 1)), IntKind.wrap .i64 (x3.2 - 1)))
          else none
        else none
    | .inr r => some r
  else
    some (.inr (.inl x3.1)))) ?h
  · obtain ⟨y, h1, h2⟩ := key
    rw [h1, h2]
  case h =>
    rintro x ⟨k, hk, rfl⟩
    have hg := grants_ok hl hp ht k
    dsimp only
    by_cases c1 : (n : Int) - k > 0
    · rw [decide_eq_true c1, cond_true, innerI_eq hl hg h8, Option.bind_some]
      dsimp only
      have eg : grants l t p (k + 1) = grant l t (grants l t p k) := rfl
      by_cases c2 : pickN l t (grants l t p k) l.length < 0
      · right
        rw [decide_eq_true c2, cond_true]
        refine ⟨_, rfl, ?_⟩
        have := grants_fix (l := l) (t := t) (p := p) (k := k) c2 (n - k)
        rw [show k + (n - k) = n by omega] at this
        rw [this]
      · left
        have hr := pickN_range l t (grants l t p k) l.length
        have b4 : 0 ≤ pickN l t (grants l t p k) l.length ∧ pickN l t (grants l t p k) l.length < ((grants l t p k).length : Int) := by rw [hg.1]; omega
        obtain ⟨j, hj⟩ := Int.eq_ofNat_of_zero_le b4.1
        have hjl : j < l.length := by omega
        have hq := hg.2 j hjl
        have hc := hl j hjl
        have b5 : IntKind.wrap .i64 (nth (0 : Int) (grants l t p k) (pickN l t (grants l t p k) l.length) + 1) = nth (0 : Int) (grants l t p k) (pickN l t (grants l t p k) l.length) + 1 := by
          rw [hj]
          have := hc.1; have := hc.2.2.1
          rw [wrap_i64 (by omega) (by omega)]
        rw [decide_eq_false c2, cond_false, if_pos b4, if_pos b4, b5, wrap_i64 (by omega) (by omega)]
        refine ⟨_, rfl, ⟨k + 1, by omega, ?_⟩, ?_⟩
        · rw [eg]
          unfold grant pick
          rw [if_neg c2, show (n : Int) - k - 1 = (n : Int) - (k + 1 : Nat) by omega]
        · show ((n : Int) - k - 1).toNat < ((n : Int) - k).toNat
          omega
    · right
      rw [decide_eq_false c1, cond_false]
      have : k = n := by omega
      subst this
      exact ⟨_, rfl, rfl⟩

theorem outerR_eq {l : List Clm} {t : Int} {p : List Int} (hl : okL l) (hp : okP l p) (ht : okT t) (h8 : l.length ≤ 8) (n : Nat) (hn : n ≤ 1000) : (loop (Y := (List Int) ⊕ (List Int × Bool)) (fun (x3 : List Int × Int) =>
  bif decide (x3.2 > 0) then
    (loop (Y := (Int) ⊕ ((List Int × Int) ⊕ ((List Int) ⊕ (List Int × Bool)))) (fun (x4 : Int × (Int × Int × Int × Int × Int) × Int) =>
      bif decide (x4.2.2 < (l.length : Int)) then
        if 0 ≤ x4.2.2 ∧ x4.2.2 < (l.length : Int) then
          if 0 ≤ x4.2.2 ∧ x4.2.2 < (x3.1.length : Int) then
            let v4 := IntKind.wrap .i64 ((nth (0 : Int) x3.1 x4.2.2) + 1)
            if 0 ≤ x4.2.2 ∧ x4.2.2 < (x3.1.length : Int) then
              if 0 ≤ x4.2.2 ∧ x4.2.2 < (l.length : Int) then
                bif decide ((nth (0 : Int) x3.1 x4.2.2) < (((nth ((0 : Int), (0 : Int), (0 : Int), (0 : Int), (0 : Int)) l x4.2.2).2).1)) then
                  bif decide (x4.1 < 0) then
                    some (.inl (x4.2.2, ((nth ((0 : Int), (0 : Int), (0 : Int), (0 : Int), (0 : Int)) l x4.2.2).1, ((nth ((0 : Int), (0 : Int), (0 : Int), (0 : Int), (0 : Int)) l x4.2.2).2).1, (((nth ((0 : Int), (0 : Int), (0 : Int), (0 : Int), (0 : Int)) l x4.2.2).2).2).1, v4, ((((nth ((0 : Int), (0 : Int), (0 : Int), (0 : Int), (0 : Int)) l x4.2.2).2).2).2).2), IntKind.wrap .i64 (x4.2.2 + 1)))
                  else
                    (vmfleetref35_Poorer.f x4.2.1 ((nth ((0 : Int), (0 : Int), (0 : Int), (0 : Int), (0 : Int)) l x4.2.2).1, ((nth ((0 : Int), (0 : Int), (0 : Int), (0 : Int), (0 : Int)) l x4.2.2).2).1, (((nth ((0 : Int), (0 : Int), (0 : Int), (0 : Int), (0 : Int)) l x4.2.2).2).2).1, v4, ((((nth ((0 : Int), (0 : Int), (0 : Int), (0 : Int), (0 : Int)) l x4.2.2).2).2).2).2) t).bind fun r3 =>
                    bif r3 then
                      some (.inl (x4.2.2, ((nth ((0 : Int), (0 : Int), (0 : Int), (0 : Int), (0 : Int)) l x4.2.2).1, ((nth ((0 : Int), (0 : Int), (0 : Int), (0 : Int), (0 : Int)) l x4.2.2).2).1, (((nth ((0 : Int), (0 : Int), (0 : Int), (0 : Int), (0 : Int)) l x4.2.2).2).2).1, v4, ((((nth ((0 : Int), (0 : Int), (0 : Int), (0 : Int), (0 : Int)) l x4.2.2).2).2).2).2), IntKind.wrap .i64 (x4.2.2 + 1)))
                    else
                      some (.inl (x4.1, x4.2.1, IntKind.wrap .i64 (x4.2.2 + 1)))
                else
                  some (.inl (x4.1, x4.2.1, IntKind.wrap .i64 (x4.2.2 + 1)))
              else none
            else none
          else none
        else none
      else
        some (.inr (.inl x4.1))) ((-1 : Int), ((0 : Int), (0 : Int), (0 : Int), (0 : Int), (0 : Int)), (0 : Int))).bind fun o => match o with
    | .inl y5 =>
      bif decide (y5 < 0) then
        some (.inr (.inl x3.1))
      else
        if 0 ≤ y5 ∧ y5 < (x3.1.length : Int) then
          if 0 ≤ y5 ∧ y5 < (x3.1.length : Int) then
            some (.inl (put x3.1 y5 (IntKind.wrap .i64 ((nth (0 : Int) x3.1 y5) + 1)), IntKind.wrap .i64 (x3.2 - 1)))
          else none
        else none
    | .inr r => some r
  else
    some (.inr (.inl x3.1))) (p, (n : Int))) = some (.inl (grants l t p n)) := by
  rw [← outerI_eq hl hp ht h8 n hn]
  congr 1
  funext x
  have : ∀ (u v : Int × (Int × Int × Int × Int × Int) × Int → Option ((Int × (Int × Int × Int × Int × Int) × Int) ⊕ ((Int) ⊕ ((List Int × Int) ⊕ ((List Int) ⊕ (List Int × Bool)))))) (s : Int × (Int × Int × Int × Int × Int) × Int) (K : (Int) ⊕ ((List Int × Int) ⊕ ((List Int) ⊕ (List Int × Bool))) → Option ((List Int × Int) ⊕ ((List Int) ⊕ (List Int × Bool)))) (b : Bool) (z : Option ((List Int × Int) ⊕ ((List Int) ⊕ (List Int × Bool)))), u = v → (bif b then (loop u s).bind K else z) = (bif b then (loop v s).bind K else z) := by
    rintro u v s K b z rfl; rfl
  refine this _ _ _ _ _ _ ?_
  funext y
  by_cases c1 : y.2.2 < (l.length : Int)
  case neg => rw [decide_eq_false c1]; rfl
  by_cases c2 : 0 ≤ y.2.2 ∧ y.2.2 < (l.length : Int)
  case neg => rw [decide_eq_true c1, cond_true, cond_true, if_neg c2, if_neg c2]
  simp only [c2, and_self, if_true]
  rfl

theorem take_fst {l : List Clm} {i : Nat} (hi : i < l.length) : (l.take (i + 1)).map (·.1) = (l.take i).map (·.1) ++ [cl(l, i).1] := by
  rw [List.take_add_one, List.getElem?_eq_getElem hi, List.map_append]
  have : cl(l, i) = l[i] := nth_some (List.getElem?_eq_getElem hi)
  rw [this]; rfl

theorem firstI_ok {l : List Clm} {t total : Int} (hl : okL l) (h8 : l.length ≤ 8) (h0 : 0 ≤ total) (h96 : total ≤ 96) : (loop (Y := (List Int × Int) ⊕ (List Int × Bool)) (fun (x1 : List Int × Int × Int) =>
  bif decide (x1.2.2 < (l.length : Int)) then
    if 0 ≤ x1.2.2 ∧ x1.2.2 < (l.length : Int) then
      (idletax_Valid.f ((nth ((0 : Int), (0 : Int), (0 : Int), (0 : Int), (0 : Int)) l x1.2.2).1, ((nth ((0 : Int), (0 : Int), (0 : Int), (0 : Int), (0 : Int)) l x1.2.2).2).1, (((nth ((0 : Int), (0 : Int), (0 : Int), (0 : Int), (0 : Int)) l x1.2.2).2).2).1, ((((nth ((0 : Int), (0 : Int), (0 : Int), (0 : Int), (0 : Int)) l x1.2.2).2).2).2))).bind fun r2 =>
      bif !r2 then
        some (.inr (.inr ([], false)))
      else
        if (x1.1.length + ([(nth ((0 : Int), (0 : Int), (0 : Int), (0 : Int), (0 : Int)) l x1.2.2).1] : List Int).length) * 8 ≤ 70368744177664 then
          some (.inl ((x1.1 ++ ([(nth ((0 : Int), (0 : Int), (0 : Int), (0 : Int), (0 : Int)) l x1.2.2).1] : List Int)), (IntKind.wrap .i64 (x1.2.1 - ((nth ((0 : Int), (0 : Int), (0 : Int), (0 : Int), (0 : Int)) l x1.2.2).1))), IntKind.wrap .i64 (x1.2.2 + 1)))
        else none
    else none
  else
    some (.inr (.inl (x1.1, x1.2.1)))) ([], total, (0 : Int))) = some (.inl (start l, total - reserve l l.length)) := by
  have e : start l = (l.take l.length).map (·.1) := by rw [List.take_length]; rfl
  rw [e]
  refine loop_from (([] : List Int), total, (0 : Int)) (fun i : Nat => ((l.take i).map (·.1), total - reserve l i, (i : Int))) l.length (Sum.inl ((l.take l.length).map (·.1), total - reserve l l.length)) (by rw [show reserve l 0 = 0 from rfl, Int.sub_zero]; rfl) (fun i hi => ?_) ?_
  · have b1 : (i : Int) < l.length := by omega
    have b2 : 0 ≤ (i : Int) ∧ (i : Int) < l.length := by omega
    have b3 : IntKind.wrap .i64 ((i : Int) + 1) = ((i + 1 : Nat) : Int) := by rw [wrap_i64 (by omega) (by omega)]; omega
    have hc := hl i hi
    have hs : (((l.take i).map (·.1)).length + ([cl(l, i).1] : List Int).length) * 8 ≤ 70368744177664 := by
      rw [List.length_map, List.length_take]; simp; omega
    have hr := reserve_pos hl (i := i) (by omega)
    have hr2 := reserve_le hl (i := i) (by omega)
    have hc3 := hc.2.2.1
    have hc2 := hc.2.1
    have hc1 := hc.1
    have b4 : IntKind.wrap .i64 (total - reserve l i - cl(l, i).1) = total - reserve l (i + 1) := by
      rw [wrap_i64 (by omega) (by omega)]
      show _ = total - (reserve l i + cl(l, i).1)
      omega
    simp only [eta5, b1, decide_true, cond_true, b2, and_self, if_true, valid_eq, Option.bind_some, b3, b4, hc, Bool.not_true, cond_false]
    rw [if_pos hs, take_fst hi]
  · have : ¬ (l.length : Int) < l.length := by omega
    simp only [this, decide_false, cond_false]

theorem firstI_bad {l : List Clm} {t total : Int} (hl : ¬ okL l) (h8 : l.length ≤ 8) : (loop (Y := (List Int × Int) ⊕ (List Int × Bool)) (fun (x1 : List Int × Int × Int) =>
  bif decide (x1.2.2 < (l.length : Int)) then
    if 0 ≤ x1.2.2 ∧ x1.2.2 < (l.length : Int) then
      (idletax_Valid.f ((nth ((0 : Int), (0 : Int), (0 : Int), (0 : Int), (0 : Int)) l x1.2.2).1, ((nth ((0 : Int), (0 : Int), (0 : Int), (0 : Int), (0 : Int)) l x1.2.2).2).1, (((nth ((0 : Int), (0 : Int), (0 : Int), (0 : Int), (0 : Int)) l x1.2.2).2).2).1, ((((nth ((0 : Int), (0 : Int), (0 : Int), (0 : Int), (0 : Int)) l x1.2.2).2).2).2))).bind fun r2 =>
      bif !r2 then
        some (.inr (.inr ([], false)))
      else
        if (x1.1.length + ([(nth ((0 : Int), (0 : Int), (0 : Int), (0 : Int), (0 : Int)) l x1.2.2).1] : List Int).length) * 8 ≤ 70368744177664 then
          some (.inl ((x1.1 ++ ([(nth ((0 : Int), (0 : Int), (0 : Int), (0 : Int), (0 : Int)) l x1.2.2).1] : List Int)), (IntKind.wrap .i64 (x1.2.1 - ((nth ((0 : Int), (0 : Int), (0 : Int), (0 : Int), (0 : Int)) l x1.2.2).1))), IntKind.wrap .i64 (x1.2.2 + 1)))
        else none
    else none
  else
    some (.inr (.inl (x1.1, x1.2.1)))) ([], total, (0 : Int))) = some (.inr ([], false)) := by
  have key := loop_ind (I := fun x : List Int × Int × Int => ∃ i : Nat, i ≤ l.length ∧ x.2.2 = i ∧ x.1.length = i ∧ ∀ j : Nat, j < i → okC cl(l, j)) (Q := fun y : (List Int × Int) ⊕ (List Int × Bool) => y = .inr ([], false)) (fun x => ((l.length : Int) - x.2.2).toNat) (x := ([], total, (0 : Int))) ⟨0, Nat.zero_le _, rfl, rfl, fun j hj => by omega⟩ (step := (fun (x1 : List Int × Int × Int) =>
  bif decide (x1.2.2 < (l.length : Int)) then
    if 0 ≤ x1.2.2 ∧ x1.2.2 < (l.length : Int) then
      (idletax_Valid.f ((nth ((0 : Int), (0 : Int), (0 : Int), (0 : Int), (0 : Int)) l x1.2.2).1, ((nth ((0 : Int), (0 : Int), (0 : Int), (0 : Int), (0 : Int)) l x1.2.2).2).1, (((nth ((0 : Int), (0 : Int), (0 : Int), (0 : Int), (0 : Int)) l x1.2.2).2).2).1, ((((nth ((0 : Int), (0 : Int), (0 : Int), (0 : Int), (0 : Int)) l x1.2.2).2).2).2))).bind fun r2 =>
      bif !r2 then
        some (.inr (.inr ([], false)))
      else
        if (x1.1.length + ([(nth ((0 : Int), (0 : Int), (0 : Int), (0 : Int), (0 : Int)) l x1.2.2).1] : List Int).length) * 8 ≤ 70368744177664 then
          some (.inl ((x1.1 ++ ([(nth ((0 : Int), (0 : Int), (0 : Int), (0 : Int), (0 : Int)) l x1.2.2).1] : List Int)), (IntKind.wrap .i64 (x1.2.1 - ((nth ((0 : Int), (0 : Int), (0 : Int), (0 : Int), (0 : Int)) l x1.2.2).1))), IntKind.wrap .i64 (x1.2.2 + 1)))
        else none
    else none
  else
    some (.inr (.inl (x1.1, x1.2.1))))) ?h
  · obtain ⟨y, h1, h2⟩ := key
    rw [h1, h2]
  case h =>
    rintro ⟨p, r, x⟩ ⟨i, hi, rfl, hp, hok⟩
    dsimp only
    by_cases c1 : (i : Int) < l.length
    · have b2 : 0 ≤ (i : Int) ∧ (i : Int) < l.length := by omega
      have b3 : IntKind.wrap .i64 ((i : Int) + 1) = ((i + 1 : Nat) : Int) := by rw [wrap_i64 (by omega) (by omega)]; omega
      have hs : (p.length + ([cl(l, i).1] : List Int).length) * 8 ≤ 70368744177664 := by
        dsimp only at hp
        rw [hp]; simp; omega
      simp only [eta5, c1, decide_true, cond_true, b2, and_self, if_true, valid_eq, Option.bind_some, b3]
      by_cases hc : okC cl(l, i)
      · left
        rw [decide_eq_true hc, Bool.not_true, cond_false, if_pos hs]
        refine ⟨_, rfl, ⟨i + 1, by omega, rfl, ?_, fun j hj => ?_⟩, ?_⟩
        · dsimp only at hp ⊢
          rw [List.length_append, hp]; rfl
        · by_cases hji : j = i
          · subst hji; exact hc
          · exact hok j (by omega)
        · dsimp only; omega
      · right
        rw [decide_eq_false hc]
        exact ⟨_, rfl, rfl⟩
    · exact absurd (fun j hj => hok j (by omega)) hl

theorem firstR_ok {l : List Clm} {t total : Int} (hl : okL l) (h8 : l.length ≤ 8) (h0 : 0 ≤ total) (h96 : total ≤ 96) (hle : reserve l l.length ≤ total) : (loop (Y := (List Int × Int) ⊕ (List Int × Bool)) (fun (x1 : List Int × Int × Int) =>
  bif decide (x1.2.2 < (l.length : Int)) then
    if 0 ≤ x1.2.2 ∧ x1.2.2 < (l.length : Int) then
      (vmfleetref35_ValidClaim.f ((nth ((0 : Int), (0 : Int), (0 : Int), (0 : Int), (0 : Int)) l x1.2.2).1, ((nth ((0 : Int), (0 : Int), (0 : Int), (0 : Int), (0 : Int)) l x1.2.2).2).1, (((nth ((0 : Int), (0 : Int), (0 : Int), (0 : Int), (0 : Int)) l x1.2.2).2).2).1, ((((nth ((0 : Int), (0 : Int), (0 : Int), (0 : Int), (0 : Int)) l x1.2.2).2).2).2))).bind fun r2 =>
      bif !r2 then
        some (.inr (.inr ([], false)))
      else
        if 0 ≤ x1.2.2 ∧ x1.2.2 < (l.length : Int) then
          bif (decide (((nth ((0 : Int), (0 : Int), (0 : Int), (0 : Int), (0 : Int)) l x1.2.2).1) > x1.2.1)) then
            some (.inr (.inr ([], false)))
          else
            if 0 ≤ x1.2.2 ∧ x1.2.2 < (l.length : Int) then
              if 0 ≤ x1.2.2 ∧ x1.2.2 < (l.length : Int) then
                if (x1.1.length + ([(nth ((0 : Int), (0 : Int), (0 : Int), (0 : Int), (0 : Int)) l x1.2.2).1] : List Int).length) * 8 ≤ 70368744177664 then
                  some (.inl ((x1.1 ++ ([(nth ((0 : Int), (0 : Int), (0 : Int), (0 : Int), (0 : Int)) l x1.2.2).1] : List Int)), (IntKind.wrap .i64 (x1.2.1 - ((nth ((0 : Int), (0 : Int), (0 : Int), (0 : Int), (0 : Int)) l x1.2.2).1))), IntKind.wrap .i64 (x1.2.2 + 1)))
                else none
              else none
            else none
        else none
    else none
  else
    some (.inr (.inl (x1.1, x1.2.1)))) ([], total, (0 : Int))) = some (.inl (start l, total - reserve l l.length)) := by
  have e : start l = (l.take l.length).map (·.1) := by rw [List.take_length]; rfl
  rw [e]
  refine loop_from (([] : List Int), total, (0 : Int)) (fun i : Nat => ((l.take i).map (·.1), total - reserve l i, (i : Int))) l.length (Sum.inl ((l.take l.length).map (·.1), total - reserve l l.length)) (by rw [show reserve l 0 = 0 from rfl, Int.sub_zero]; rfl) (fun i hi => ?_) ?_
  · have b1 : (i : Int) < l.length := by omega
    have b2 : 0 ≤ (i : Int) ∧ (i : Int) < l.length := by omega
    have b3 : IntKind.wrap .i64 ((i : Int) + 1) = ((i + 1 : Nat) : Int) := by rw [wrap_i64 (by omega) (by omega)]; omega
    have hc := hl i hi
    have hs : (((l.take i).map (·.1)).length + ([cl(l, i).1] : List Int).length) * 8 ≤ 70368744177664 := by
      rw [List.length_map, List.length_take]; simp; omega
    have hr := reserve_pos hl (i := i) (by omega)
    have hr1 := reserve_pos hl (i := i + 1) (by omega)
    have e1 : reserve l (i + 1) = reserve l i + cl(l, i).1 := rfl
    have hc3 := hc.2.2.1
    have hc2 := hc.2.1
    have hc1 := hc.1
    have b4 : IntKind.wrap .i64 (total - reserve l i - cl(l, i).1) = total - reserve l (i + 1) := by
      rw [wrap_i64 (by omega) (by omega)]
      omega
    have b5 : ¬ cl(l, i).1 > total - reserve l i := by omega
    have ev : ∀ c : Clm, vmfleetref35_ValidClaim.f c = some (decide (okC c)) := fun c => valid_eq c
    simp only [eta5, b1, decide_true, cond_true, b2, and_self, if_true, ev, Option.bind_some, b3, b4, hc, Bool.not_true, cond_false, b5, decide_false]
    rw [if_pos hs, take_fst hi]
  · have : ¬ (l.length : Int) < l.length := by omega
    simp only [this, decide_false, cond_false]

theorem firstR_bad {l : List Clm} {t total : Int} (hl : ¬ (okL l ∧ reserve l l.length ≤ total)) (h8 : l.length ≤ 8) (h0 : 0 ≤ total) (h96 : total ≤ 96) : (loop (Y := (List Int × Int) ⊕ (List Int × Bool)) (fun (x1 : List Int × Int × Int) =>
  bif decide (x1.2.2 < (l.length : Int)) then
    if 0 ≤ x1.2.2 ∧ x1.2.2 < (l.length : Int) then
      (vmfleetref35_ValidClaim.f ((nth ((0 : Int), (0 : Int), (0 : Int), (0 : Int), (0 : Int)) l x1.2.2).1, ((nth ((0 : Int), (0 : Int), (0 : Int), (0 : Int), (0 : Int)) l x1.2.2).2).1, (((nth ((0 : Int), (0 : Int), (0 : Int), (0 : Int), (0 : Int)) l x1.2.2).2).2).1, ((((nth ((0 : Int), (0 : Int), (0 : Int), (0 : Int), (0 : Int)) l x1.2.2).2).2).2))).bind fun r2 =>
      bif !r2 then
        some (.inr (.inr ([], false)))
      else
        if 0 ≤ x1.2.2 ∧ x1.2.2 < (l.length : Int) then
          bif (decide (((nth ((0 : Int), (0 : Int), (0 : Int), (0 : Int), (0 : Int)) l x1.2.2).1) > x1.2.1)) then
            some (.inr (.inr ([], false)))
          else
            if 0 ≤ x1.2.2 ∧ x1.2.2 < (l.length : Int) then
              if 0 ≤ x1.2.2 ∧ x1.2.2 < (l.length : Int) then
                if (x1.1.length + ([(nth ((0 : Int), (0 : Int), (0 : Int), (0 : Int), (0 : Int)) l x1.2.2).1] : List Int).length) * 8 ≤ 70368744177664 then
                  some (.inl ((x1.1 ++ ([(nth ((0 : Int), (0 : Int), (0 : Int), (0 : Int), (0 : Int)) l x1.2.2).1] : List Int)), (IntKind.wrap .i64 (x1.2.1 - ((nth ((0 : Int), (0 : Int), (0 : Int), (0 : Int), (0 : Int)) l x1.2.2).1))), IntKind.wrap .i64 (x1.2.2 + 1)))
                else none
              else none
            else none
        else none
    else none
  else
    some (.inr (.inl (x1.1, x1.2.1)))) ([], total, (0 : Int))) = some (.inr ([], false)) := by
  have key := loop_ind (I := fun x : List Int × Int × Int => ∃ i : Nat, i ≤ l.length ∧ x.2.2 = i ∧ x.1.length = i ∧ (∀ j : Nat, j < i → okC cl(l, j)) ∧ x.2.1 = total - reserve l i ∧ 0 ≤ reserve l i ∧ reserve l i ≤ total) (Q := fun y : (List Int × Int) ⊕ (List Int × Bool) => y = .inr ([], false)) (fun x => ((l.length : Int) - x.2.2).toNat) (x := ([], total, (0 : Int))) ⟨0, Nat.zero_le _, rfl, rfl, fun j hj => by omega, by show total = total - 0; omega, Int.le_refl 0, h0⟩ (step := (fun (x1 : List Int × Int × Int) =>
  bif decide (x1.2.2 < (l.length : Int)) then
    if 0 ≤ x1.2.2 ∧ x1.2.2 < (l.length : Int) then
      (vmfleetref35_ValidClaim.f ((nth ((0 : Int), (0 : Int), (0 : Int), (0 : Int), (0 : Int)) l x1.2.2).1, ((nth ((0 : Int), (0 : Int), (0 : Int), (0 : Int), (0 : Int)) l x1.2.2).2).1, (((nth ((0 : Int), (0 : Int), (0 : Int), (0 : Int), (0 : Int)) l x1.2.2).2).2).1, ((((nth ((0 : Int), (0 : Int), (0 : Int), (0 : Int), (0 : Int)) l x1.2.2).2).2).2))).bind fun r2 =>
      bif !r2 then
        some (.inr (.inr ([], false)))
      else
        if 0 ≤ x1.2.2 ∧ x1.2.2 < (l.length : Int) then
          bif (decide (((nth ((0 : Int), (0 : Int), (0 : Int), (0 : Int), (0 : Int)) l x1.2.2).1) > x1.2.1)) then
            some (.inr (.inr ([], false)))
          else
            if 0 ≤ x1.2.2 ∧ x1.2.2 < (l.length : Int) then
              if 0 ≤ x1.2.2 ∧ x1.2.2 < (l.length : Int) then
                if (x1.1.length + ([(nth ((0 : Int), (0 : Int), (0 : Int), (0 : Int), (0 : Int)) l x1.2.2).1] : List Int).length) * 8 ≤ 70368744177664 then
                  some (.inl ((x1.1 ++ ([(nth ((0 : Int), (0 : Int), (0 : Int), (0 : Int), (0 : Int)) l x1.2.2).1] : List Int)), (IntKind.wrap .i64 (x1.2.1 - ((nth ((0 : Int), (0 : Int), (0 : Int), (0 : Int), (0 : Int)) l x1.2.2).1))), IntKind.wrap .i64 (x1.2.2 + 1)))
                else none
              else none
            else none
        else none
    else none
  else
    some (.inr (.inl (x1.1, x1.2.1))))) ?h
  · obtain ⟨y, h1, h2⟩ := key
    rw [h1, h2]
  case h =>
    rintro ⟨p, r, x⟩ ⟨i, hi, rfl, hp, hok, hr, hr0, hr1⟩
    dsimp only at hp hr ⊢
    subst hr
    by_cases c1 : (i : Int) < l.length
    · have b2 : 0 ≤ (i : Int) ∧ (i : Int) < l.length := by omega
      have b3 : IntKind.wrap .i64 ((i : Int) + 1) = ((i + 1 : Nat) : Int) := by rw [wrap_i64 (by omega) (by omega)]; omega
      have hs : (p.length + ([cl(l, i).1] : List Int).length) * 8 ≤ 70368744177664 := by
        rw [hp]; simp; omega
      have ev : ∀ c : Clm, vmfleetref35_ValidClaim.f c = some (decide (okC c)) := fun c => valid_eq c
      have e1 : reserve l (i + 1) = reserve l i + cl(l, i).1 := rfl
      simp only [eta5, c1, decide_true, cond_true, b2, and_self, if_true, ev, Option.bind_some, b3]
      by_cases hc : okC cl(l, i)
      · rw [decide_eq_true hc, Bool.not_true, cond_false]
        have hc1 := hc.1
        have hc2 := hc.2.1
        have hc3 := hc.2.2.1
        by_cases c5 : cl(l, i).1 > total - reserve l i
        · right
          rw [decide_eq_true c5]
          exact ⟨_, rfl, rfl⟩
        · left
          rw [decide_eq_false c5, cond_false, if_pos hs, wrap_i64 (n := total - reserve l i - cl(l, i).1) (by omega) (by omega)]
          refine ⟨_, rfl, ⟨i + 1, by omega, rfl, ?_, fun j hj => ?_, ?_, ?_, ?_⟩, ?_⟩
          · dsimp only
            rw [List.length_append, hp]; rfl
          · by_cases hji : j = i
            · subst hji; exact hc
            · exact hok j (by omega)
          · dsimp only; omega
          · omega
          · omega
          · dsimp only; omega
      · right
        rw [decide_eq_false hc]
        exact ⟨_, rfl, rfl⟩
    · have : i = l.length := by omega
      subst this
      exact absurd ⟨hok, hr1⟩ hl

theorem targets_eq (l : List Clm) (total t : Int) : idletax_Targets.f l total t = some (targetsOf l total t) := by
  unfold idletax_Targets.f targetsOf
  by_cases a1 : (l.length : Int) > 8
  · rw [decide_eq_true a1, if_neg (fun hh => by have := hh.1; omega)]; rfl
  rw [decide_eq_false a1, cond_false]
  by_cases a2 : total < 0
  · rw [decide_eq_true a2, if_neg (fun hh => by have := hh.2.1; omega)]; rfl
  rw [decide_eq_false a2, cond_false]
  by_cases a3 : total > 96
  · rw [decide_eq_true a3, if_neg (fun hh => by have := hh.2.2.1; omega)]; rfl
  rw [decide_eq_false a3, cond_false, tax_eq, Option.bind_some]
  by_cases a4 : okT t
  case neg => rw [decide_eq_false a4, if_neg (fun hh => a4 hh.2.2.2.1)]; rfl
  rw [decide_eq_true a4, Bool.not_true, cond_false]
  by_cases a5 : okL l
  case neg => rw [firstI_bad (t := t) a5 (by omega), if_neg (fun hh => a5 hh.2.2.2.2.1)]; rfl
  rw [firstI_ok (t := t) a5 (by omega) (by omega) (by omega), Option.bind_some]
  dsimp only
  by_cases a6 : total - reserve l l.length < 0
  · rw [decide_eq_true a6, if_neg (fun hh => by have := hh.2.2.2.2.2; omega)]; rfl
  rw [decide_eq_false a6, cond_false, if_pos ⟨by omega, by omega, by omega, a4, a5, by omega⟩]
  obtain ⟨n, hn⟩ := Int.eq_ofNat_of_zero_le (show 0 ≤ total - reserve l l.length by omega)
  have hr := reserve_pos a5 (Nat.le_refl _)
  rw [hn]
  exact bind_of (outerI_eq a5 (start_ok a5) a4 (by omega) n (by omega)) rfl

theorem targetsR_eq (l : List Clm) (total t : Int) : vmfleetref35_Targets.f l total t = some (targetsOf l total t) := by
  unfold vmfleetref35_Targets.f targetsOf
  by_cases a1 : (l.length : Int) > 8
  · rw [decide_eq_true a1, if_neg (fun hh => by have := hh.1; omega)]; rfl
  rw [decide_eq_false a1, cond_false]
  by_cases a2 : total < 0
  · rw [decide_eq_true a2, if_neg (fun hh => by have := hh.2.1; omega)]; rfl
  rw [decide_eq_false a2, cond_false]
  by_cases a3 : total > 96
  · rw [decide_eq_true a3, if_neg (fun hh => by have := hh.2.2.1; omega)]; rfl
  have et : vmfleetref35_taxed.f t = some (decide (okT t)) := tax_eq t
  rw [decide_eq_false a3, cond_false, et, Option.bind_some]
  by_cases a4 : okT t
  case neg => rw [decide_eq_false a4, if_neg (fun hh => a4 hh.2.2.2.1)]; rfl
  rw [decide_eq_true a4, Bool.not_true, cond_false]
  by_cases a5 : okL l ∧ reserve l l.length ≤ total
  case neg => rw [firstR_bad (t := t) a5 (by omega) (by omega) (by omega), if_neg (fun hh => a5 hh.2.2.2.2)]; rfl
  obtain ⟨a5, a6⟩ := a5
  rw [firstR_ok (t := t) a5 (by omega) (by omega) (by omega) a6, Option.bind_some]
  dsimp only
  rw [if_pos ⟨by omega, by omega, by omega, a4, a5, a6⟩]
  obtain ⟨n, hn⟩ := Int.eq_ofNat_of_zero_le (show 0 ≤ total - reserve l l.length by omega)
  have hr := reserve_pos a5 (Nat.le_refl _)
  rw [hn]
  exact bind_of (outerR_eq a5 (start_ok a5) a4 (by omega) n (by omega)) rfl

theorem sameInts_self (a : List Int) (hl : a.length ≤ 1000000) : vmfleetref1_SameInts.f a a = some true := by
  unfold vmfleetref1_SameInts.f
  simp only [decide_true, Bool.not_true, cond_false]
  rw [loop_all a (fun _ => true) (.inr false) (.inl ()) ?h1 ?h2]
  · simp
  case h1 =>
    intro i x hx
    have hi := idx_lt hx
    have hb : 0 ≤ (i : Int) ∧ (i : Int) < a.length := ⟨by omega, hi⟩
    simp only [hi, decide_true, cond_true, hb, and_self, if_true, Bool.not_true, cond_false]
    rw [wrap_i64 (n := (i : Int) + 1) (by omega) (by omega)]
  case h2 => simp

theorem targetsOf_len (l : List Clm) (total t : Int) : (targetsOf l total t).1.length ≤ 8 := by
  unfold targetsOf
  split
  · rename_i h
    show (grants l t (start l) _).length ≤ 8
    rw [(grants_ok h.2.2.2.2.1 (start_ok h.2.2.2.2.1) h.2.2.2.1 _).1]
    exact h.1
  · exact Nat.zero_le _

end Go.Proofs.Ytdpldckcbdeojaa.Fn
