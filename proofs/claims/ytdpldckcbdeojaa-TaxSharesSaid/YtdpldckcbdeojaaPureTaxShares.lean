/- The law TaxShares, in plain Lean: at every input its function is true. -/
import Derived.Test.YtdpldckcbdeojaaPureTaxDivides
set_option linter.unusedVariables false
set_option linter.unusedSimpArgs false
namespace Go.Proofs.Ytdpldckcbdeojaa.Fn
open Go Lift

local notation "cl(" l ", " i ")" => nth ((0 : Int), (0 : Int), (0 : Int), (0 : Int), (0 : Int)) l i

/-- Of two guests of which the second pays no more for a page: the second has no fewer, but for one page where both pay the same. -/
theorem shares_inv {l : List Clm} {t : Int} (hl : okL l) (ht : okT t) {i j : Nat} (hi : i < l.length) (hj : j < l.length) (hij : i ≠ j) (hr : cl(l, i).1 = cl(l, j).1) (hL : cl(l, i).2.1 = cl(l, j).2.1)
    (hK : price cl(l, j).2.2.2.2 t * cl(l, i).2.2.1 ≤ price cl(l, i).2.2.2.2 t * cl(l, j).2.2.1) (E : Prop) (hE : price cl(l, j).2.2.2.2 t * cl(l, i).2.2.1 = price cl(l, i).2.2.2.2 t * cl(l, j).2.2.1 → E) :
    ∀ k : Nat, nth (0 : Int) (grants l t (start l) k) i ≤ nth (0 : Int) (grants l t (start l) k) j ∨ (E ∧ nth (0 : Int) (grants l t (start l) k) i = nth (0 : Int) (grants l t (start l) k) j + 1) := by
  intro k
  induction k with
  | zero =>
    left
    show nth (0 : Int) (start l) i ≤ nth (0 : Int) (start l) j
    rw [start_nth hi, start_nth hj]
    omega
  | succ k ih =>
    have hp := grants_ok hl (start_ok hl) ht k
    show nth (0 : Int) (grant l t (grants l t (start l) k)) i ≤ nth (0 : Int) (grant l t (grants l t (start l) k)) j ∨ (E ∧ nth (0 : Int) (grant l t (grants l t (start l) k)) i = nth (0 : Int) (grant l t (grants l t (start l) k)) j + 1)
    generalize grants l t (start l) k = p at *
    rcases grant_spec hl hp ht with ⟨h1, h2, h3⟩ | ⟨m, h1, h2, h3, h4, h5, h6⟩
    · rw [h2]; exact ih
    · rw [h6, h6]
      by_cases c1 : i = m
      · subst c1
        rw [if_pos rfl, if_neg (fun hh => hij hh.symm)]
        by_cases c2 : nth (0 : Int) p i < nth (0 : Int) p j
        · left; omega
        · have hpi := hp.2 i hi
          have hpj := hp.2 j hj
          have hci := hl i hi
          have hcj := hl j hj
          have hle := h4 j hj (by omega)
          unfold rle costOf cand at hle
          dsimp only at hle
          have pr := price_range (a := cl(l, j).2.2.2.2) (t := t) hcj.2.2.2.2.2.2.2.1 hcj.2.2.2.2.2.2.2.2 ht
          have Kpos : 0 < price cl(l, j).2.2.2.2 t * cl(l, i).2.2.1 := Int.mul_pos (by omega) (by have := hci.2.2.2.1; omega)
          rw [Int.mul_assoc, Int.mul_assoc] at hle
          have i1 := hci.1
          have j1 := hcj.1
          generalize price cl(l, j).2.2.2.2 t * cl(l, i).2.2.1 = Kb at *
          generalize price cl(l, i).2.2.2.2 t * cl(l, j).2.2.1 = Ka at *
          generalize nth (0 : Int) p i = x at *
          generalize nth (0 : Int) p j = y at *
          have g1 : (x + 1) * Kb ≤ (x + 1) * Ka := Int.mul_le_mul_of_nonneg_left hK (by omega)
          have g2 : x = y := by
            refine Classical.byContradiction fun hne => ?_
            have g3 : (y + 1) * Kb < (x + 1) * Kb := Int.mul_lt_mul_of_pos_right (by omega) Kpos
            omega
          subst g2
          right
          refine ⟨hE ?_, rfl⟩
          have g4 : Ka ≤ Kb := Int.le_of_mul_le_mul_left hle (by omega)
          omega
      · rw [if_neg c1]
        by_cases c2 : j = m
        · subst c2
          rw [if_pos rfl]
          left
          rcases ih with h | h
          · omega
          · omega
        · rw [if_neg c2]; exact ih

theorem shares_end {cs : List Clm} {a b : Clm} {T t : Int} (h3 : okL cs) (h6 : cs.length ≤ 6) (ha : okC a) (hb : okC b) (hr : a.1 = b.1) (hL : a.2.1 = b.2.1) (T0 : 0 ≤ T) (T1 : T ≤ 96) (ht : okT t)
    (hK : price b.2.2.2.2 t * a.2.2.1 ≤ price a.2.2.2.2 t * b.2.2.1) (E : Prop) (hE : price b.2.2.2.2 t * a.2.2.1 = price a.2.2.2.2 t * b.2.2.1 → E) :
    (targetsOf (cs ++ [a, b]) T t).2 = true → ((targetsOf (cs ++ [a, b]) T t).1.length : Int) = cs.length + 2 ∧ 0 ≤ nth (0 : Int) (targetsOf (cs ++ [a, b]) T t).1 ((cs.length : Int) + 1) ∧ nth (0 : Int) (targetsOf (cs ++ [a, b]) T t).1 ((cs.length : Int) + 1) ≤ 96 ∧
      (nth (0 : Int) (targetsOf (cs ++ [a, b]) T t).1 (cs.length : Int) ≤ nth (0 : Int) (targetsOf (cs ++ [a, b]) T t).1 ((cs.length : Int) + 1) ∨ (E ∧ nth (0 : Int) (targetsOf (cs ++ [a, b]) T t).1 (cs.length : Int) = nth (0 : Int) (targetsOf (cs ++ [a, b]) T t).1 ((cs.length : Int) + 1) + 1)) := by
  have el : cs ++ [a, b] = (cs ++ [a]) ++ [b] := by simp
  have hok : okL (cs ++ [a, b]) := by rw [el]; exact okL_snoc (okL_snoc h3 ha) hb
  have hlen : (cs ++ [a, b]).length = cs.length + 2 := by simp
  have n1 : nth ((0 : Int), (0 : Int), (0 : Int), (0 : Int), (0 : Int)) (cs ++ [a, b]) (cs.length : Int) = a := by
    rw [el, nth_snoc (by simp), if_neg (by simp), nth_snoc (Nat.le_refl _), if_pos rfl]
  have n2 : nth ((0 : Int), (0 : Int), (0 : Int), (0 : Int), (0 : Int)) (cs ++ [a, b]) ((cs.length + 1 : Nat) : Int) = b := by
    rw [el, nth_snoc (by simp), if_pos (by simp)]
  generalize cs ++ [a, b] = l at *
  rw [targets_valid hok (by omega) T0 T1 ht]
  by_cases hres : reserve l l.length ≤ T
  · rw [if_pos hres]
    intro _
    have hp := grants_ok hok (start_ok hok) ht (T - reserve l l.length).toNat
    have hs := shares_inv hok ht (i := cs.length) (j := cs.length + 1) (by omega) (by omega) (by omega) (by rw [n1, n2]; exact hr) (by rw [n1, n2]; exact hL) (by rw [n1, n2]; exact hK) E (by rw [n1, n2]; exact hE) (T - reserve l l.length).toNat
    generalize grants l t (start l) (T - reserve l l.length).toNat = p at *
    dsimp only
    have hq := hp.2 (cs.length + 1) (by omega)
    rw [n2] at hq
    have e : ((cs.length + 1 : Nat) : Int) = (cs.length : Int) + 1 := by omega
    rw [e] at hq hs
    have hb1 := hb.1
    have hb3 := hb.2.2.1
    refine ⟨by rw [hp.1, hlen]; omega, by omega, by omega, hs⟩
  · rw [if_neg hres]
    intro h; cases h

theorem shares_fin {cs : List Clm} {a b : Clm} {T t : Int} {n : Int} (hn : n = cs.length) (h3 : okL cs) (h6 : cs.length ≤ 6) (ha : okC a) (hb : okC b) (hr : a.1 = b.1) (hL : a.2.1 = b.2.1) (T0 : 0 ≤ T) (T1 : T ≤ 96) (ht : okT t)
    (hK : price b.2.2.2.2 t * a.2.2.1 ≤ price a.2.2.2.2 t * b.2.2.1) (active : Bool) (hE : price b.2.2.2.2 t * a.2.2.1 = price a.2.2.2.2 t * b.2.2.1 → a = b ∨ (active = true ∧ t = 0)) :
    (if (cs.length + ([a, b] : List Clm).length) * 40 ≤ 70368744177664 then
        (some t).bind fun r6 => (some T).bind fun r7 => (idletax_Targets.f (cs ++ ([a, b] : List (Int × Int × Int × Int × Int))) r7 r6).bind fun r8 =>
        bif !r8.2 then
          (some true).bind fun r9 =>
          some r9
        else
          (bif decide (a = b) then
            some (.inl true)
          else
            bif active then
              some (.inl (decide (r6 = 0)))
            else
              some (.inl false) : Option ((Bool) ⊕ (Bool))).bind fun o => match o with
          | .inl y2 =>
            bif decide ((r8.1.length : Int) = (IntKind.wrap .i64 (n + 2))) then
              if 0 ≤ (IntKind.wrap .i64 (n + 1)) ∧ (IntKind.wrap .i64 (n + 1)) < (r8.1.length : Int) then
                if 0 ≤ n ∧ n < (r8.1.length : Int) then
                  bif decide ((nth (0 : Int) r8.1 (IntKind.wrap .i64 (n + 1))) ≥ (nth (0 : Int) r8.1 n)) then
                    (some true).bind fun r10 =>
                    some r10
                  else
                    bif y2 then
                      if 0 ≤ n ∧ n < (r8.1.length : Int) then
                        if 0 ≤ (IntKind.wrap .i64 (n + 1)) ∧ (IntKind.wrap .i64 (n + 1)) < (r8.1.length : Int) then
                          bif (decide ((nth (0 : Int) r8.1 n) = (IntKind.wrap .i64 ((nth (0 : Int) r8.1 (IntKind.wrap .i64 (n + 1))) + 1)))) then
                            (some true).bind fun r11 =>
                            some r11
                          else
                            some false
                        else none
                      else none
                    else
                      some false
                else none
              else none
            else
              some false
          | .inr r => some r
      else none) = some true := by
  subst hn
  have hs : (cs.length + ([a, b] : List Clm).length) * 40 ≤ 70368744177664 := by simp; omega
  rw [if_pos hs, Option.bind_some, Option.bind_some, targets_eq, Option.bind_some]
  have key := shares_end h3 h6 ha hb hr hL T0 T1 ht hK (a = b ∨ (active = true ∧ t = 0)) hE
  generalize targetsOf (cs ++ [a, b]) T t = r at key ⊢
  obtain ⟨p, ok⟩ := r
  cases ok with
  | false => rfl
  | true =>
    obtain ⟨k1, k2, k3, k4⟩ := key rfl
    dsimp only at k1 k2 k3 k4 ⊢
    have w2 : IntKind.wrap .i64 ((cs.length : Int) + 2) = (cs.length : Int) + 2 := wrap_i64 (by omega) (by omega)
    have w1 : IntKind.wrap .i64 ((cs.length : Int) + 1) = (cs.length : Int) + 1 := wrap_i64 (by omega) (by omega)
    have b1 : 0 ≤ (cs.length : Int) + 1 ∧ (cs.length : Int) + 1 < (p.length : Int) := by omega
    have b2 : 0 ≤ (cs.length : Int) ∧ (cs.length : Int) < (p.length : Int) := by omega
    have w3 : IntKind.wrap .i64 (nth (0 : Int) p ((cs.length : Int) + 1) + 1) = nth (0 : Int) p ((cs.length : Int) + 1) + 1 := wrap_i64 (by omega) (by omega)
    rw [Bool.not_true, cond_false, w1, w2, w3]
    by_cases c : nth (0 : Int) p ((cs.length : Int) + 1) ≥ nth (0 : Int) p (cs.length : Int)
    · have fin : ∀ y2 : Bool, (bif decide ((p.length : Int) = (cs.length : Int) + 2) then
              if 0 ≤ (cs.length : Int) + 1 ∧ (cs.length : Int) + 1 < (p.length : Int) then
                if 0 ≤ (cs.length : Int) ∧ (cs.length : Int) < (p.length : Int) then
                  bif decide ((nth (0 : Int) p ((cs.length : Int) + 1)) ≥ (nth (0 : Int) p (cs.length : Int))) then
                    (some true).bind fun r10 =>
                    some r10
                  else
                    bif y2 then
                      if 0 ≤ (cs.length : Int) ∧ (cs.length : Int) < (p.length : Int) then
                        if 0 ≤ (cs.length : Int) + 1 ∧ (cs.length : Int) + 1 < (p.length : Int) then
                          bif (decide ((nth (0 : Int) p (cs.length : Int)) = nth (0 : Int) p ((cs.length : Int) + 1) + 1)) then
                            (some true).bind fun r11 =>
                            some r11
                          else
                            some false
                        else none
                      else none
                    else
                      some false
                else none
              else none
            else
              some false) = some true := by
        intro y2
        rw [decide_eq_true k1, cond_true, if_pos b1, if_pos b2, decide_eq_true c]
        rfl
      cases decide (a = b)
      · cases active
        · exact fin _
        · exact fin _
      · exact fin _
    · obtain ⟨hEv, h2⟩ : (a = b ∨ (active = true ∧ t = 0)) ∧ nth (0 : Int) p (cs.length : Int) = nth (0 : Int) p ((cs.length : Int) + 1) + 1 := by
        rcases k4 with h | h
        · omega
        · exact h
      have ey : (bif decide (a = b) then
            some (.inl true)
          else
            bif active then
              some (.inl (decide (t = 0)))
            else
              some (.inl false) : Option ((Bool) ⊕ (Bool))) = some (.inl true) := by
        rcases hEv with h | ⟨h, h'⟩
        · rw [decide_eq_true h]; rfl
        · rw [h, decide_eq_true h']
          cases decide (a = b) <;> rfl
      rw [ey, Option.bind_some]
      dsimp only
      rw [decide_eq_true k1, cond_true, if_pos b1, if_pos b2, decide_eq_false c, cond_false, cond_true, if_pos b2, if_pos b1, decide_eq_true h2]
      rfl

theorem taxShares (l : List Int) (n total tax more : Int) (active : Bool) : vmfleetlaw37_TaxShares.f l n total tax more active = some true := by
  unfold vmfleetlaw37_TaxShares.f
  rw [vmfleetlaw37_awake.ok]
  by_cases hl : (l.length : Int) > 6
  · rw [decide_eq_true hl]; rfl
  rw [decide_eq_false hl, cond_false]
  obtain ⟨a, ea, ha⟩ := claim_ok n
  obtain ⟨cs, e1, e2, e3⟩ := claims_ok l (by omega)
  obtain ⟨m, em, m0, m1⟩ := round_ok more 1000 (by decide) (by decide)
  obtain ⟨T, e5, T0, T1⟩ := round_ok total 97 (by decide) (by decide)
  obtain ⟨t, e4, t0, t1⟩ := round_ok tax 100 (by decide) (by decide)
  have ht : okT t := ⟨t0, by omega⟩
  have ha0 := ha
  obtain ⟨h1, h2, h3, h4, h5, h6, h7, h8, h9⟩ := ha0
  rw [ea, Option.bind_some, em, e1, e5, e4]
  cases active with
  | true =>
    rw [cond_true, Option.bind_some, Option.bind_some]
    dsimp only
    rw [Option.bind_some, wrap_i64 (n := a.2.2.2.2 + m) (by omega) (by omega)]
    have hm : a.2.2.2.2 ≤ min 1000 (a.2.2.2.2 + m) ∧ min 1000 (a.2.2.2.2 + m) ≤ 1000 := by omega
    generalize min 1000 (a.2.2.2.2 + m) = z at hm ⊢
    have hb : okC (a.1, a.2.1, a.2.2.1, a.2.2.2.1, z) := ⟨h1, h2, h3, h4, h5, h6, h7, (by show 0 ≤ z; omega), hm.2⟩
    have hmul : a.2.2.2.2 * t ≤ z * t := Int.mul_le_mul_of_nonneg_right hm.1 t0
    refine shares_fin (by omega) e3 (by omega) ha hb rfl rfl T0 (by omega) ht ?_ true ?_
    · show price z t * a.2.2.1 ≤ price a.2.2.2.2 t * a.2.2.1
      exact Int.mul_le_mul_of_nonneg_right (by unfold price; omega) (by omega)
    · intro he
      have he : price z t * a.2.2.1 = price a.2.2.2.2 t * a.2.2.1 := he
      have he2 : price z t = price a.2.2.2.2 t := Int.eq_of_mul_eq_mul_right (by omega) he
      unfold price at he2
      have he3 : a.2.2.2.2 * t = z * t := by omega
      by_cases t0' : t = 0
      · right; exact ⟨rfl, t0'⟩
      · left
        have : a.2.2.2.2 = z := Int.eq_of_mul_eq_mul_right t0' he3
        rw [← this]
  | false =>
    rw [cond_false, Option.bind_some, Option.bind_some]
    dsimp only
    rw [Option.bind_some, wrap_i64 (n := a.2.2.1 + m) (by omega) (by omega)]
    have hm : a.2.2.1 ≤ min 1000 (a.2.2.1 + m) ∧ min 1000 (a.2.2.1 + m) ≤ 1000 := by omega
    generalize min 1000 (a.2.2.1 + m) = z at hm ⊢
    have hb : okC (a.1, a.2.1, z, a.2.2.2.1, a.2.2.2.2) := ⟨h1, h2, h3, (by show 1 ≤ z; omega), hm.2, h6, h7, h8, h9⟩
    have pr := price_range h8 h9 ht
    refine shares_fin (by omega) e3 (by omega) ha hb rfl rfl T0 (by omega) ht ?_ false ?_
    · show price a.2.2.2.2 t * a.2.2.1 ≤ price a.2.2.2.2 t * z
      exact Int.mul_le_mul_of_nonneg_left hm.1 (by omega)
    · intro he
      have he : price a.2.2.2.2 t * a.2.2.1 = price a.2.2.2.2 t * z := he
      left
      have : a.2.2.1 = z := Int.eq_of_mul_eq_mul_left (by omega) he
      rw [← this]

theorem vmfleetlaw37_TaxShares.pure (x : (tup vmfleetlaw37_TaxShares.sp.args).den) (h : WfL vmfleetlaw37_TaxShares.sp.args x) : vmfleetlaw37_TaxShares.sp.f x = some true :=
  taxShares x.1 x.2.1 x.2.2.1 x.2.2.2.1 x.2.2.2.2.1 x.2.2.2.2.2

end Go.Proofs.Ytdpldckcbdeojaa.Fn
