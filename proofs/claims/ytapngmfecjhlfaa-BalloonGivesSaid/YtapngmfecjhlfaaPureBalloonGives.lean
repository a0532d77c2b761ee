/- The law BalloonGives, in plain Lean: at every input its function is true. -/
import Derived.Test.YtapngmfecjhlfaaPureCh11
set_option linter.unusedVariables false
set_option linter.unusedSimpArgs false
namespace Go.Proofs.Ytapngmfecjhlfaa.Fn
open Go Lift

def pg (m : List Int) (p : Nat) : List Int := slc m ((p : Int) * 32) (((p : Int) + 1) * 32)

theorem pg_eq (m : List Int) (p : Nat) : pg m p = (m.take ((p + 1) * 32)).drop (p * 32) := by
  unfold pg slc
  rw [show (((p : Int) + 1) * 32).toNat = (p + 1) * 32 by omega, show ((p : Int) * 32).toNat = p * 32 by omega]

theorem pg_set (m : List Int) (v p : Nat) (s : ByteArray) (h : p ≠ v) : pg (setP m v s) p = pg m p := by
  rw [pg_eq, pg_eq]
  refine List.ext_getElem? fun j => ?_
  rw [List.getElem?_drop, List.getElem?_drop, List.getElem?_take, List.getElem?_take]
  by_cases hj : p * 32 + j < (p + 1) * 32
  · rw [if_pos hj, if_pos hj]
    unfold setP
    rw [setN_get, if_neg (by omega)]
  · rw [if_neg hj, if_neg hj]

theorem changed_eq {a b : List Int} {k : Nat} (ha : a.length = 32 * k) (hb : b.length = 32 * k) (hk : k ≤ 32) (v : Nat) (hs : ∀ p, p < k → p ≠ v → pg a p = pg b p) : ∃ c, vmfleetref1_Changed.f a b = some c ∧ (c = [] ∨ c = [(v : Int)]) ∧ (pg a v = pg b v → c = []) := by
  unfold vmfleetref1_Changed.f
  have e : (a.length : Int) = (b.length : Int) := by omega
  rw [decide_eq_true e, Bool.not_true, cond_false]
  have key := loop_ind (I := fun x : List Int × Int => 0 ≤ x.2 ∧ x.2 ≤ k ∧ (x.1 = [] ∨ (x.1 = [(v : Int)] ∧ (v : Int) < x.2)) ∧ (pg a v = pg b v → x.1 = [])) (Q := fun y : (List Int) ⊕ (List Int) => ∃ c, y = .inl c ∧ (c = [] ∨ c = [(v : Int)]) ∧ (pg a v = pg b v → c = [])) (fun x => ((k : Int) - x.2).toNat) (x := ([], (0 : Int))) ⟨Int.le_refl 0, by simp only; omega, .inl rfl, fun _ => rfl⟩ (step := (fun (x1 : List Int × Int) =>
    (vmfleetref1_Pages.f a).bind fun r1 =>
    bif decide (x1.2 < r1) then
      let v1 := IntKind.wrap .i64 ((IntKind.wrap .i64 (x1.2 + 1)) * 32)
      if 0 ≤ (IntKind.wrap .i64 (x1.2 * 32)) ∧ (IntKind.wrap .i64 (x1.2 * 32)) ≤ v1 ∧ v1 ≤ (a.length : Int) then
        let v2 := IntKind.wrap .i64 ((IntKind.wrap .i64 (x1.2 + 1)) * 32)
        if 0 ≤ (IntKind.wrap .i64 (x1.2 * 32)) ∧ (IntKind.wrap .i64 (x1.2 * 32)) ≤ v2 ∧ v2 ≤ (b.length : Int) then
          (vmfleetref1_SameWords.f (slc a (IntKind.wrap .i64 (x1.2 * 32)) v1) (slc b (IntKind.wrap .i64 (x1.2 * 32)) v2)).bind fun r2 =>
          bif !r2 then
            if (x1.1.length + ([x1.2] : List Int).length) * 8 ≤ 70368744177664 then
              some (.inl (x1.1 ++ ([x1.2] : List Int), IntKind.wrap .i64 (x1.2 + 1)))
            else none
          else
            some (.inl (x1.1, IntKind.wrap .i64 (x1.2 + 1)))
        else none
      else none
    else
      some (.inr (.inl x1.1)))) ?h
  · obtain ⟨y, h1, c, rfl, h2⟩ := key
    exact ⟨c, bind_of h1 rfl, h2⟩
  case h =>
    rintro ⟨c, x⟩ ⟨i1, i2, i3, i4⟩
    dsimp only at i1 i2 i3 i4 ⊢
    rw [pagesR_eq ha hk, Option.bind_some]
    by_cases hi : x < (k : Int)
    · left
      obtain ⟨p, rfl⟩ := Int.eq_ofNat_of_zero_le i1
      have w1 : IntKind.wrap .i64 ((p : Int) + 1) = (p : Int) + 1 := wrap_i64 (by omega) (by omega)
      have w2 : IntKind.wrap .i64 (((p : Int) + 1) * 32) = ((p : Int) + 1) * 32 := wrap_i64 (by omega) (by omega)
      have w3 : IntKind.wrap .i64 ((p : Int) * 32) = (p : Int) * 32 := wrap_i64 (by omega) (by omega)
      rw [decide_eq_true hi, cond_true, w1, w2, w3, if_pos (by omega), if_pos (by omega)]
      have e1 : slc a ((p : Int) * 32) (((p : Int) + 1) * 32) = pg a p := rfl
      have e2 : slc b ((p : Int) * 32) (((p : Int) + 1) * 32) = pg b p := rfl
      have la : (pg a p).length = 32 := by rw [pg_eq, List.length_drop, List.length_take]; omega
      have lb : (pg b p).length = 32 := by rw [pg_eq, List.length_drop, List.length_take]; omega
      rw [e1, e2]
      by_cases he : pg a p = pg b p
      · rw [he, sameWords_self _ (by omega), Option.bind_some]
        refine ⟨_, rfl, ⟨by simp only; omega, by simp only; omega, ?_, i4⟩, by simp only; omega⟩
        rcases i3 with i3 | i3
        · exact .inl i3
        · exact .inr ⟨i3.1, by simp only; omega⟩
      · have hpv : p = v := Classical.byContradiction fun hn => he (hs p (by omega) hn)
        subst hpv
        have hc : c = [] := by
          rcases i3 with i3 | i3
          · exact i3
          · omega
        subst hc
        obtain ⟨r, hr⟩ := sameWords_some (pg a p) (pg b p) (by omega) (by omega)
        rw [hr, Option.bind_some]
        cases r with
        | true => exact ⟨_, rfl, ⟨by simp only; omega, by simp only; omega, .inl rfl, fun _ => rfl⟩, by simp only; omega⟩
        | false =>
          rw [Bool.not_false, cond_true, if_pos (by simp)]
          exact ⟨_, rfl, ⟨by simp only; omega, by simp only; omega, .inr ⟨rfl, by simp only; omega⟩, fun hh => absurd hh he⟩, by simp only; omega⟩
    · right
      rw [decide_eq_false hi]
      refine ⟨_, rfl, c, rfl, ?_, i4⟩
      rcases i3 with i3 | i3
      · exact .inl i3
      · exact .inr i3.1

/-- What holds between the steps. -/
def inv11 (k : Nat) (m : List Int) (b : Bal) (gl : List Bool) : Prop := m.length = 32 * k ∧ ∃ g : Nat, b = (0, (g : Int)) ∧ g ≤ 4294967295 ∧ gl.length = 32 ∧ (∀ j : Nat, j < 32 → nth false gl j = g.testBit j) ∧ ∀ j : Nat, k ≤ j → g.testBit j = false

theorem may_ok {g k : Nat} (hk : k ≤ 8) (h : ∀ j : Nat, k ≤ j → g.testBit j = false) : balloon_May.f (0, (g : Int)) (k : Int) = some true := by
  unfold balloon_May.f
  have c1 : ¬ (k : Int) < 0 := by omega
  have c2 : ¬ (k : Int) ≥ 32 := by omega
  rw [decide_eq_false c1, cond_false, Option.bind_some]
  dsimp only
  rw [decide_eq_false c2, cond_false, if_pos (by omega), shr_nat (by omega), shr_zero_of h]
  rfl

theorem nth_put {α : Type} {d v : α} {p : List α} {j i : Nat} (h1 : j < p.length) : nth d (put p (j : Int) v) (i : Int) = if j = i then v else nth d p (i : Int) := by
  unfold nth put
  rw [Int.toNat_natCast, Int.toNat_natCast, List.getD_eq_getElem?_getD, List.getElem?_set]
  by_cases hij : j = i
  · subst hij
    rw [if_pos rfl, if_pos h1, if_pos rfl]; rfl
  · rw [if_neg hij, if_neg hij, List.getD_eq_getElem?_getD]

theorem count_loop {gl : List Bool} {g : Nat} (hl : gl.length = 32) (hb : ∀ j : Nat, j < 32 → nth false gl j = g.testBit j) : (loop (Y := (Int) ⊕ ((List Int × (Int × Int) × List Bool × Int) ⊕ ((Unit) ⊕ (Bool)))) (fun (x6 : Int × Int) =>
    bif decide (x6.2 < 32) then
      if 0 ≤ x6.2 ∧ x6.2 < (gl.length : Int) then
        bif nth false gl x6.2 then
          some (.inl (IntKind.wrap .i64 (x6.1 + 1), IntKind.wrap .i64 (x6.2 + 1)))
        else
          some (.inl (x6.1, IntKind.wrap .i64 (x6.2 + 1)))
      else none
    else
      some (.inr (.inl x6.1))) ((0 : Int), (0 : Int))) = some (.inl ((popB g 32 : Nat) : Int)) := by
  refine loop_from ((0 : Int), (0 : Int)) (fun i : Nat => (((popB g i : Nat) : Int), (i : Int))) 32 (Sum.inl ((popB g 32 : Nat) : Int)) rfl (fun i hi => ?_) rfl
  have b1 : (i : Int) < 32 := by omega
  have b2 : 0 ≤ (i : Int) ∧ (i : Int) < gl.length := by omega
  have hp := popB_le g i
  dsimp only
  rw [decide_eq_true b1, cond_true, if_pos b2, hb i hi, wrap_i64 (n := (i : Int) + 1) (by omega) (by omega), wrap_i64 (n := ((popB g i : Nat) : Int) + 1) (by omega) (by omega)]
  rw [show popB g (i + 1) = popB g i + (g.testBit i).toNat from rfl]
  cases g.testBit i <;> rfl

theorem balloonGives (n pages : Int) (l : List Int) : vmfleetlaw11_BalloonGives.f n pages l = some true := by
  unfold vmfleetlaw11_BalloonGives.f
  rw [vmfleetlaw11_awake.ok]
  by_cases hl : (l.length : Int) > 60
  · rw [decide_eq_true hl]; rfl
  rw [decide_eq_false hl, cond_false]
  obtain ⟨m0, k, e2, q1, q2, hm0, _⟩ := words11_ok n pages
  rw [e2, Option.bind_some, pagesR_eq hm0 (by omega), Option.bind_some]
  have key := loop_ind (I := fun x : List Int × (Int × Int) × List Bool × Int => inv11 k x.1 x.2.1 x.2.2.1 ∧ 0 ≤ x.2.2.2 ∧ x.2.2.2 ≤ (l.length : Int)) (Q := fun y : (Unit) ⊕ (Bool) => y = .inl ()) (fun x => ((l.length : Int) - x.2.2.2).toNat) (x := (m0, ((0 : Int), (0 : Int)), List.replicate 32 false, (0 : Int))) ⟨⟨hm0, 0, rfl, by decide, by simp, fun j hj => ?r0, fun j _ => Nat.zero_testBit j⟩, Int.le_refl 0, by simp only; omega⟩ (step := (fun (x1 : List Int × (Int × Int) × List Bool × Int) =>
    bif decide (x1.2.2.2 < (l.length : Int)) then
      if 0 ≤ x1.2.2.2 ∧ x1.2.2.2 < (l.length : Int) then
        (vmfleetmake_Round.f (shrI .i64 (nth (0 : Int) l x1.2.2.2) (1 : Int)) (10 : Int)).bind fun r4 =>
        if 0 ≤ x1.2.2.2 ∧ x1.2.2.2 < (l.length : Int) then
          let v2 := andI .i64 (nth (0 : Int) l x1.2.2.2) (1 : Int)
          (balloon_Out.f x1.2.1 x1.1 (IntKind.wrap .i64 (10 + v2)) (IntKind.wrap .u32 r4)).bind fun r5 =>
          (bif decide ((IntKind.wrap .i64 (10 + v2)) = 10) then
            bif decide (r4 < (k : Int)) then
              if 0 ≤ r4 ∧ r4 < (x1.2.2.1.length : Int) then
                some (.inl (!(nth false x1.2.2.1 r4)))
              else none
            else
              some (.inl false)
          else
            some (.inl false) : Option ((Bool) ⊕ ((List Int × (Int × Int) × List Bool × Int) ⊕ ((Unit) ⊕ (Bool))))).bind fun o => match o with
          | .inl y2 =>
            (vmfleetref1_Changed.f x1.1 r5.2).bind fun r6 =>
            (bif !decide ((r5.2.length : Int) = (x1.1.length : Int)) then
              some (.inr (.inr (.inr false)))
            else
              bif decide ((r6.length : Int) > 1) then
                some (.inr (.inr (.inr false)))
              else
                bif decide ((r6.length : Int) = 1) then
                  bif !y2 then
                    some (.inr (.inr (.inr false)))
                  else
                    if 0 ≤ (0 : Int) ∧ (0 : Int) < (r6.length : Int) then
                      bif (!decide ((nth (0 : Int) r6 (0 : Int)) = r4)) then
                        some (.inr (.inr (.inr false)))
                      else
                        some (.inl ())
                    else none
                else
                  some (.inl ()) : Option ((Unit) ⊕ ((List Int × (Int × Int) × List Bool × Int) ⊕ ((Unit) ⊕ (Bool))))).bind fun o => match o with
            | .inl y3 =>
              (bif y2 then
                (vmfleetref1_Page.f r5.2 r4).bind fun r7 =>
                bif !decide (r7.1 = (strOf (List.replicate 128 (0 : Int)))) then
                  some (.inr (.inr (.inr false)))
                else
                  if 0 ≤ r4 ∧ r4 < (x1.2.2.1.length : Int) then
                    some (.inl (put x1.2.2.1 r4 true))
                  else none
              else
                some (.inl x1.2.2.1) : Option ((List Bool) ⊕ ((List Int × (Int × Int) × List Bool × Int) ⊕ ((Unit) ⊕ (Bool))))).bind fun o => match o with
              | .inl y4 =>
                (bif decide ((IntKind.wrap .i64 (10 + v2)) = 11) then
                  if 0 ≤ r4 ∧ r4 < (y4.length : Int) then
                    some (.inl (put y4 r4 false))
                  else none
                else
                  some (.inl y4) : Option ((List Bool) ⊕ ((List Int × (Int × Int) × List Bool × Int) ⊕ ((Unit) ⊕ (Bool))))).bind fun o => match o with
                | .inl y5 =>
                  (loop (Y := (Int) ⊕ ((List Int × (Int × Int) × List Bool × Int) ⊕ ((Unit) ⊕ (Bool)))) (fun (x6 : Int × Int) =>
                    bif decide (x6.2 < 32) then
                      if 0 ≤ x6.2 ∧ x6.2 < (y5.length : Int) then
                        bif nth false y5 x6.2 then
                          some (.inl (IntKind.wrap .i64 (x6.1 + 1), IntKind.wrap .i64 (x6.2 + 1)))
                        else
                          some (.inl (x6.1, IntKind.wrap .i64 (x6.2 + 1)))
                      else none
                    else
                      some (.inr (.inl x6.1))) ((0 : Int), (0 : Int))).bind fun o => match o with
                  | .inl y7 =>
                    (balloon_Count.f r5.1).bind fun r8 =>
                    bif !decide (r8 = y7) then
                      some (.inr (.inr false))
                    else
                      (balloon_May.f r5.1 (k : Int)).bind fun r9 =>
                      bif !r9 then
                        some (.inr (.inr false))
                      else
                        if 0 ≤ x1.2.2.2 ∧ x1.2.2.2 < (l.length : Int) then
                          (vmfleetmake_Round.f (nth (0 : Int) l x1.2.2.2) (r5.2.length : Int)).bind fun r10 =>
                          if 0 ≤ x1.2.2.2 ∧ x1.2.2.2 < (l.length : Int) then
                            if 0 ≤ r10 ∧ r10 < (r5.2.length : Int) then
                              some (.inl (put r5.2 r10 (IntKind.wrap .u32 (andI .i64 (nth (0 : Int) l x1.2.2.2) (4294967295 : Int))), r5.1, y5, IntKind.wrap .i64 (x1.2.2.2 + 1)))
                            else none
                          else none
                        else none
                  | .inr r => some r
                | .inr r => some r
              | .inr r => some r
            | .inr r => some r
          | .inr r => some r
        else none
      else none
    else
      some (.inr (.inl ())))) ?h
  · obtain ⟨y, h1, rfl⟩ := key
    exact bind_of h1 rfl
  case r0 =>
    unfold nth
    rw [Int.toNat_natCast, List.getD_eq_getElem?_getD, List.getElem?_replicate, if_pos hj, Nat.zero_testBit]
    rfl
  case h =>
    rintro ⟨m, b, gl, i⟩ ⟨⟨hm, g, rfl, hg, hgl, hbits, hhigh⟩, i1, i2⟩
    dsimp only at hm hgl hbits i1 i2 ⊢
    by_cases hi : i < (l.length : Int)
    · left
      have hb : 0 ≤ i ∧ i < (l.length : Int) := ⟨i1, hi⟩
      rw [decide_eq_true hi, cond_true, if_pos hb]
      generalize nth (0 : Int) l i = li
      obtain ⟨r4, e4, r0, r1⟩ := round_ok (shrI .i64 li (1 : Int)) 10 (by decide) (by decide)
      have hv2 := and_range (x := li) (m := 1) (by decide) (by decide)
      rw [e4, Option.bind_some, if_pos hb]
      generalize andI .i64 li 1 = v2 at hv2 ⊢
      obtain ⟨v, rfl⟩ := Int.eq_ofNat_of_zero_le r0
      have hv : v < 10 := by omega
      have w1 : IntKind.wrap .i64 (10 + v2) = 10 + v2 := wrap_i64 (by omega) (by omega)
      have w2 : IntKind.wrap .u32 (v : Int) = (v : Int) := wrap_u32 (by omega) (by omega)
      rw [w1, w2, balOut_eq hm (by omega) 0 hg _ (by omega), Option.bind_some]
      -- what follows when the balloon has moved
      have tail : ∀ (m' : List Int) (b' : Bal) (gl' : List Bool), inv11 k m' b' gl' → ∃ x', ((loop (Y := (Int) ⊕ ((List Int × (Int × Int) × List Bool × Int) ⊕ ((Unit) ⊕ (Bool)))) (fun (x6 : Int × Int) =>
      bif decide (x6.2 < 32) then
        if 0 ≤ x6.2 ∧ x6.2 < (gl'.length : Int) then
          bif nth false gl' x6.2 then
            some (.inl (IntKind.wrap .i64 (x6.1 + 1), IntKind.wrap .i64 (x6.2 + 1)))
          else
            some (.inl (x6.1, IntKind.wrap .i64 (x6.2 + 1)))
        else none
      else
        some (.inr (.inl x6.1))) ((0 : Int), (0 : Int))).bind fun o => match o with
    | .inl y7 =>
      (balloon_Count.f b').bind fun r8 =>
      bif !decide (r8 = y7) then
        some (.inr (.inr false))
      else
        (balloon_May.f b' (k : Int)).bind fun r9 =>
        bif !r9 then
          some (.inr (.inr false))
        else
          if 0 ≤ i ∧ i < (l.length : Int) then
            (vmfleetmake_Round.f li (m'.length : Int)).bind fun r10 =>
            if 0 ≤ i ∧ i < (l.length : Int) then
              if 0 ≤ r10 ∧ r10 < (m'.length : Int) then
                some (.inl (put m' r10 (IntKind.wrap .u32 (andI .i64 li (4294967295 : Int))), b', gl', IntKind.wrap .i64 (i + 1)))
              else none
            else none
          else none
    | .inr r => some r : Option ((List Int × (Int × Int) × List Bool × Int) ⊕ ((Unit) ⊕ (Bool)))) = some (.inl x') ∧ (inv11 k x'.1 x'.2.1 x'.2.2.1 ∧ 0 ≤ x'.2.2.2 ∧ x'.2.2.2 ≤ (l.length : Int)) ∧ ((l.length : Int) - x'.2.2.2).toNat < ((l.length : Int) - i).toNat := by
        rintro m' b' gl' ⟨hm', g', rfl, hg', hgl', hbits', hhigh'⟩
        have hc := count_loop hgl' hbits'
        obtain ⟨r10, e10, t0, t1⟩ := round_ok li (m'.length : Int) (by omega) (by omega)
        have hr := bind_of (K := fun o => match o with
                    | .inl y7 =>
                      (balloon_Count.f ((0 : Int), (g' : Int))).bind fun r8 =>
                      bif !decide (r8 = y7) then
                        some (.inr (.inr false))
                      else
                        (balloon_May.f ((0 : Int), (g' : Int)) (k : Int)).bind fun r9 =>
                        bif !r9 then
                          some (.inr (.inr false))
                        else
                          if 0 ≤ i ∧ i < (l.length : Int) then
                            (vmfleetmake_Round.f li (m'.length : Int)).bind fun r10 =>
                            if 0 ≤ i ∧ i < (l.length : Int) then
                              if 0 ≤ r10 ∧ r10 < (m'.length : Int) then
                                some (.inl (put m' r10 (IntKind.wrap .u32 (andI .i64 li (4294967295 : Int))), ((0 : Int), (g' : Int)), gl', IntKind.wrap .i64 (i + 1)))
                              else none
                            else none
                          else none
                    | .inr r => some r) (r := some (.inl (put m' r10 (IntKind.wrap .u32 (andI .i64 li (4294967295 : Int))), ((0 : Int), (g' : Int)), gl', i + 1))) hc (by
          dsimp only
          rw [count_eq hg', Option.bind_some, decide_eq_true rfl, Bool.not_true, cond_false, may_ok q2 hhigh', Option.bind_some, Bool.not_true, cond_false, if_pos hb, e10, Option.bind_some, if_pos hb, if_pos ⟨t0, t1⟩, wrap_i64 (by omega) (by omega)])
        refine ⟨_, hr, ⟨⟨?_, g', rfl, hg', hgl', hbits', hhigh'⟩, by simp only; omega, by simp only; omega⟩, by simp only; omega⟩
        dsimp only
        unfold put
        rw [List.length_set]; exact hm'
      by_cases c1 : v2 = 0
      · subst c1
        have p10 : (10 : Int) + 0 = 10 := rfl
        have n11 : ¬ (10 : Int) = 11 := by decide
        rw [p10, decide_eq_true (rfl : (10 : Int) = 10), decide_eq_false n11, cond_true]
        have hgb : 0 ≤ (v : Int) ∧ (v : Int) < (gl.length : Int) := by omega
        by_cases c2 : v < k ∧ g.testBit v = false
        · have ebo : balOut 0 g m k 10 v = ((0, ((g ||| 2 ^ v : Nat) : Int)), setP m v zeroPage) := by
            unfold balOut; rw [if_neg (by omega), if_pos rfl, if_pos c2]
          have hlen : (setP m v zeroPage).length = 32 * k := by rw [setP_len]; exact hm
          obtain ⟨c, ec, hc1, hc2⟩ := changed_eq hm hlen (by omega) v (fun p _ hpv => (pg_set m v p zeroPage hpv).symm)
          have hpage : vmfleetref1_Page.f (setP m v zeroPage) (v : Int) = some (zeroPage, true) := by
            rw [pageR_eq hlen (by omega), if_pos c2.1, page_back hm c2.1 zeroPage_size]
          rw [ebo]
          generalize setP m v zeroPage = m' at *
          have ck : (v : Int) < (k : Int) := by omega
          rw [decide_eq_true ck, cond_true, if_pos hgb, hbits v (by omega), c2.2, Bool.not_false, Option.bind_some]
          dsimp only
          rw [ec, Option.bind_some, decide_eq_true (show (m'.length : Int) = (m.length : Int) by omega), Bool.not_true, cond_false]
          have hnext := tail m' (0, ((g ||| 2 ^ v : Nat) : Int)) (put gl (v : Int) true) ⟨hlen, g ||| 2 ^ v, rfl, (or_nat hg (shl_one (by omega)).2).2, by unfold put; rw [List.length_set]; exact hgl, fun j hj => by
              rw [nth_put (by omega), testBit_or_pow, hbits j hj]
              by_cases hvj : v = j
              · rw [if_pos hvj, decide_eq_true hvj, Bool.or_true]
              · rw [if_neg hvj, decide_eq_false hvj, Bool.or_false], fun j hj => by
              rw [testBit_or_pow, hhigh j hj, decide_eq_false (by omega)]; rfl⟩
          have rest : ∀ o : Option ((Unit) ⊕ ((List Int × (Int × Int) × List Bool × Int) ⊕ ((Unit) ⊕ (Bool)))), o = some (.inl ()) → ∃ x', (o.bind (fun o => match o with
    | .inl y3 =>
      (bif true then
        (vmfleetref1_Page.f m' (v : Int)).bind fun r7 =>
        bif !decide (r7.1 = (strOf (List.replicate 128 (0 : Int)))) then
          some (.inr (.inr (.inr false)))
        else
          if 0 ≤ (v : Int) ∧ (v : Int) < (gl.length : Int) then
            some (.inl (put gl (v : Int) true))
          else none
      else
        some (.inl gl) : Option ((List Bool) ⊕ ((List Int × (Int × Int) × List Bool × Int) ⊕ ((Unit) ⊕ (Bool))))).bind fun o => match o with
      | .inl y4 =>
        (bif false then
          if 0 ≤ (v : Int) ∧ (v : Int) < (y4.length : Int) then
            some (.inl (put y4 (v : Int) false))
          else none
        else
          some (.inl y4) : Option ((List Bool) ⊕ ((List Int × (Int × Int) × List Bool × Int) ⊕ ((Unit) ⊕ (Bool))))).bind fun o => match o with
        | .inl y5 =>
          (loop (Y := (Int) ⊕ ((List Int × (Int × Int) × List Bool × Int) ⊕ ((Unit) ⊕ (Bool)))) (fun (x6 : Int × Int) =>
            bif decide (x6.2 < 32) then
              if 0 ≤ x6.2 ∧ x6.2 < (y5.length : Int) then
                bif nth false y5 x6.2 then
                  some (.inl (IntKind.wrap .i64 (x6.1 + 1), IntKind.wrap .i64 (x6.2 + 1)))
                else
                  some (.inl (x6.1, IntKind.wrap .i64 (x6.2 + 1)))
              else none
            else
              some (.inr (.inl x6.1))) ((0 : Int), (0 : Int))).bind fun o => match o with
          | .inl y7 =>
            (balloon_Count.f ((0 : Int), ((g ||| 2 ^ v : Nat) : Int))).bind fun r8 =>
            bif !decide (r8 = y7) then
              some (.inr (.inr false))
            else
              (balloon_May.f ((0 : Int), ((g ||| 2 ^ v : Nat) : Int)) (k : Int)).bind fun r9 =>
              bif !r9 then
                some (.inr (.inr false))
              else
                if 0 ≤ i ∧ i < (l.length : Int) then
                  (vmfleetmake_Round.f li (m'.length : Int)).bind fun r10 =>
                  if 0 ≤ i ∧ i < (l.length : Int) then
                    if 0 ≤ r10 ∧ r10 < (m'.length : Int) then
                      some (.inl (put m' r10 (IntKind.wrap .u32 (andI .i64 li (4294967295 : Int))), ((0 : Int), ((g ||| 2 ^ v : Nat) : Int)), y5, IntKind.wrap .i64 (i + 1)))
                    else none
                  else none
                else none
          | .inr r => some r
        | .inr r => some r
      | .inr r => some r
    | .inr r => some r)) = some (.inl x') ∧ (inv11 k x'.1 x'.2.1 x'.2.2.1 ∧ 0 ≤ x'.2.2.2 ∧ x'.2.2.2 ≤ (l.length : Int)) ∧ ((l.length : Int) - x'.2.2.2).toNat < ((l.length : Int) - i).toNat := by
            rintro _ rfl
            rw [Option.bind_some]
            dsimp only
            rw [cond_true, hpage, Option.bind_some]
            dsimp only
            rw [show strOf (List.replicate 128 (0 : Int)) = zeroPage from rfl, decide_eq_true rfl, Bool.not_true, cond_false, if_pos hgb, Option.bind_some]
            dsimp only
            rw [cond_false, Option.bind_some]
            dsimp only
            exact hnext
          refine rest _ ?_
          rcases hc1 with rfl | rfl
          · rfl
          · simp [nth]
        · have ebo : balOut 0 g m k 10 v = ((0, (g : Int)), m) := by
            unfold balOut; rw [if_neg (by omega), if_pos rfl, if_neg c2]
          obtain ⟨c, ec, hc1, hc2⟩ := changed_eq hm hm (by omega) v (fun _ _ _ => rfl)
          have hc := hc2 rfl
          subst hc
          rw [ebo]
          have hnext := tail m (0, (g : Int)) gl ⟨hm, g, rfl, hg, hgl, hbits, hhigh⟩
          have ey : (bif decide ((v : Int) < (k : Int)) then
              if 0 ≤ (v : Int) ∧ (v : Int) < (gl.length : Int) then (some (.inl (!(nth false gl (v : Int)))) : Option ((Bool) ⊕ ((List Int × (Int × Int) × List Bool × Int) ⊕ ((Unit) ⊕ (Bool))))) else none
            else some (.inl false)) = some (.inl false) := by
            by_cases ck : v < k
            · have hbv : g.testBit v = true := by
                cases hh : g.testBit v with
                | true => rfl
                | false => exact absurd ⟨ck, hh⟩ c2
              have ck' : (v : Int) < (k : Int) := by omega
              rw [decide_eq_true ck', cond_true, if_pos hgb, hbits v (by omega), hbv]; rfl
            · have ck' : ¬ (v : Int) < (k : Int) := by omega
              rw [decide_eq_false ck']; rfl
          rw [ey, Option.bind_some]
          dsimp only
          rw [ec, Option.bind_some, decide_eq_true rfl]
          exact hnext
      · have hv21 : v2 = 1 := by omega
        subst hv21
        have p11 : (10 : Int) + 1 = 11 := rfl
        have n10 : ¬ (11 : Int) = 10 := by decide
        rw [p11, decide_eq_false n10, decide_eq_true (rfl : (11 : Int) = 11), cond_false, Option.bind_some]
        have ebo : balOut 0 g m k 11 v = ((0, (clrB g v : Int)), m) := by
          unfold balOut; rw [if_neg (by omega), if_neg n10, if_pos rfl]
        obtain ⟨c, ec, hc1, hc2⟩ := changed_eq hm hm (by omega) v (fun _ _ _ => rfl)
        have hc := hc2 rfl
        subst hc
        obtain ⟨k1, k2, k3⟩ := clrB_eq hg (show v < 32 by omega)
        rw [ebo]
        have hgb : 0 ≤ (v : Int) ∧ (v : Int) < (gl.length : Int) := by omega
        have hnext := tail m (0, (clrB g v : Int)) (put gl (v : Int) false) ⟨hm, clrB g v, rfl, k2, by unfold put; rw [List.length_set]; exact hgl, fun j hj => by
              rw [nth_put (by omega), k3, hbits j hj]
              by_cases hvj : v = j
              · rw [if_pos hvj, decide_eq_true hvj]; cases g.testBit j <;> rfl
              · rw [if_neg hvj, decide_eq_false hvj]; cases g.testBit j <;> rfl, fun j hj => by
              rw [k3, hhigh j hj]; rfl⟩
        dsimp only
        rw [ec, Option.bind_some, decide_eq_true rfl, Bool.not_true, cond_false]
        rw [show ((([] : List Int).length : Int)) = 0 from rfl, decide_eq_false (show ¬ (0 : Int) > 1 by decide), cond_false, decide_eq_false (show ¬ (0 : Int) = 1 by decide), cond_false, Option.bind_some]
        dsimp only
        rw [cond_false, Option.bind_some]
        dsimp only
        rw [cond_true, if_pos hgb, Option.bind_some]
        exact hnext
    · right
      rw [decide_eq_false hi]
      exact ⟨_, rfl, rfl⟩

theorem vmfleetlaw11_BalloonGives.pure (x : (tup vmfleetlaw11_BalloonGives.sp.args).den) (h : WfL vmfleetlaw11_BalloonGives.sp.args x) : vmfleetlaw11_BalloonGives.sp.f x = some true :=
  balloonGives x.1 x.2.1 x.2.2

end Go.Proofs.Ytapngmfecjhlfaa.Fn
