/- The law MirrorKeeps, in plain Lean: at every input its function is true. -/
import Derived.Test.YtklckjfafomlmaaPureCh32b
set_option linter.unusedVariables false
set_option linter.unusedSimpArgs false
namespace Go.Proofs.Ytklckjfafomlmaa.Fn
open Go Lift

theorem keeps_loop (s : List ByteArray) (hs : Blk s) (h4 : s.length = 4) (l : List Int) (hl : l.length ≤ 60) : ∃ w m, loop (Y := (List ByteArray × List ByteArray × List ByteArray × Int) ⊕ (Bool)) (fun (x1 : List ByteArray × (List ByteArray × List ByteArray × Int) × Int × Int) =>
        bif decide (x1.2.2.2 < (l.length : Int)) then
          (if 0 ≤ x1.2.2.2 ∧ x1.2.2.2 < (l.length : Int) then
            (vmfleetmake_Round.f (nth (0 : Int) l x1.2.2.2) (3 : Int)).bind fun r4 =>
            bif decide (r4 = 0) then
              (mirror_Copy.f x1.2.1 (1 : Int)).bind fun r5 =>
              some (.inl (x1.1, r5, (min (IntKind.wrap .i64 (x1.2.2.1 + 1)) (4 : Int))))
            else
              if 0 ≤ x1.2.2.2 ∧ x1.2.2.2 < (l.length : Int) then
                (vmfleetmake_Round.f (IntKind.wrap .i64 (Int.tdiv (nth (0 : Int) l x1.2.2.2) (3 : Int))) (4 : Int)).bind fun r6 =>
                if 0 ≤ x1.2.2.2 ∧ x1.2.2.2 < (l.length : Int) then
                  (vmfleetmake_Data.f (nth (0 : Int) l x1.2.2.2) (128 : Int)).bind fun r7 =>
                  if 0 ≤ r6 ∧ r6 < (x1.1.length : Int) then
                    if 0 ≤ r6 ∧ r6 < ((put x1.1 r6 r7).length : Int) then
                      (mirror_Write.f x1.2.1 r6 (nth (⟨#[]⟩ : ByteArray) (put x1.1 r6 r7) r6)).bind fun r8 =>
                      bif !r8.2 then
                        some (.inr (.inr (.inr false)))
                      else
                        some (.inl (put x1.1 r6 r7, r8.1, x1.2.2.1))
                    else none
                  else none
                else none
              else none
          else none : Option ((List ByteArray × (List ByteArray × List ByteArray × Int) × Int) ⊕ ((List ByteArray × (List ByteArray × List ByteArray × Int) × Int × Int) ⊕ ((List ByteArray × List ByteArray × List ByteArray × Int) ⊕ (Bool))))).bind fun o => match o with
          | .inl y2 =>
            bif !decide (y2.2.1.2.2 = y2.2.2) then
              some (.inr (.inr false))
            else
              (mirror_Valid.f y2.2.1).bind fun r9 =>
              bif !r9 then
                some (.inr (.inr false))
              else
                (vmfleetref1_SameStrings.f y2.2.1.1 y2.1).bind fun r10 =>
                bif !r10 then
                  some (.inr (.inr false))
                else
                  (mirror_Switch.f y2.2.1).bind fun r11 =>
                  bif !(r11.2 == (decide (y2.2.2 = 4))) then
                    some (.inr (.inr false))
                  else
                    bif r11.2 then
                      (vmfleetref1_SameStrings.f r11.1 y2.1).bind fun r12 =>
                      bif !r12 then
                        some (.inr (.inr false))
                      else
                        some (.inl (y2.1, y2.2.1, y2.2.2, IntKind.wrap .i64 (x1.2.2.2 + 1)))
                    else
                      some (.inl (y2.1, y2.2.1, y2.2.2, IntKind.wrap .i64 (x1.2.2.2 + 1)))
          | .inr r => some r
        else
          some (.inr (.inl (x1.1, x1.2.1)))) (s, beginC s, (0 : Int), (0 : Int)) = some (.inl (w, m)) ∧ MOk m ∧ m.1 = w ∧ w.length = 4 := by
  have key := loop_ind (step := (fun (x1 : List ByteArray × (List ByteArray × List ByteArray × Int) × Int × Int) =>
        bif decide (x1.2.2.2 < (l.length : Int)) then
          (if 0 ≤ x1.2.2.2 ∧ x1.2.2.2 < (l.length : Int) then
            (vmfleetmake_Round.f (nth (0 : Int) l x1.2.2.2) (3 : Int)).bind fun r4 =>
            bif decide (r4 = 0) then
              (mirror_Copy.f x1.2.1 (1 : Int)).bind fun r5 =>
              some (.inl (x1.1, r5, (min (IntKind.wrap .i64 (x1.2.2.1 + 1)) (4 : Int))))
            else
              if 0 ≤ x1.2.2.2 ∧ x1.2.2.2 < (l.length : Int) then
                (vmfleetmake_Round.f (IntKind.wrap .i64 (Int.tdiv (nth (0 : Int) l x1.2.2.2) (3 : Int))) (4 : Int)).bind fun r6 =>
                if 0 ≤ x1.2.2.2 ∧ x1.2.2.2 < (l.length : Int) then
                  (vmfleetmake_Data.f (nth (0 : Int) l x1.2.2.2) (128 : Int)).bind fun r7 =>
                  if 0 ≤ r6 ∧ r6 < (x1.1.length : Int) then
                    if 0 ≤ r6 ∧ r6 < ((put x1.1 r6 r7).length : Int) then
                      (mirror_Write.f x1.2.1 r6 (nth (⟨#[]⟩ : ByteArray) (put x1.1 r6 r7) r6)).bind fun r8 =>
                      bif !r8.2 then
                        some (.inr (.inr (.inr false)))
                      else
                        some (.inl (put x1.1 r6 r7, r8.1, x1.2.2.1))
                    else none
                  else none
                else none
              else none
          else none : Option ((List ByteArray × (List ByteArray × List ByteArray × Int) × Int) ⊕ ((List ByteArray × (List ByteArray × List ByteArray × Int) × Int × Int) ⊕ ((List ByteArray × List ByteArray × List ByteArray × Int) ⊕ (Bool))))).bind fun o => match o with
          | .inl y2 =>
            bif !decide (y2.2.1.2.2 = y2.2.2) then
              some (.inr (.inr false))
            else
              (mirror_Valid.f y2.2.1).bind fun r9 =>
              bif !r9 then
                some (.inr (.inr false))
              else
                (vmfleetref1_SameStrings.f y2.2.1.1 y2.1).bind fun r10 =>
                bif !r10 then
                  some (.inr (.inr false))
                else
                  (mirror_Switch.f y2.2.1).bind fun r11 =>
                  bif !(r11.2 == (decide (y2.2.2 = 4))) then
                    some (.inr (.inr false))
                  else
                    bif r11.2 then
                      (vmfleetref1_SameStrings.f r11.1 y2.1).bind fun r12 =>
                      bif !r12 then
                        some (.inr (.inr false))
                      else
                        some (.inl (y2.1, y2.2.1, y2.2.2, IntKind.wrap .i64 (x1.2.2.2 + 1)))
                    else
                      some (.inl (y2.1, y2.2.1, y2.2.2, IntKind.wrap .i64 (x1.2.2.2 + 1)))
          | .inr r => some r
        else
          some (.inr (.inl (x1.1, x1.2.1))))) (I := fun x : List ByteArray × Mir × Int × Int => MOk x.2.1 ∧ x.2.1.1 = x.1 ∧ x.1.length = 4 ∧ x.2.1.2.2 = x.2.2.1 ∧ 0 ≤ x.2.2.2 ∧ x.2.2.2 ≤ l.length)
    (Q := fun y : (List ByteArray × List ByteArray × List ByteArray × Int) ⊕ (Bool) => ∃ w m, y = .inl (w, m) ∧ MOk m ∧ m.1 = w ∧ w.length = 4) (fun x => ((l.length : Int) - x.2.2.2).toNat) (x := (s, beginC s, (0 : Int), (0 : Int))) ⟨beginC_ok hs, rfl, h4, rfl, Int.le_refl 0, by simp only; omega⟩ ?h
  · obtain ⟨y, h1, w, m, rfl, h2⟩ := key
    exact ⟨w, m, h1, h2⟩
  case h =>
    rintro ⟨w, m, cp, i⟩ ⟨j1, j2, j3, j4, j5, j6⟩
    dsimp only at j1 j2 j3 j4 j5 j6 ⊢
    subst j2 j4
    by_cases hi : i < (l.length : Int)
    · left
      rw [decide_eq_true hi, cond_true, if_pos ⟨j5, hi⟩]
      have wi : IntKind.wrap .i64 (i + 1) = i + 1 := wrap_i64 (by omega) (by omega)
      -- the checks of a round
      have chk : ∀ (m' : Mir), MOk m' → m'.1.length = 4 → ∃ x', ((bif !decide (m'.2.2 = m'.2.2) then
              some (.inr (.inr false))
            else
              (mirror_Valid.f m').bind fun r9 =>
              bif !r9 then
                some (.inr (.inr false))
              else
                (vmfleetref1_SameStrings.f m'.1 m'.1).bind fun r10 =>
                bif !r10 then
                  some (.inr (.inr false))
                else
                  (mirror_Switch.f m').bind fun r11 =>
                  bif !(r11.2 == (decide (m'.2.2 = 4))) then
                    some (.inr (.inr false))
                  else
                    bif r11.2 then
                      (vmfleetref1_SameStrings.f r11.1 m'.1).bind fun r12 =>
                      bif !r12 then
                        some (.inr (.inr false))
                      else
                        some (.inl (m'.1, m', m'.2.2, IntKind.wrap .i64 (i + 1)))
                    else
                      some (.inl (m'.1, m', m'.2.2, IntKind.wrap .i64 (i + 1))) : Option ((List ByteArray × (List ByteArray × List ByteArray × Int) × Int × Int) ⊕ ((List ByteArray × List ByteArray × List ByteArray × Int) ⊕ (Bool))))) = some (.inl x') ∧
          (MOk x'.2.1 ∧ x'.2.1.1 = x'.1 ∧ x'.1.length = 4 ∧ x'.2.1.2.2 = x'.2.2.1 ∧ 0 ≤ x'.2.2.2 ∧ x'.2.2.2 ≤ l.length) ∧ ((l.length : Int) - x'.2.2.2).toNat < ((l.length : Int) - i).toNat := by
        intro m' hm' h4'
        have q1 := hm'.s1.2.1
        have q2 := hm'.s2.2.1
        rw [decide_eq_true rfl, Bool.not_true, cond_false, (valid_true hm').1, Option.bind_some, Bool.not_true, cond_false, same_self _ (by omega), Option.bind_some, Bool.not_true, cond_false, switch_eq hm', Option.bind_some, wi]
        by_cases c : m'.2.2 = (m'.1.length : Int)
        · have c4 : m'.2.2 = 4 := by omega
          have hsame : m'.2.1 = m'.1 := by
            have := hm'.same
            rw [c, Int.toNat_natCast, List.take_of_length_le (Nat.le_refl _), hm'.len, List.take_of_length_le (Nat.le_refl _)] at this
            exact this.symm
          rw [if_pos c, decide_eq_true c4]
          dsimp only
          rw [hsame, same_self _ (by omega)]
          refine ⟨_, rfl, ⟨hm', rfl, h4', rfl, by simp only; omega, by simp only; omega⟩, by simp only; omega⟩
        · have c4 : ¬ m'.2.2 = 4 := by omega
          rw [if_neg c, decide_eq_false c4]
          dsimp only
          refine ⟨_, rfl, ⟨hm', rfl, h4', rfl, by simp only; omega, by simp only; omega⟩, by simp only; omega⟩
      obtain ⟨r4, e4, p1, p2⟩ := round_ok (nth (0 : Int) l i) 3 (by decide) (by decide)
      rw [e4, Option.bind_some]
      have c0 := j1.c0
      have c1 := j1.c1
      by_cases c : r4 = 0
      · rw [decide_eq_true c, cond_true, copy_eq j1 1 (by decide), Option.bind_some, Option.bind_some]
        dsimp only
        have hk : (copyC m 1).2.2 = min (IntKind.wrap .i64 (m.2.2 + 1)) 4 := by
          unfold copyC
          rw [copyN_cur, wrap_i64 (by omega) (by omega), j3]
          have : (1 : Int).toNat = 1 := rfl
          rw [this]
          omega
        have hc1 : (copyC m 1).1 = m.1 := rfl
        rw [← hk, ← hc1]
        exact chk (copyC m 1) (copyC_ok j1 1) j3
      · rw [decide_eq_false c, cond_false, if_pos ⟨j5, hi⟩]
        obtain ⟨r6, e6, p3, p4⟩ := round_ok (IntKind.wrap .i64 (Int.tdiv (nth (0 : Int) l i) (3 : Int))) 4 (by decide) (by decide)
        obtain ⟨d, ed, zd⟩ := data32_ok (nth (0 : Int) l i) 128 (by decide)
        have ed : vmfleetmake_Data.f (nth (0 : Int) l i) (128 : Int) = some d := ed
        obtain ⟨t, rfl⟩ := Int.eq_ofNat_of_zero_le p3
        have hlp : (put m.1 (t : Int) d).length = 4 := by unfold put; rw [List.length_set]; exact j3
        have hnp : nth (⟨#[]⟩ : ByteArray) (put m.1 (t : Int) d) (t : Int) = d := by
          refine nth_some ?_
          unfold put
          rw [Int.toNat_natCast, List.getElem?_set_self (by omega)]
        obtain ⟨r, w1, _, w3⟩ := write_both j1 (t : Int) d
        have hin : 0 ≤ (t : Int) ∧ (t : Int) < (m.1.length : Int) ∧ d.size = 128 := by omega
        rw [if_pos hin] at w3
        subst w3
        rw [e6, Option.bind_some, if_pos ⟨j5, hi⟩, ed, Option.bind_some, if_pos (by omega), if_pos (by rw [hlp]; omega), hnp, w1, Option.bind_some]
        dsimp only
        rw [Bool.not_true, cond_false, Option.bind_some]
        dsimp only
        exact chk (writeC m t d) (writeC_ok j1 hin.1 hin.2.1 zd) hlp
    · right
      rw [decide_eq_false hi]
      exact ⟨_, rfl, m.1, m, rfl, j1, rfl, j3⟩

theorem mirrorKeeps (n : Int) (l : List Int) : vmfleetlaw32_MirrorKeeps.f n l = some true := by
  unfold vmfleetlaw32_MirrorKeeps.f
  rw [vmfleetlaw32_awake.ok]
  by_cases c1 : (l.length : Int) > 60
  · rw [decide_eq_true c1]; rfl
  rw [decide_eq_false c1, cond_false]
  obtain ⟨s, es, hs, h4⟩ := plan_blocks n
  rw [es, Option.bind_some, (begin_iff s).1 hs, Option.bind_some]
  dsimp only
  rw [Bool.not_true, cond_false]
  obtain ⟨w, m, h1, h2, h3, h5⟩ := keeps_loop s hs h4 l (by omega)
  refine bind32 h1 ?_
  dsimp only
  subst h3
  have c0 := h2.c0
  have cl := h2.c1
  have hok := copyC_ok h2 4
  have hcur : (copyC m 4).2.2 = ((copyC m 4).1.length : Int) := by
    unfold copyC
    rw [copyN_cur, copyN_len]
    have : (4 : Int).toNat = 4 := rfl
    rw [this]
    omega
  have hsame : (copyC m 4).2.1 = (copyC m 4).1 := by
    have := hok.same
    rw [hcur, Int.toNat_natCast, List.take_of_length_le (Nat.le_refl _), hok.len, List.take_of_length_le (Nat.le_refl _)] at this
    exact this.symm
  rw [copy_eq h2 4 (by decide), Option.bind_some, switch_eq hok, Option.bind_some, if_pos hcur]
  dsimp only
  rw [cond_true, hsame, show (copyC m 4).1 = m.1 from rfl, same_self _ (by omega)]
  rfl

theorem vmfleetlaw32_MirrorKeeps.pure (x : (tup vmfleetlaw32_MirrorKeeps.sp.args).den) (h : WfL vmfleetlaw32_MirrorKeeps.sp.args x) : vmfleetlaw32_MirrorKeeps.sp.f x = some true :=
  mirrorKeeps x.1 x.2

end Go.Proofs.Ytklckjfafomlmaa.Fn
