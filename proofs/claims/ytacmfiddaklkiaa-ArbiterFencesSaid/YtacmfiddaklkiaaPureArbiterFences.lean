/- The law ArbiterFences, in plain Lean: at every input its function is true. No condition but the arguments' ranges. -/
import Derived.Test.YtacmfiddaklkiaaPureCh26
set_option linter.unusedVariables false
set_option linter.unusedSimpArgs false
namespace Go.Proofs.Ytacmfiddaklkiaa.Fn
open Go Lift

theorem sameBlocks {Z : Type} (l : List ByteArray) (h : l.length = 4) {bad good : Z} : loop (Y := Z) (fun (x5 : Int) =>
    bif decide (x5 < 4) then
      bif !decide ((l.length : Int) = 4) then
        some (.inr bad)
      else
        if 0 ≤ x5 ∧ x5 < (l.length : Int) then
          if 0 ≤ x5 ∧ x5 < (l.length : Int) then
            bif (!decide ((nth (⟨#[]⟩ : ByteArray) l x5) = (nth (⟨#[]⟩ : ByteArray) l x5))) then
              some (.inr bad)
            else
              some (.inl (IntKind.wrap .i64 (x5 + 1)))
          else none
        else none
    else
      some (.inr good)) (0 : Int) = some good := by
  refine loop_at (fun i : Nat => (i : Int)) 4 good (fun i hi => ?_) ?_
  · have h1 : (i : Int) < 4 := by omega
    have h2 : (l.length : Int) = 4 := by omega
    have h3 : 0 ≤ (i : Int) ∧ (i : Int) < l.length := by omega
    simp only [h1, h2, decide_true, cond_true, Bool.not_true, cond_false]
    rw [h2] at h3
    simp only [h3, and_self, if_true]
    rw [wrap_i64 (by omega) (by omega)]
    rfl
  · simp

theorem sameBlocks2 {Z : Type} (l : List ByteArray) (h : l.length = 4) {bad good : Z} : loop (Y := Z) (fun (x5 : Int) =>
    bif decide (x5 < 4) then
      bif !decide ((l.length : Int) = 4) then
        some (.inr bad)
      else
        if 0 ≤ x5 ∧ x5 < (l.length : Int) then
          if 0 ≤ x5 ∧ x5 < (l.length : Int) then
            some (.inl (IntKind.wrap .i64 (x5 + 1)))
          else none
        else none
    else
      some (.inr good)) (0 : Int) = some good := by
  have := sameBlocks l h (bad := bad) (good := good)
  simp only [decide_true, Bool.not_true, cond_false] at this
  exact this

theorem arbiterFences (n : Int) (ls : List Int) : vmfleetlaw26_ArbiterFences.f n ls = some true := by
  unfold vmfleetlaw26_ArbiterFences.f
  rw [arbiter_awake]
  by_cases h1 : (ls.length : Int) > 40
  · simp [h1]
  simp only [h1, decide_false, cond_false]
  obtain ⟨bs, e1, b1, b2⟩ := blocks_ok n
  have hlen : bs.length ≤ 1000000 := by omega
  have v0 : validS (bs, 0, -1) = true := valid_mk b1 b2 (by decide) (by decide)
  have v1 : validS (bs, 1, 0) = true := valid_mk b1 b2 (by decide) (by decide)
  have hn : newOf bs = ((bs, 0, -1), true) := by simp [newOf, v0]
  have c1 : claimOf (bs, 0, -1) 0 0 = ((bs, 1, 0), true) := by simp [claimOf, v0]
  have c2 : claimOf (bs, 1, 0) 1 1 = ((bs, 2, 1), true) := by simp [claimOf, v1]
  rw [e1]
  simp only [Option.bind_some]
  rw [new_eqA _ hlen, hn]
  simp only [Option.bind_some]
  rw [claim_eqA _ _ _ hlen (by decide), c1]
  simp only [Option.bind_some]
  rw [claim_eqA _ _ _ hlen (by decide), c2]
  simp only [Option.bind_some, Bool.not_true, cond_false]
  refine Option.bind_eq_some_iff.2 ?_
  refine loop_ind (I := fun x => 0 ≤ x.2.2 ∧ x.2.2 ≤ (ls.length : Int) ∧ x.1 = (x.2.1, 2, 1) ∧ x.2.1.length = 4 ∧ x.2.1.all bytesB = true) (fun x => ((ls.length : Int) - x.2.2).toNat) ⟨Int.le_refl 0, by simp, rfl, b1, b2⟩ fun x hI => ?_
  obtain ⟨s, w, i⟩ := x
  obtain ⟨i1, i2, i3, i4, i5⟩ := hI
  simp only at i1 i2 i3 i4 i5 ⊢
  subst i3
  by_cases hi : i < (ls.length : Int)
  · left
    have hb : 0 ≤ i ∧ i < (ls.length : Int) := ⟨i1, hi⟩
    have hwl : w.length ≤ 1000000 := by omega
    have hv : validS (w, 2, 1) = true := valid_mk i4 i5 (by decide) (by decide)
    have hwi : IntKind.wrap .i64 (i + 1) = i + 1 := wrap_i64 (by omega) (by omega)
    obtain ⟨p, ep, hp1, hp2⟩ := round_ok (nth (0 : Int) ls i) 4 (by decide) (by decide)
    obtain ⟨d, ed, hd⟩ := data_ok (nth (0 : Int) ls i) 128 (by decide)
    have ed : vmfleetmake_Data.f (nth (0 : Int) ls i) (128 : Int) = some d := ed
    obtain ⟨g, eg, hg1, hg2⟩ := round_ok (IntKind.wrap .i64 (Int.tdiv (nth (0 : Int) ls i) (4 : Int))) 4 (by decide) (by decide)
    obtain ⟨q, eq, hq1, hq2⟩ := round_ok (IntKind.wrap .i64 (Int.tdiv (nth (0 : Int) ls i) (16 : Int))) 2 (by decide) (by decide)
    simp only [hi, decide_true, cond_true, hb, and_self, if_true, ep, ed, eg, eq, Option.bind_some]
    have hw1 : IntKind.wrap .u64 g = g := wrap_u64 (by omega) (by omega)
    have hw2 : IntKind.wrap .u32 p = p := wrap_u32 (by omega) (by omega)
    have hw3 : IntKind.wrap .i64 (3 + q) = 3 + q := wrap_i64 (by omega) (by omega)
    have hpb : 0 ≤ p ∧ p < (w.length : Int) := by omega
    have hpb' : ¬ p ≥ (w.length : Int) := by omega
    rw [hw1, hw2, hw3, hwi]
    have hsz : (d.size : Int) = 128 := by omega
    by_cases hk : q = 0
    · subst hk
      have n34 : ¬ (3 : Int) + 0 = 4 := by decide
      have n33 : (3 : Int) + 0 = 3 := by decide
      simp only [n33, show ¬ (3 : Int) = 4 by decide, decide_false, decide_true, cond_false, Option.bind_some]
      rw [exec_eqA _ _ _ hwl hp1 (by simp only; omega)]
      by_cases hg : g = 2
      · subst hg
        have hx : execOf (w, 2, 1) 2 (3, 0, p, ⟨#[]⟩) = ((w, 2, 1), (4, 1, nth ⟨#[]⟩ w p), true) := by
          unfold execOf
          simp [hv, hpb']
        rw [hx]
        simp only [Option.bind_some, decide_true, beq_self_eq_true, Bool.not_true, cond_false, cond_true, hpb, and_self, if_true]
        try simp only [show ¬ (3 : Int) = 4 by decide, decide_false, cond_false, Option.bind_some, hpb, and_self, if_true, decide_true, Bool.not_true]
        try simp only [decide_true, Bool.not_true, cond_false]
        first | rw [sameBlocks w i4] | rw [sameBlocks2 w i4]
        exact ⟨_, rfl, ⟨by simp only; omega, by simp only; omega, rfl, i4, i5⟩, by simp only; omega⟩
      · have hx : execOf (w, 2, 1) g (3, 0, p, ⟨#[]⟩) = ((w, 2, 1), (0, 0, ⟨#[]⟩), false) := by
          unfold execOf
          rw [if_neg fun h => hg h.2.2.1]
        rw [hx]
        simp only [Option.bind_some, hg, decide_false, beq_self_eq_true, Bool.not_true, cond_false]
        try simp only [decide_true, Bool.not_true, cond_false]
        first | rw [sameBlocks w i4] | rw [sameBlocks2 w i4]
        exact ⟨_, rfl, ⟨by simp only; omega, by simp only; omega, rfl, i4, i5⟩, by simp only; omega⟩
    · have hk : q = 1 := by omega
      subst hk
      have n44 : (3 : Int) + 1 = 4 := by decide
      simp only [n44, decide_true, cond_true, Option.bind_some]
      rw [exec_eqA _ _ _ hwl hp1 (by simp only; omega)]
      by_cases hg : g = 2
      · subst hg
        have hx : execOf (w, 2, 1) 2 (4, 0, p, d) = ((put w p d, 2, 1), (4, 1, ⟨#[]⟩), true) := by
          unfold execOf
          simp [hv, hpb', hsz]
        have hl2 : (put w p d).length = 4 := by simp [put, i4]
        rw [hx]
        simp only [Option.bind_some, decide_true, beq_self_eq_true, Bool.not_true, cond_false, cond_true, hpb, and_self, if_true]
        try simp only [show ¬ (4 : Int) = 3 by decide, decide_false, cond_false, Option.bind_some]
        try simp only [decide_true, Bool.not_true, cond_false]
        first | rw [sameBlocks (put w p d) hl2] | rw [sameBlocks2 (put w p d) hl2]
        exact ⟨_, rfl, ⟨by simp only; omega, by simp only; omega, rfl, hl2, put_all i5 (by simp [bytesB, hsz])⟩, by simp only; omega⟩
      · have hx : execOf (w, 2, 1) g (4, 0, p, d) = ((w, 2, 1), (0, 0, ⟨#[]⟩), false) := by
          unfold execOf
          rw [if_neg fun h => hg h.2.2.1]
        rw [hx]
        simp only [Option.bind_some, hg, decide_false, beq_self_eq_true, Bool.not_true, cond_false]
        try simp only [decide_true, Bool.not_true, cond_false]
        first | rw [sameBlocks w i4] | rw [sameBlocks2 w i4]
        exact ⟨_, rfl, ⟨by simp only; omega, by simp only; omega, rfl, i4, i5⟩, by simp only; omega⟩
  · right
    exact ⟨.inl (), by simp only [hi, decide_false, cond_false], rfl⟩

theorem vmfleetlaw26_ArbiterFences.pure (x : (tup vmfleetlaw26_ArbiterFences.sp.args).den) (h : WfL vmfleetlaw26_ArbiterFences.sp.args x) : vmfleetlaw26_ArbiterFences.sp.f x = some true := arbiterFences x.1 x.2

end Go.Proofs.Ytacmfiddaklkiaa.Fn
