/- The law MirrorParts, in plain Lean: at every input its function is true. -/
import Derived.Test.YtklckjfafomlmaaPureCh32b
set_option linter.unusedVariables false
set_option linter.unusedSimpArgs false
namespace Go.Proofs.Ytklckjfafomlmaa.Fn
open Go Lift

theorem mirrorParts (n : Int) (parts : List Int) : vmfleetlaw32_MirrorParts.f n parts = some true := by
  unfold vmfleetlaw32_MirrorParts.f
  rw [vmfleetlaw32_awake.ok]
  by_cases c1 : (parts.length : Int) > 20
  · rw [decide_eq_true c1]; rfl
  rw [decide_eq_false c1, cond_false]
  obtain ⟨s, es, hs, h4⟩ := plan_blocks n
  rw [es, Option.bind_some, (begin_iff s).1 hs, Option.bind_some]
  dsimp only
  have hm := beginC_ok hs
  have hl : (beginC s).1.length = 4 := h4
  have hc : (beginC s).2.2 = 0 := rfl
  generalize beginC s = m at hm hl hc ⊢
  have key := loop_ind (step := (fun (x1 : (List ByteArray × List ByteArray × Int) × (List ByteArray × List ByteArray × Int) × Int × Int) =>
      bif decide (x1.2.2.2 < (parts.length : Int)) then
        if 0 ≤ x1.2.2.2 ∧ x1.2.2.2 < (parts.length : Int) then
          (vmfleetmake_Round.f (nth (0 : Int) parts x1.2.2.2) (3 : Int)).bind fun r4 =>
          (mirror_Copy.f x1.2.1 r4).bind fun r5 =>
          some (.inl (x1.1, r5, IntKind.wrap .i64 (x1.2.2.1 + r4), IntKind.wrap .i64 (x1.2.2.2 + 1)))
        else none
      else
        some (.inr (.inl (x1.1, x1.2.1, x1.2.2.1))))) (I := fun x : Mir × Mir × Int × Int => x.1 = m ∧ 0 ≤ x.2.2.2 ∧ x.2.2.2 ≤ parts.length ∧ 0 ≤ x.2.2.1 ∧ x.2.2.1 ≤ 3 * x.2.2.2 ∧ x.2.1 = copyN m (min x.2.2.1.toNat 4))
    (Q := fun y : (Mir × Mir × Int) ⊕ Bool => ∃ k : Nat, k ≤ 1000 ∧ y = .inl (m, copyN m (min k 4), (k : Int))) (fun x => ((parts.length : Int) - x.2.2.2).toNat) (x := (m, m, (0 : Int), (0 : Int))) ⟨rfl, Int.le_refl 0, by simp only; omega, Int.le_refl 0, by simp only; omega, (copyN_zero hm).symm⟩ (fun x hI => by
      obtain ⟨m', x, sum, i⟩ := x
      obtain ⟨j0, j1, j2, j3, j4, j5⟩ := hI
      dsimp only at j0 j1 j2 j3 j4 j5 ⊢
      subst j0
      by_cases hi : i < (parts.length : Int)
      · left
        obtain ⟨r, er, p1, p2⟩ := round_ok (nth (0 : Int) parts i) 3 (by decide) (by decide)
        obtain ⟨t, rfl⟩ := Int.eq_ofNat_of_zero_le p1
        obtain ⟨k, rfl⟩ := Int.eq_ofNat_of_zero_le j3
        rw [Int.toNat_natCast] at j5
        have hx : MOk x := by rw [j5]; exact copyN_ok hm (by omega)
        have hcp : copyC x (t : Int) = copyN m' (min (k + t) 4) := by
          unfold copyC
          rw [j5, copyN_len, copyN_cur, hl, hc, Int.toNat_natCast, copyN_add hm (by omega)]
          congr 1
          omega
        rw [decide_eq_true hi, cond_true, if_pos ⟨j1, hi⟩, er, Option.bind_some, copy_eq hx _ (by omega), Option.bind_some, hcp, wrap_i64 (by omega) (by omega), wrap_i64 (by omega) (by omega)]
        refine ⟨_, rfl, ⟨rfl, by simp only; omega, by simp only; omega, by simp only; omega, by simp only; omega, ?_⟩, by simp only; omega⟩
        dsimp only
        have : ((k : Int) + (t : Int)).toNat = k + t := by omega
        rw [this]
      · right
        rw [decide_eq_false hi]
        obtain ⟨k, rfl⟩ := Int.eq_ofNat_of_zero_le j3
        exact ⟨_, rfl, k, by omega, by rw [j5]; rfl⟩)
  obtain ⟨y, h1, k, hk, rfl⟩ := key
  refine bind32 h1 ?_
  dsimp only
  have hcp : copyC m (k : Int) = copyN m (min k 4) := by
    unfold copyC
    rw [hl, hc, Int.toNat_natCast]
    rfl
  have hok := copyN_ok hm (k := min k 4) (by omega)
  have q1 := hok.s1.2.1
  have q2 := hok.s2.2.1
  rw [cond_true, copy_eq hm _ (by omega), Option.bind_some, hcp, sameMirror_self _ (by omega) (by omega)]
  rfl

theorem vmfleetlaw32_MirrorParts.pure (x : (tup vmfleetlaw32_MirrorParts.sp.args).den) (h : WfL vmfleetlaw32_MirrorParts.sp.args x) : vmfleetlaw32_MirrorParts.sp.f x = some true :=
  mirrorParts x.1 x.2

end Go.Proofs.Ytklckjfafomlmaa.Fn
