/- The law BalloonAsks, in plain Lean: at every input its function is true. No condition but the arguments' ranges. -/
import Derived.Test.YtapngmfecjhlfaaPureCh11
set_option linter.unusedVariables false
set_option linter.unusedSimpArgs false
namespace Go.Proofs.Ytapngmfecjhlfaa.Fn
open Go Lift

theorem balloonAsks (given target : Int) (h0 : 0 ≤ given) (h1 : given ≤ 4294967295) (h2 : 0 ≤ target) : vmfleetlaw11_BalloonAsks.f given target = some true := by
  unfold vmfleetlaw11_BalloonAsks.f
  rw [vmfleetlaw11_awake.ok]
  obtain ⟨a, rfl⟩ := Int.eq_ofNat_of_zero_le h0
  have ha : a ≤ 4294967295 := by omega
  rw [loop_from ((0 : Int), (0 : Int)) (fun i : Nat => (((popB a i : Nat) : Int), (i : Int))) 32 (Sum.inl ((popB a 32 : Nat) : Int)) rfl ?h1 ?h2, Option.bind_some]
  case h2 => rfl
  case h1 =>
    intro i hi
    have b1 : (i : Int) < 32 := by omega
    have w : IntKind.wrap .u64 (i : Int) = (i : Int) := wrap_u64 (by omega) (by omega)
    have hs : a >>> i ≤ 4294967295 := by rw [Nat.shiftRight_eq_div_pow]; exact Nat.le_trans (Nat.div_le_self _ _) ha
    have hp := popB_le a i
    have ht : (a.testBit i).toNat ≤ 1 := by cases a.testBit i <;> decide
    dsimp only
    rw [decide_eq_true b1, cond_true, w, if_pos (by omega), shr_nat (by omega), show andI .u32 ((a >>> i : Nat) : Int) 1 = (((a >>> i) &&& 1 : Nat) : Int) from and_nat hs (by decide), bit_and_one]
    rw [wrap_i64 (n := (((a.testBit i).toNat : Nat) : Int)) (by omega) (by omega), wrap_i64 (n := _ + (((a.testBit i).toNat : Nat) : Int)) (by omega) (by omega), wrap_i64 (n := (i : Int) + 1) (by omega) (by omega)]
    rfl
  dsimp only
  have hp := popB_le a 32
  unfold balloon_Pending.f balloon_In.f
  rw [count_eq ha]
  generalize Int.tmod target 40 = t
  simp only [Option.bind_some, beq_self_eq_true, cond_true, decide_true, show ¬ (11 : Int) = 10 by decide, decide_false, cond_false]

theorem vmfleetlaw11_BalloonAsks.pure (x : (tup vmfleetlaw11_BalloonAsks.sp.args).den) (h : WfL vmfleetlaw11_BalloonAsks.sp.args x) : vmfleetlaw11_BalloonAsks.sp.f x = some true :=
  balloonAsks x.1 x.2 h.1.1 h.1.2 h.2.1

end Go.Proofs.Ytapngmfecjhlfaa.Fn
