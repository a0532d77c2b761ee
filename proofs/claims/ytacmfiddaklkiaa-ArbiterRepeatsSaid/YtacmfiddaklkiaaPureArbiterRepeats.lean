/- The law ArbiterRepeats, in plain Lean: at every input its function is true. No condition but the arguments' ranges. -/
import Derived.Test.YtacmfiddaklkiaaPureCh26
set_option linter.unusedVariables false
set_option linter.unusedSimpArgs false
namespace Go.Proofs.Ytacmfiddaklkiaa.Fn
open Go Lift

theorem arbiterRepeats (n block : Int) (data : ByteArray) (read : Bool) : vmfleetlaw26_ArbiterRepeats.f n block data read = some true := by
  unfold vmfleetlaw26_ArbiterRepeats.f
  rw [arbiter_awake]
  by_cases hd : (data.size : Int) > 300
  · simp [hd]
  simp only [hd, decide_false, cond_false]
  obtain ⟨bs, e1, b1, b2⟩ := blocks_ok n
  have hlen : bs.length ≤ 1000000 := by omega
  have v0 : validS (bs, 0, -1) = true := valid_mk b1 b2 (by decide) (by decide)
  have v1 : validS (bs, 1, 0) = true := valid_mk b1 b2 (by decide) (by decide)
  have hn : newOf bs = ((bs, 0, -1), true) := by simp [newOf, v0]
  have c1 : claimOf (bs, 0, -1) 0 0 = ((bs, 1, 0), true) := by simp [claimOf, v0]
  rw [e1]
  simp only [Option.bind_some]
  rw [new_eqA _ hlen, hn]
  simp only [Option.bind_some]
  rw [claim_eqA _ _ _ hlen (by decide), c1]
  have hw := wrap_u32_range block
  generalize IntKind.wrap .u32 block = w at hw ⊢
  simp only [Option.bind_some]
  cases read with
  | true =>
    simp only [cond_true, Option.bind_some]
    rw [exec_eqA _ _ _ hlen hw.1 hw.2]
    by_cases h4 : w < 4
    · have hx : execOf (bs, 1, 0) 1 (3, 0, w, ⟨#[]⟩) = ((bs, 1, 0), (4, 1, nth ⟨#[]⟩ bs w), true) := by
        have : ¬ 4 ≤ w := by omega
        simp [execOf, v1, b1, this]
      rw [hx]
      simp only [Option.bind_some]
      rw [exec_eqA _ _ _ hlen hw.1 hw.2, hx]
      simp only [Option.bind_some, cond_true, decide_true]
      rw [sameStore_refl _ hlen]
      simp [h4]
    · have hx : execOf (bs, 1, 0) 1 (3, 0, w, ⟨#[]⟩) = ((bs, 1, 0), (4, 0, ⟨#[]⟩), true) := by
        have : 4 ≤ w := by omega
        simp [execOf, v1, b1, this]
      rw [hx]
      simp only [Option.bind_some]
      rw [exec_eqA _ _ _ hlen hw.1 hw.2, hx]
      simp only [Option.bind_some, cond_true, decide_true]
      rw [sameStore_refl _ hlen]
      simp [h4]
  | false =>
    simp only [cond_false, Option.bind_some]
    rw [exec_eqA _ _ _ hlen hw.1 hw.2]
    by_cases h4 : w < 4
    · by_cases h5 : (data.size : Int) = 128
      · have hx : execOf (bs, 1, 0) 1 (4, 0, w, data) = ((put bs w data, 1, 0), (4, 1, ⟨#[]⟩), true) := by
          have : ¬ 4 ≤ w := by omega
          simp [execOf, v1, b1, this, h5]
        have hp : (put bs w data).length = 4 := by simp [put, b1]
        have hpl : (put bs w data).length ≤ 1000000 := by omega
        have v2 : validS (put bs w data, 1, 0) = true := valid_mk hp (put_all b2 (by simp [bytesB, h5])) (by decide) (by decide)
        have hpp : put (put bs w data) w data = put bs w data := by simp [put]
        have hx2 : execOf (put bs w data, 1, 0) 1 (4, 0, w, data) = ((put bs w data, 1, 0), (4, 1, ⟨#[]⟩), true) := by
          have : ¬ 4 ≤ w := by omega
          simp [execOf, v2, hp, this, h5, hpp]
        rw [hx]
        simp only [Option.bind_some]
        rw [exec_eqA _ _ _ hpl hw.1 hw.2, hx2]
        simp only [Option.bind_some, cond_true, decide_true]
        rw [sameStore_refl _ hpl]
        simp [h4, h5]
      · have hx : execOf (bs, 1, 0) 1 (4, 0, w, data) = ((bs, 1, 0), (4, 0, ⟨#[]⟩), true) := by
          have : ¬ 4 ≤ w := by omega
          simp [execOf, v1, b1, this, h5]
        rw [hx]
        simp only [Option.bind_some]
        rw [exec_eqA _ _ _ hlen hw.1 hw.2, hx]
        simp only [Option.bind_some, cond_true, decide_true]
        rw [sameStore_refl _ hlen]
        simp [h4, h5]
    · have hx : execOf (bs, 1, 0) 1 (4, 0, w, data) = ((bs, 1, 0), (4, 0, ⟨#[]⟩), true) := by
        have : 4 ≤ w := by omega
        simp [execOf, v1, b1, this]
      rw [hx]
      simp only [Option.bind_some]
      rw [exec_eqA _ _ _ hlen hw.1 hw.2, hx]
      simp only [Option.bind_some, cond_true, decide_true]
      rw [sameStore_refl _ hlen]
      simp [h4]

theorem vmfleetlaw26_ArbiterRepeats.pure (x : (tup vmfleetlaw26_ArbiterRepeats.sp.args).den) (h : WfL vmfleetlaw26_ArbiterRepeats.sp.args x) : vmfleetlaw26_ArbiterRepeats.sp.f x = some true := arbiterRepeats x.1 x.2.1 x.2.2.1 x.2.2.2

end Go.Proofs.Ytacmfiddaklkiaa.Fn
