/- The law TimerKeeps, in plain Lean: at every timer and deadline its function is true. No condition but the arguments' ranges. -/
import Derived.Test.YtacmfiddaklkiaaPureCh8
set_option linter.unusedVariables false
set_option linter.unusedSimpArgs false
namespace Go.Proofs.Ytacmfiddaklkiaa.Fn
open Go Lift

theorem timerKeeps (t : Bool × Int × Bool) (d : Int) : vmfleetlaw8_TimerKeeps.f t d = some true := by
  unfold vmfleetlaw8_TimerKeeps.f
  rw [timer_awake]
  obtain ⟨x, y, z⟩ := t
  simp only [timer_Fire.f, timer_Arm.f, timer_Pending.f, timer_May.f]
  by_cases hd : d = 0 <;> by_cases hy : y = 0 <;> cases x <;> cases z <;> simp [hd, hy]

theorem vmfleetlaw8_TimerKeeps.pure (x : (tup vmfleetlaw8_TimerKeeps.sp.args).den) (h : WfL vmfleetlaw8_TimerKeeps.sp.args x) : vmfleetlaw8_TimerKeeps.sp.f x = some true := timerKeeps x.1 x.2

end Go.Proofs.Ytacmfiddaklkiaa.Fn
