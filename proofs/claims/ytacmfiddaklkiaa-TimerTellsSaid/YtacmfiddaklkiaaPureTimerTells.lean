/- The law TimerTells, in plain Lean: at every timer, deadline and time its function is true. No condition but the arguments' ranges. -/
import Derived.Test.YtacmfiddaklkiaaPureCh8
set_option linter.unusedVariables false
set_option linter.unusedSimpArgs false
namespace Go.Proofs.Ytacmfiddaklkiaa.Fn
open Go Lift

theorem timerTells (a : Bool × Int × Bool) (d n : Int) : vmfleetlaw8_TimerTells.f a d n = some true := by
  unfold vmfleetlaw8_TimerTells.f
  rw [timer_awake]
  obtain ⟨x, y, z⟩ := a
  simp only [timer_Fire.f, vmfleetref7_Fire.f, timer_Arm.f, vmfleetref7_Arm.f, timer_Due.f, vmfleetref7_Due.f, timer_In.f, vmfleetref7_TimerIn.f, timer_Pending.f, vmfleetref7_TimerPending.f, timer_May.f, vmfleetref7_TimerMay.f]
  by_cases hd : d = 0 <;> cases x <;> cases z <;> simp [hd]

theorem vmfleetlaw8_TimerTells.pure (x : (tup vmfleetlaw8_TimerTells.sp.args).den) (h : WfL vmfleetlaw8_TimerTells.sp.args x) : vmfleetlaw8_TimerTells.sp.f x = some true := timerTells x.1 x.2.1 x.2.2

end Go.Proofs.Ytacmfiddaklkiaa.Fn
