/- The timer's functions (chapter 8), in plain Lean. -/
import Derived.Test.YtacmfiddaklkiaaFns
set_option linter.unusedVariables false
namespace Go.Proofs.Ytacmfiddaklkiaa.Fn
open Go Lift

theorem timer_awake : vmfleetlaw8_awake.f = some true := by kernel_rfl

end Go.Proofs.Ytacmfiddaklkiaa.Fn
