/- The law TimerTells holds of the given program at every input: the row's statement. No condition. -/
import Derived.Test.YtacmfiddaklkiaaRows
import Derived.Test.YtacmfiddaklkiaaPureTimerTells
import Derived.ProofKit
import Derived.WalkKit
import Derived.Deep.Draws
namespace Go.Proofs.Ytacmfiddaklkiaa.timerTells
open Go.ChangeShapes Go.WideShapes Go.ChangeAt Go.RowKit
set_option linter.unusedVariables false
theorem own : ownKnob Try.prog.godebug = none := by kernel_rfl
theorem laidOut : laidOutB Try.prog = true := by kernel_rfl
set_option maxRecDepth 100000 in
theorem lifted (os : Os) (started : os.Started) (H : Type) (enc : TypeId × Value → H) :
    ReturnsInHanded {} Try.checked os 6 .any (Rows.timerTellsSpec.pre6 enc Try.prog Try.f6 Rows.timerTellsRow.domain false) (Rows.timerTellsSpec.post enc Try.prog Try.f6 false true false false) :=
  returnsInHanded_of_change_sized (C := Try.checked) own started (by kernel_rfl) Try.func6
    (ChangeSpec.witness6 (enc := enc) (C := Try.checked) false ⟨#[], #[.agg #[.bool false, .int .u32 0, .bool false], .int .u32 0, .int .u32 0], []⟩ 8 (by kernel_rfl) (by kernel_rfl) (by kernel_rfl) (by kernel_rfl))
    (Lift.law_contract laidOut (g := Fn.vmfleetlaw8_TimerTells.sp.f) Fn.vmfleetlaw8_TimerTells.sound (by kernel_rfl) rfl (by kernel_rfl) rfl (fun ds h => match ds, h with | [_, _, _], _ => rfl) Fn.vmfleetlaw8_TimerTells.pure)
theorem over : Rows.timerTellsRow.holds Try.pinned (OpenSpec.ofChange Rows.timerTellsSpec) :=
  OpenClaim.holds_of_wide 6 Try.f6 rfl rfl rfl rfl rfl rfl rfl ⟨rfl, rfl, rfl, rfl, rfl⟩ rfl rfl rfl rfl rfl (by kernel_rfl) Try.func6 (by kernel_rfl)
    (of_decide_eq_true (by kernel_rfl)) (by unfold Func.isWrapper; first | (rw [if_pos (by decide +kernel)]; kernel_rfl) | (rw [if_neg (by decide +kernel)]; exact ⟨rfl, rfl⟩))
    (fun os started H enc _ => lifted os started H enc)
end Go.Proofs.Ytacmfiddaklkiaa.timerTells
namespace Go.Proofs.Ytacmfiddaklkiaa
/-- The row, under a short name, for the claim. -/
theorem timerTells_holds : Rows.TimerTellsSaid := timerTells.over
#print axioms timerTells_holds
end Go.Proofs.Ytacmfiddaklkiaa
