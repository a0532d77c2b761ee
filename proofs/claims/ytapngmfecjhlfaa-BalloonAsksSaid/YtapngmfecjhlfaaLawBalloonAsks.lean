/- The law BalloonAsks holds of the given program at every input: the row's statement. No condition. -/
import Derived.Test.YtapngmfecjhlfaaRows
import Derived.Test.YtapngmfecjhlfaaPureBalloonAsks
import Derived.ProofKit
import Derived.WalkKit
import Derived.Deep.Draws
namespace Go.Proofs.Ytapngmfecjhlfaa.balloonAsks
open Go.ChangeShapes Go.WideShapes Go.ChangeAt Go.RowKit
set_option linter.unusedVariables false
theorem own : ownKnob Try.prog.godebug = none := by kernel_rfl
theorem laidOut : laidOutB Try.prog = true := by kernel_rfl
set_option maxRecDepth 100000 in
theorem lifted (os : Os) (started : os.Started) (H : Type) (enc : TypeId × Value → H) :
    ReturnsInHanded {} Try.checked os 4 .any (Rows.balloonAsksSpec.pre6 enc Try.prog Try.f4 Rows.balloonAsksRow.domain false) (Rows.balloonAsksSpec.post enc Try.prog Try.f4 false true false false) :=
  returnsInHanded_of_change_sized (C := Try.checked) own started (by kernel_rfl) Try.func4
    (ChangeSpec.witness6 (enc := enc) (C := Try.checked) false ⟨#[], #[.int .u32 0, .int .u32 0], []⟩ 8 (by kernel_rfl) (by kernel_rfl) (by kernel_rfl) (by kernel_rfl))
    (Lift.law_contract laidOut (g := Fn.vmfleetlaw11_BalloonAsks.sp.f) Fn.vmfleetlaw11_BalloonAsks.sound (by kernel_rfl) rfl (by kernel_rfl) rfl (fun ds h => match ds, h with | [_, _], _ => rfl) Fn.vmfleetlaw11_BalloonAsks.pure)
theorem over : Rows.balloonAsksRow.holds Try.pinned (OpenSpec.ofChange Rows.balloonAsksSpec) :=
  OpenClaim.holds_of_wide 4 Try.f4 rfl rfl rfl rfl rfl rfl rfl ⟨rfl, rfl, rfl, rfl, rfl⟩ rfl rfl rfl rfl rfl (by kernel_rfl) Try.func4 (by kernel_rfl)
    (of_decide_eq_true (by kernel_rfl)) (by unfold Func.isWrapper; first | (rw [if_pos (by decide +kernel)]; kernel_rfl) | (rw [if_neg (by decide +kernel)]; exact ⟨rfl, rfl⟩))
    (fun os started H enc _ => lifted os started H enc)
end Go.Proofs.Ytapngmfecjhlfaa.balloonAsks
namespace Go.Proofs.Ytapngmfecjhlfaa
/-- The row, under a short name, for the claim. -/
theorem balloonAsks_holds : Rows.BalloonAsksSaid := balloonAsks.over
#print axioms balloonAsks_holds
end Go.Proofs.Ytapngmfecjhlfaa
