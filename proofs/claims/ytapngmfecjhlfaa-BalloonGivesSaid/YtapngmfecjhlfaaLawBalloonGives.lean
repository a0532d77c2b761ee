/- The law BalloonGives holds of the given program at every input: the row's statement. No condition. -/
import Derived.Test.YtapngmfecjhlfaaRows
import Derived.Test.YtapngmfecjhlfaaPureBalloonGives
import Derived.ProofKit
import Derived.WalkKit
import Derived.Deep.Draws
namespace Go.Proofs.Ytapngmfecjhlfaa.balloonGives
open Go.ChangeShapes Go.WideShapes Go.ChangeAt Go.RowKit
set_option linter.unusedVariables false
theorem own : ownKnob Try.prog.godebug = none := by kernel_rfl
theorem laidOut : laidOutB Try.prog = true := by kernel_rfl
set_option maxRecDepth 100000 in
theorem lifted (os : Os) (started : os.Started) (H : Type) (enc : TypeId × Value → H) :
    ReturnsInHanded {} Try.checked os 3 .any (Rows.balloonGivesSpec.pre6 enc Try.prog Try.f3 Rows.balloonGivesRow.domain false) (Rows.balloonGivesSpec.post enc Try.prog Try.f3 false true false false) :=
  returnsInHanded_of_change_sized (C := Try.checked) own started (by kernel_rfl) Try.func3
    (ChangeSpec.witness6 (enc := enc) (C := Try.checked) false ⟨#[], #[.int .i64 0, .int .i64 0, .slice none 0 0], []⟩ 8 (by kernel_rfl) (by kernel_rfl) (by kernel_rfl) (by kernel_rfl))
    (Lift.law_contract laidOut (g := Fn.vmfleetlaw11_BalloonGives.sp.f) Fn.vmfleetlaw11_BalloonGives.sound (by kernel_rfl) rfl (by kernel_rfl) rfl (fun ds h => match ds, h with | [_, _, _], _ => rfl) Fn.vmfleetlaw11_BalloonGives.pure)
theorem over : Rows.balloonGivesRow.holds Try.pinned (OpenSpec.ofChange Rows.balloonGivesSpec) :=
  OpenClaim.holds_of_wide 3 Try.f3 rfl rfl rfl rfl rfl rfl rfl ⟨rfl, rfl, rfl, rfl, rfl⟩ rfl rfl rfl rfl rfl (by kernel_rfl) Try.func3 (by kernel_rfl)
    (of_decide_eq_true (by kernel_rfl)) (by unfold Func.isWrapper; first | (rw [if_pos (by decide +kernel)]; kernel_rfl) | (rw [if_neg (by decide +kernel)]; exact ⟨rfl, rfl⟩))
    (fun os started H enc _ => lifted os started H enc)
end Go.Proofs.Ytapngmfecjhlfaa.balloonGives
namespace Go.Proofs.Ytapngmfecjhlfaa
/-- The row, under a short name, for the claim. -/
theorem balloonGives_holds : Rows.BalloonGivesSaid := balloonGives.over
#print axioms balloonGives_holds
end Go.Proofs.Ytapngmfecjhlfaa
