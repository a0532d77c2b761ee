/- The law BalloonTells holds of the given program at every input: the row's statement. No condition. -/
import Derived.Test.YtapngmfecjhlfaaRows
import Derived.Test.YtapngmfecjhlfaaPureBalloonTells
import Derived.ProofKit
import Derived.WalkKit
import Derived.Deep.Draws
namespace Go.Proofs.Ytapngmfecjhlfaa.balloonTells
open Go.ChangeShapes Go.WideShapes Go.ChangeAt Go.RowKit
set_option linter.unusedVariables false
theorem own : ownKnob Try.prog.godebug = none := by kernel_rfl
theorem laidOut : laidOutB Try.prog = true := by kernel_rfl
set_option maxRecDepth 100000 in
theorem lifted (os : Os) (started : os.Started) (H : Type) (enc : TypeId × Value → H) :
    ReturnsInHanded {} Try.checked os 5 .any (Rows.balloonTellsSpec.pre6 enc Try.prog Try.f5 Rows.balloonTellsRow.domain false) (Rows.balloonTellsSpec.post enc Try.prog Try.f5 false true false false) :=
  returnsInHanded_of_change_sized (C := Try.checked) own started (by kernel_rfl) Try.func5
    (ChangeSpec.witness6 (enc := enc) (C := Try.checked) false ⟨#[], #[.agg #[.int .u32 0, .int .u32 0], .int .i64 0, .int .i64 0, .int .i64 0, .int .u32 0, .bool false], []⟩ 8 (by kernel_rfl) (by kernel_rfl) (by kernel_rfl) (by kernel_rfl))
    (Lift.law_contract laidOut (g := Fn.vmfleetlaw11_BalloonTells.sp.f) Fn.vmfleetlaw11_BalloonTells.sound (by kernel_rfl) rfl (by kernel_rfl) rfl (fun ds h => match ds, h with | [_, _, _, _, _, _], _ => rfl) Fn.vmfleetlaw11_BalloonTells.pure)
theorem over : Rows.balloonTellsRow.holds Try.pinned (OpenSpec.ofChange Rows.balloonTellsSpec) :=
  OpenClaim.holds_of_wide 5 Try.f5 rfl rfl rfl rfl rfl rfl rfl ⟨rfl, rfl, rfl, rfl, rfl⟩ rfl rfl rfl rfl rfl (by kernel_rfl) Try.func5 (by kernel_rfl)
    (of_decide_eq_true (by kernel_rfl)) (by unfold Func.isWrapper; first | (rw [if_pos (by decide +kernel)]; kernel_rfl) | (rw [if_neg (by decide +kernel)]; exact ⟨rfl, rfl⟩))
    (fun os started H enc _ => lifted os started H enc)
end Go.Proofs.Ytapngmfecjhlfaa.balloonTells
namespace Go.Proofs.Ytapngmfecjhlfaa
/-- The row, under a short name, for the claim. -/
theorem balloonTells_holds : Rows.BalloonTellsSaid := balloonTells.over
#print axioms balloonTells_holds
end Go.Proofs.Ytapngmfecjhlfaa
