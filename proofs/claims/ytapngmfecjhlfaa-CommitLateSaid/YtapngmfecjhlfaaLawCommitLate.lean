/- The law CommitLate holds of the given program at every input: the row's statement. No condition. -/
import Derived.Test.YtapngmfecjhlfaaRows
import Derived.Test.YtapngmfecjhlfaaPureCommitLate
import Derived.ProofKit
import Derived.WalkKit
import Derived.Deep.Draws
namespace Go.Proofs.Ytapngmfecjhlfaa.commitLate
open Go.ChangeShapes Go.WideShapes Go.ChangeAt Go.RowKit
set_option linter.unusedVariables false
theorem own : ownKnob Try.prog.godebug = none := by kernel_rfl
theorem laidOut : laidOutB Try.prog = true := by kernel_rfl
set_option maxRecDepth 100000 in
theorem lifted (os : Os) (started : os.Started) (H : Type) (enc : TypeId × Value → H) :
    ReturnsInHanded {} Try.checked os 8 .any (Rows.commitLateSpec.pre6 enc Try.prog Try.f8 Rows.commitLateRow.domain false) (Rows.commitLateSpec.post enc Try.prog Try.f8 false true false false) :=
  returnsInHanded_of_change_sized (C := Try.checked) own started (by kernel_rfl) Try.func8
    (ChangeSpec.witness6 (enc := enc) (C := Try.checked) false ⟨#[], #[.slice none 0 0, .int .u64 0], []⟩ 8 (by kernel_rfl) (by kernel_rfl) (by kernel_rfl) (by kernel_rfl))
    (Lift.law_contract laidOut (g := Fn.vmfleetlaw25_CommitLate.sp.f) Fn.vmfleetlaw25_CommitLate.sound (by kernel_rfl) rfl (by kernel_rfl) rfl (fun ds h => match ds, h with | [_, _], _ => rfl) Fn.vmfleetlaw25_CommitLate.pure)
theorem over : Rows.commitLateRow.holds Try.pinned (OpenSpec.ofChange Rows.commitLateSpec) :=
  OpenClaim.holds_of_wide 8 Try.f8 rfl rfl rfl rfl rfl rfl rfl ⟨rfl, rfl, rfl, rfl, rfl⟩ rfl rfl rfl rfl rfl (by kernel_rfl) Try.func8 (by kernel_rfl)
    (of_decide_eq_true (by kernel_rfl)) (by unfold Func.isWrapper; first | (rw [if_pos (by decide +kernel)]; kernel_rfl) | (rw [if_neg (by decide +kernel)]; exact ⟨rfl, rfl⟩))
    (fun os started H enc _ => lifted os started H enc)
end Go.Proofs.Ytapngmfecjhlfaa.commitLate
namespace Go.Proofs.Ytapngmfecjhlfaa
/-- The row, under a short name, for the claim. -/
theorem commitLate_holds : Rows.CommitLateSaid := commitLate.over
#print axioms commitLate_holds
end Go.Proofs.Ytapngmfecjhlfaa
