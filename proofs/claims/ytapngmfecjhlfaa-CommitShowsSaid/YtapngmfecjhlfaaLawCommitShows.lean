/- The law CommitShows holds of the given program at every input: the row's statement. No condition. -/
import Derived.Test.YtapngmfecjhlfaaRows
import Derived.Test.YtapngmfecjhlfaaPureCommitShows
import Derived.ProofKit
import Derived.WalkKit
import Derived.Deep.Draws
namespace Go.Proofs.Ytapngmfecjhlfaa.commitShows
open Go.ChangeShapes Go.WideShapes Go.ChangeAt Go.RowKit
set_option linter.unusedVariables false
theorem own : ownKnob Try.prog.godebug = none := by kernel_rfl
theorem laidOut : laidOutB Try.prog = true := by kernel_rfl
set_option maxRecDepth 100000 in
theorem lifted (os : Os) (started : os.Started) (H : Type) (enc : TypeId × Value → H) :
    ReturnsInHanded {} Try.checked os 9 .any (Rows.commitShowsSpec.pre6 enc Try.prog Try.f9 Rows.commitShowsRow.domain false) (Rows.commitShowsSpec.post enc Try.prog Try.f9 false true false false) :=
  returnsInHanded_of_change_sized (C := Try.checked) own started (by kernel_rfl) Try.func9
    (ChangeSpec.witness6 (enc := enc) (C := Try.checked) false ⟨#[], #[.string ⟨#[]⟩, .int .u64 0, .int .u8 0], []⟩ 8 (by kernel_rfl) (by kernel_rfl) (by kernel_rfl) (by kernel_rfl))
    (Lift.law_contract laidOut (g := Fn.vmfleetlaw25_CommitShows.sp.f) Fn.vmfleetlaw25_CommitShows.sound (by kernel_rfl) rfl (by kernel_rfl) rfl (fun ds h => match ds, h with | [_, _, _], _ => rfl) Fn.vmfleetlaw25_CommitShows.pure)
theorem over : Rows.commitShowsRow.holds Try.pinned (OpenSpec.ofChange Rows.commitShowsSpec) :=
  OpenClaim.holds_of_wide 9 Try.f9 rfl rfl rfl rfl rfl rfl rfl ⟨rfl, rfl, rfl, rfl, rfl⟩ rfl rfl rfl rfl rfl (by kernel_rfl) Try.func9 (by kernel_rfl)
    (of_decide_eq_true (by kernel_rfl)) (by unfold Func.isWrapper; first | (rw [if_pos (by decide +kernel)]; kernel_rfl) | (rw [if_neg (by decide +kernel)]; exact ⟨rfl, rfl⟩))
    (fun os started H enc _ => lifted os started H enc)
end Go.Proofs.Ytapngmfecjhlfaa.commitShows
namespace Go.Proofs.Ytapngmfecjhlfaa
/-- The row, under a short name, for the claim. -/
theorem commitShows_holds : Rows.CommitShowsSaid := commitShows.over
#print axioms commitShows_holds
end Go.Proofs.Ytapngmfecjhlfaa
