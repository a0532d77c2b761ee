/- The law AdmitFits holds of the given program at every input: the row's statement. No condition. -/
import Derived.Test.YtacmfiddaklkiaaRows
import Derived.Test.YtacmfiddaklkiaaPureAdmitFits
import Derived.ProofKit
import Derived.WalkKit
import Derived.Deep.Draws
namespace Go.Proofs.Ytacmfiddaklkiaa.admitFits
open Go.ChangeShapes Go.WideShapes Go.ChangeAt Go.RowKit
set_option linter.unusedVariables false
theorem own : ownKnob Try.prog.godebug = none := by kernel_rfl
theorem laidOut : laidOutB Try.prog = true := by kernel_rfl
set_option maxRecDepth 100000 in
theorem lifted (os : Os) (started : os.Started) (H : Type) (enc : TypeId × Value → H) :
    ReturnsInHanded {} Try.checked os 9 .any (Rows.admitFitsSpec.pre6 enc Try.prog Try.f9 Rows.admitFitsRow.domain false) (Rows.admitFitsSpec.post enc Try.prog Try.f9 false true false false) :=
  returnsInHanded_of_change_sized (C := Try.checked) own started (by kernel_rfl) Try.func9
    (ChangeSpec.witness6 (enc := enc) (C := Try.checked) false ⟨#[], #[.slice none 0 0, .int .i64 0, .int .i64 0, .bool false, .int .i64 0], []⟩ 8 (by kernel_rfl) (by kernel_rfl) (by kernel_rfl) (by kernel_rfl))
    (Lift.law_contract laidOut (g := Fn.vmfleetlaw39_AdmitFits.sp.f) Fn.vmfleetlaw39_AdmitFits.sound (by kernel_rfl) rfl (by kernel_rfl) rfl (fun ds h => match ds, h with | [_, _, _, _, _], _ => rfl) Fn.vmfleetlaw39_AdmitFits.pure)
theorem over : Rows.admitFitsRow.holds Try.pinned (OpenSpec.ofChange Rows.admitFitsSpec) :=
  OpenClaim.holds_of_wide 9 Try.f9 rfl rfl rfl rfl rfl rfl rfl ⟨rfl, rfl, rfl, rfl, rfl⟩ rfl rfl rfl rfl rfl (by kernel_rfl) Try.func9 (by kernel_rfl)
    (of_decide_eq_true (by kernel_rfl)) (by unfold Func.isWrapper; first | (rw [if_pos (by decide +kernel)]; kernel_rfl) | (rw [if_neg (by decide +kernel)]; exact ⟨rfl, rfl⟩))
    (fun os started H enc _ => lifted os started H enc)
end Go.Proofs.Ytacmfiddaklkiaa.admitFits
namespace Go.Proofs.Ytacmfiddaklkiaa
/-- The row, under a short name, for the claim. -/
theorem admitFits_holds : Rows.AdmitFitsSaid := admitFits.over
#print axioms admitFits_holds
end Go.Proofs.Ytacmfiddaklkiaa
