/- The law AdmitSurvives holds of the given program at every input: the row's statement. No condition. -/
import Derived.Test.YtacmfiddaklkiabRows
import Derived.Test.YtacmfiddaklkiabPureAdmitSurvives
import Derived.ProofKit
import Derived.WalkKit
import Derived.Deep.Draws
namespace Go.Proofs.Ytacmfiddaklkiab.admitSurvives
open Go.ChangeShapes Go.WideShapes Go.ChangeAt Go.RowKit
set_option linter.unusedVariables false
theorem own : ownKnob Try.prog.godebug = none := by kernel_rfl
theorem laidOut : laidOutB Try.prog = true := by kernel_rfl
set_option maxRecDepth 100000 in
theorem lifted (os : Os) (started : os.Started) (H : Type) (enc : TypeId × Value → H) :
    ReturnsInHanded {} Try.checked os 3 .any (Rows.admitSurvivesSpec.pre6 enc Try.prog Try.f3 Rows.admitSurvivesRow.domain false) (Rows.admitSurvivesSpec.post enc Try.prog Try.f3 false true false false) :=
  returnsInHanded_of_change_sized (C := Try.checked) own started (by kernel_rfl) Try.func3
    (ChangeSpec.witness6 (enc := enc) (C := Try.checked) false ⟨#[], #[.slice none 0 0, .slice none 0 0, .slice none 0 0], []⟩ 8 (by kernel_rfl) (by kernel_rfl) (by kernel_rfl) (by kernel_rfl))
    (Lift.law_contract laidOut (g := Fn.vmfleetlaw39_AdmitSurvives.sp.f) Fn.vmfleetlaw39_AdmitSurvives.sound (by kernel_rfl) rfl (by kernel_rfl) rfl (fun ds h => match ds, h with | [_, _, _], _ => rfl) Fn.vmfleetlaw39_AdmitSurvives.pure)
theorem over : Rows.admitSurvivesRow.holds Try.pinned (OpenSpec.ofChange Rows.admitSurvivesSpec) :=
  OpenClaim.holds_of_wide 3 Try.f3 rfl rfl rfl rfl rfl rfl rfl ⟨rfl, rfl, rfl, rfl, rfl⟩ rfl rfl rfl rfl rfl (by kernel_rfl) Try.func3 (by kernel_rfl)
    (of_decide_eq_true (by kernel_rfl)) (by unfold Func.isWrapper; first | (rw [if_pos (by decide +kernel)]; kernel_rfl) | (rw [if_neg (by decide +kernel)]; exact ⟨rfl, rfl⟩))
    (fun os started H enc _ => lifted os started H enc)
end Go.Proofs.Ytacmfiddaklkiab.admitSurvives
namespace Go.Proofs.Ytacmfiddaklkiab
/-- The row, under a short name, for the claim. -/
theorem admitSurvives_holds : Rows.AdmitSurvivesSaid := admitSurvives.over
#print axioms admitSurvives_holds
end Go.Proofs.Ytacmfiddaklkiab
