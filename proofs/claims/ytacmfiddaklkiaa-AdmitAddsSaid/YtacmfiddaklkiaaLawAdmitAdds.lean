/- The law AdmitAdds holds of the given program at every input: the row's statement. No condition. -/
import Derived.Test.YtacmfiddaklkiaaRows
import Derived.Test.YtacmfiddaklkiaaPureAdmitAdds
import Derived.ProofKit
import Derived.WalkKit
import Derived.Deep.Draws
namespace Go.Proofs.Ytacmfiddaklkiaa.admitAdds
open Go.ChangeShapes Go.WideShapes Go.ChangeAt Go.RowKit
set_option linter.unusedVariables false
theorem own : ownKnob Try.prog.godebug = none := by kernel_rfl
theorem laidOut : laidOutB Try.prog = true := by kernel_rfl
set_option maxRecDepth 100000 in
theorem lifted (os : Os) (started : os.Started) (H : Type) (enc : TypeId × Value → H) :
    ReturnsInHanded {} Try.checked os 10 .any (Rows.admitAddsSpec.pre6 enc Try.prog Try.f10 Rows.admitAddsRow.domain false) (Rows.admitAddsSpec.post enc Try.prog Try.f10 false true false false) :=
  returnsInHanded_of_change_sized (C := Try.checked) own started (by kernel_rfl) Try.func10
    (ChangeSpec.witness6 (enc := enc) (C := Try.checked) false ⟨#[], #[.slice none 0 0, .int .i64 0, .int .i64 0, .int .i64 0], []⟩ 8 (by kernel_rfl) (by kernel_rfl) (by kernel_rfl) (by kernel_rfl))
    (Lift.law_contract laidOut (g := Fn.vmfleetlaw39_AdmitAdds.sp.f) Fn.vmfleetlaw39_AdmitAdds.sound (by kernel_rfl) rfl (by kernel_rfl) rfl (fun ds h => match ds, h with | [_, _, _, _], _ => rfl) Fn.vmfleetlaw39_AdmitAdds.pure)
theorem over : Rows.admitAddsRow.holds Try.pinned (OpenSpec.ofChange Rows.admitAddsSpec) :=
  OpenClaim.holds_of_wide 10 Try.f10 rfl rfl rfl rfl rfl rfl rfl ⟨rfl, rfl, rfl, rfl, rfl⟩ rfl rfl rfl rfl rfl (by kernel_rfl) Try.func10 (by kernel_rfl)
    (of_decide_eq_true (by kernel_rfl)) (by unfold Func.isWrapper; first | (rw [if_pos (by decide +kernel)]; kernel_rfl) | (rw [if_neg (by decide +kernel)]; exact ⟨rfl, rfl⟩))
    (fun os started H enc _ => lifted os started H enc)
end Go.Proofs.Ytacmfiddaklkiaa.admitAdds
namespace Go.Proofs.Ytacmfiddaklkiaa
/-- The row, under a short name, for the claim. -/
theorem admitAdds_holds : Rows.AdmitAddsSaid := admitAdds.over
#print axioms admitAdds_holds
end Go.Proofs.Ytacmfiddaklkiaa
