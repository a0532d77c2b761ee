/- The law ArbiterRepeats holds of the given program at every input: the row's statement. No condition. -/
import Derived.Test.YtacmfiddaklkiaaRows
import Derived.Test.YtacmfiddaklkiaaPureArbiterRepeats
import Derived.ProofKit
import Derived.WalkKit
import Derived.Deep.Draws
namespace Go.Proofs.Ytacmfiddaklkiaa.arbiterRepeats
open Go.ChangeShapes Go.WideShapes Go.ChangeAt Go.RowKit
set_option linter.unusedVariables false
theorem own : ownKnob Try.prog.godebug = none := by kernel_rfl
theorem laidOut : laidOutB Try.prog = true := by kernel_rfl
set_option maxRecDepth 100000 in
theorem lifted (os : Os) (started : os.Started) (H : Type) (enc : TypeId × Value → H) :
    ReturnsInHanded {} Try.checked os 14 .any (Rows.arbiterRepeatsSpec.pre6 enc Try.prog Try.f14 Rows.arbiterRepeatsRow.domain false) (Rows.arbiterRepeatsSpec.post enc Try.prog Try.f14 false true false false) :=
  returnsInHanded_of_change_sized (C := Try.checked) own started (by kernel_rfl) Try.func14
    (ChangeSpec.witness6 (enc := enc) (C := Try.checked) false ⟨#[], #[.int .i64 0, .int .i64 0, .string ⟨#[]⟩, .bool false], []⟩ 8 (by kernel_rfl) (by kernel_rfl) (by kernel_rfl) (by kernel_rfl))
    (Lift.law_contract laidOut (g := Fn.vmfleetlaw26_ArbiterRepeats.sp.f) Fn.vmfleetlaw26_ArbiterRepeats.sound (by kernel_rfl) rfl (by kernel_rfl) rfl (fun ds h => match ds, h with | [_, _, _, _], _ => rfl) Fn.vmfleetlaw26_ArbiterRepeats.pure)
theorem over : Rows.arbiterRepeatsRow.holds Try.pinned (OpenSpec.ofChange Rows.arbiterRepeatsSpec) :=
  OpenClaim.holds_of_wide 14 Try.f14 rfl rfl rfl rfl rfl rfl rfl ⟨rfl, rfl, rfl, rfl, rfl⟩ rfl rfl rfl rfl rfl (by kernel_rfl) Try.func14 (by kernel_rfl)
    (of_decide_eq_true (by kernel_rfl)) (by unfold Func.isWrapper; first | (rw [if_pos (by decide +kernel)]; kernel_rfl) | (rw [if_neg (by decide +kernel)]; exact ⟨rfl, rfl⟩))
    (fun os started H enc _ => lifted os started H enc)
end Go.Proofs.Ytacmfiddaklkiaa.arbiterRepeats
namespace Go.Proofs.Ytacmfiddaklkiaa
/-- The row, under a short name, for the claim. -/
theorem arbiterRepeats_holds : Rows.ArbiterRepeatsSaid := arbiterRepeats.over
#print axioms arbiterRepeats_holds
end Go.Proofs.Ytacmfiddaklkiaa
