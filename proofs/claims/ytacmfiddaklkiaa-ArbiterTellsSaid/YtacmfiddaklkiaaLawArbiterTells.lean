/- The law ArbiterTells holds of the given program at every input: the row's statement. No condition. -/
import Derived.Test.YtacmfiddaklkiaaRows
import Derived.Test.YtacmfiddaklkiaaPureArbiterTells
import Derived.ProofKit
import Derived.WalkKit
import Derived.Deep.Draws
namespace Go.Proofs.Ytacmfiddaklkiaa.arbiterTells
open Go.ChangeShapes Go.WideShapes Go.ChangeAt Go.RowKit
set_option linter.unusedVariables false
theorem own : ownKnob Try.prog.godebug = none := by kernel_rfl
theorem laidOut : laidOutB Try.prog = true := by kernel_rfl
set_option maxRecDepth 100000 in
theorem lifted (os : Os) (started : os.Started) (H : Type) (enc : TypeId × Value → H) :
    ReturnsInHanded {} Try.checked os 11 .any (Rows.arbiterTellsSpec.pre6 enc Try.prog Try.f11 Rows.arbiterTellsRow.domain false) (Rows.arbiterTellsSpec.post enc Try.prog Try.f11 false true false false) :=
  returnsInHanded_of_change_sized (C := Try.checked) own started (by kernel_rfl) Try.func11
    (ChangeSpec.witness6 (enc := enc) (C := Try.checked) false ⟨#[], #[.agg #[.slice none 0 0, .int .u64 0, .int .i64 0], .int .i64 0, .int .u64 0, .int .u64 0, .agg #[.int .i64 0, .int .u64 0, .int .u32 0, .string ⟨#[]⟩]], []⟩ 8 (by kernel_rfl) (by kernel_rfl) (by kernel_rfl) (by kernel_rfl))
    (Lift.law_contract laidOut (g := Fn.vmfleetlaw26_ArbiterTells.sp.f) Fn.vmfleetlaw26_ArbiterTells.sound (by kernel_rfl) rfl (by kernel_rfl) rfl (fun ds h => match ds, h with | [_, _, _, _, _], _ => rfl) Fn.vmfleetlaw26_ArbiterTells.pure)
theorem over : Rows.arbiterTellsRow.holds Try.pinned (OpenSpec.ofChange Rows.arbiterTellsSpec) :=
  OpenClaim.holds_of_wide 11 Try.f11 rfl rfl rfl rfl rfl rfl rfl ⟨rfl, rfl, rfl, rfl, rfl⟩ rfl rfl rfl rfl rfl (by kernel_rfl) Try.func11 (by kernel_rfl)
    (of_decide_eq_true (by kernel_rfl)) (by unfold Func.isWrapper; first | (rw [if_pos (by decide +kernel)]; kernel_rfl) | (rw [if_neg (by decide +kernel)]; exact ⟨rfl, rfl⟩))
    (fun os started H enc _ => lifted os started H enc)
end Go.Proofs.Ytacmfiddaklkiaa.arbiterTells
namespace Go.Proofs.Ytacmfiddaklkiaa
/-- The row, under a short name, for the claim. -/
theorem arbiterTells_holds : Rows.ArbiterTellsSaid := arbiterTells.over
#print axioms arbiterTells_holds
end Go.Proofs.Ytacmfiddaklkiaa
