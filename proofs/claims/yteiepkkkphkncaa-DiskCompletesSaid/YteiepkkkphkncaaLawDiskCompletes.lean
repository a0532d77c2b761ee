/- The law DiskCompletes holds of the given program at every input: the row's statement. No condition. -/
import Derived.Test.YteiepkkkphkncaaRows
import Derived.Test.YteiepkkkphkncaaPureDiskCompletes
import Derived.ProofKit
import Derived.WalkKit
import Derived.Deep.Draws
namespace Go.Proofs.Yteiepkkkphkncaa.diskCompletes
open Go.ChangeShapes Go.WideShapes Go.ChangeAt Go.RowKit
set_option linter.unusedVariables false
theorem own : ownKnob Try.prog.godebug = none := by kernel_rfl
theorem laidOut : laidOutB Try.prog = true := by kernel_rfl
set_option maxRecDepth 100000 in
theorem lifted (os : Os) (started : os.Started) (H : Type) (enc : TypeId × Value → H) :
    ReturnsInHanded {} Try.checked os 10 .any (Rows.diskCompletesSpec.pre6 enc Try.prog Try.f10 Rows.diskCompletesRow.domain false) (Rows.diskCompletesSpec.post enc Try.prog Try.f10 false true false false) :=
  returnsInHanded_of_change_sized (C := Try.checked) own started (by kernel_rfl) Try.func10
    (ChangeSpec.witness6 (enc := enc) (C := Try.checked) false ⟨#[], #[.agg #[.int .u32 0, .int .u32 0, .int .u32 0, .int .i64 0, .int .i64 0, .int .u32 0, .int .u32 0, .string ⟨#[]⟩], .bool false, .int .i64 0, .int .i64 0, .agg #[.int .i64 0, .int .u32 0, .string ⟨#[]⟩], .bool false], []⟩ 8 (by kernel_rfl) (by kernel_rfl) (by kernel_rfl) (by kernel_rfl))
    (Lift.law_contract laidOut (g := Fn.vmfleetlaw9_DiskCompletes.sp.f) Fn.vmfleetlaw9_DiskCompletes.sound (by kernel_rfl) rfl (by kernel_rfl) rfl (fun ds h => match ds, h with | [_, _, _, _, _, _], _ => rfl) Fn.vmfleetlaw9_DiskCompletes.pure)
theorem over : Rows.diskCompletesRow.holds Try.pinned (OpenSpec.ofChange Rows.diskCompletesSpec) :=
  OpenClaim.holds_of_wide 10 Try.f10 rfl rfl rfl rfl rfl rfl rfl ⟨rfl, rfl, rfl, rfl, rfl⟩ rfl rfl rfl rfl rfl (by kernel_rfl) Try.func10 (by kernel_rfl)
    (of_decide_eq_true (by kernel_rfl)) (by unfold Func.isWrapper; first | (rw [if_pos (by decide +kernel)]; kernel_rfl) | (rw [if_neg (by decide +kernel)]; exact ⟨rfl, rfl⟩))
    (fun os started H enc _ => lifted os started H enc)
end Go.Proofs.Yteiepkkkphkncaa.diskCompletes
namespace Go.Proofs.Yteiepkkkphkncaa
/-- The row, under a short name, for the claim. -/
theorem diskCompletes_holds : Rows.DiskCompletesSaid := diskCompletes.over
#print axioms diskCompletes_holds
end Go.Proofs.Yteiepkkkphkncaa
