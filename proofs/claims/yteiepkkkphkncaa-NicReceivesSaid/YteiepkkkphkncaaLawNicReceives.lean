/- The law NicReceives holds of the given program at every input: the row's statement. No condition. -/
import Derived.Test.YteiepkkkphkncaaRows
import Derived.Test.YteiepkkkphkncaaPureNicReceives
import Derived.ProofKit
import Derived.WalkKit
import Derived.Deep.Draws
namespace Go.Proofs.Yteiepkkkphkncaa.nicReceives
open Go.ChangeShapes Go.WideShapes Go.ChangeAt Go.RowKit
set_option linter.unusedVariables false
theorem own : ownKnob Try.prog.godebug = none := by kernel_rfl
theorem laidOut : laidOutB Try.prog = true := by kernel_rfl
set_option maxRecDepth 100000 in
theorem lifted (os : Os) (started : os.Started) (H : Type) (enc : TypeId × Value → H) :
    ReturnsInHanded {} Try.checked os 7 .any (Rows.nicReceivesSpec.pre6 enc Try.prog Try.f7 Rows.nicReceivesRow.domain false) (Rows.nicReceivesSpec.post enc Try.prog Try.f7 false true false false) :=
  returnsInHanded_of_change_sized (C := Try.checked) own started (by kernel_rfl) Try.func7
    (ChangeSpec.witness6 (enc := enc) (C := Try.checked) false ⟨#[], #[.agg #[.int .u32 0, .int .u32 0, .bool false, .int .u32 0, .bool false, .int .u32 0], .bool false, .int .i64 0, .int .i64 0, .string ⟨#[]⟩, .bool false], []⟩ 8 (by kernel_rfl) (by kernel_rfl) (by kernel_rfl) (by kernel_rfl))
    (Lift.law_contract laidOut (g := Fn.vmfleetlaw10_NicReceives.sp.f) Fn.vmfleetlaw10_NicReceives.sound (by kernel_rfl) rfl (by kernel_rfl) rfl (fun ds h => match ds, h with | [_, _, _, _, _, _], _ => rfl) Fn.vmfleetlaw10_NicReceives.pure)
theorem over : Rows.nicReceivesRow.holds Try.pinned (OpenSpec.ofChange Rows.nicReceivesSpec) :=
  OpenClaim.holds_of_wide 7 Try.f7 rfl rfl rfl rfl rfl rfl rfl ⟨rfl, rfl, rfl, rfl, rfl⟩ rfl rfl rfl rfl rfl (by kernel_rfl) Try.func7 (by kernel_rfl)
    (of_decide_eq_true (by kernel_rfl)) (by unfold Func.isWrapper; first | (rw [if_pos (by decide +kernel)]; kernel_rfl) | (rw [if_neg (by decide +kernel)]; exact ⟨rfl, rfl⟩))
    (fun os started H enc _ => lifted os started H enc)
end Go.Proofs.Yteiepkkkphkncaa.nicReceives
namespace Go.Proofs.Yteiepkkkphkncaa
/-- The row, under a short name, for the claim. -/
theorem nicReceives_holds : Rows.NicReceivesSaid := nicReceives.over
#print axioms nicReceives_holds
end Go.Proofs.Yteiepkkkphkncaa
