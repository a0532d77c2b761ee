/- The law BalanceChooses holds of the given program at every input: the row's statement. No condition. -/
import Derived.Test.YtondojojpgmjcaaRows
import Derived.Test.YtondojojpgmjcaaPureBalanceChooses
import Derived.ProofKit
import Derived.WalkKit
import Derived.Deep.Draws
namespace Go.Proofs.Ytondojojpgmjcaa.balanceChooses
open Go.ChangeShapes Go.WideShapes Go.ChangeAt Go.RowKit
set_option linter.unusedVariables false
theorem own : ownKnob Try.prog.godebug = none := by kernel_rfl
theorem laidOut : laidOutB Try.prog = true := by kernel_rfl
set_option maxRecDepth 100000 in
theorem lifted (os : Os) (started : os.Started) (H : Type) (enc : TypeId × Value → H) :
    ReturnsInHanded {} Try.checked os 5 .any (Rows.balanceChoosesSpec.pre6 enc Try.prog Try.f5 Rows.balanceChoosesRow.domain false) (Rows.balanceChoosesSpec.post enc Try.prog Try.f5 false true false false) :=
  returnsInHanded_of_change_sized (C := Try.checked) own started (by kernel_rfl) Try.func5
    (ChangeSpec.witness6 (enc := enc) (C := Try.checked) false ⟨#[], #[.slice none 0 0, .slice none 0 0, .int .i64 0, .int .i64 0], []⟩ 8 (by kernel_rfl) (by kernel_rfl) (by kernel_rfl) (by kernel_rfl))
    (Lift.law_contract laidOut (g := Fn.vmfleetlaw40_BalanceChooses.sp.f) Fn.vmfleetlaw40_BalanceChooses.sound (by kernel_rfl) rfl (by kernel_rfl) rfl (fun ds h => match ds, h with | [_, _, _, _], _ => rfl) Fn.vmfleetlaw40_BalanceChooses.pure)
theorem over : Rows.balanceChoosesRow.holds Try.pinned (OpenSpec.ofChange Rows.balanceChoosesSpec) :=
  OpenClaim.holds_of_wide 5 Try.f5 rfl rfl rfl rfl rfl rfl rfl ⟨rfl, rfl, rfl, rfl, rfl⟩ rfl rfl rfl rfl rfl (by kernel_rfl) Try.func5 (by kernel_rfl)
    (of_decide_eq_true (by kernel_rfl)) (by unfold Func.isWrapper; first | (rw [if_pos (by decide +kernel)]; kernel_rfl) | (rw [if_neg (by decide +kernel)]; exact ⟨rfl, rfl⟩))
    (fun os started H enc _ => lifted os started H enc)
end Go.Proofs.Ytondojojpgmjcaa.balanceChooses
namespace Go.Proofs.Ytondojojpgmjcaa
/-- The row, under a short name, for the claim. -/
theorem balanceChooses_holds : Rows.BalanceChoosesSaid := balanceChooses.over
#print axioms balanceChooses_holds
end Go.Proofs.Ytondojojpgmjcaa
