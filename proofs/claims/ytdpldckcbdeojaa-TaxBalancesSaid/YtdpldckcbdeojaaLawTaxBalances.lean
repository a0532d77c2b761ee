/- The law TaxBalances holds of the given program at every input: the row's statement. No condition. -/
import Derived.Test.YtdpldckcbdeojaaRows
import Derived.Test.YtdpldckcbdeojaaPureTaxBalances
import Derived.ProofKit
import Derived.WalkKit
import Derived.Deep.Draws
namespace Go.Proofs.Ytdpldckcbdeojaa.taxBalances
open Go.ChangeShapes Go.WideShapes Go.ChangeAt Go.RowKit
set_option linter.unusedVariables false
theorem own : ownKnob Try.prog.godebug = none := by kernel_rfl
theorem laidOut : laidOutB Try.prog = true := by kernel_rfl
set_option maxRecDepth 100000 in
theorem lifted (os : Os) (started : os.Started) (H : Type) (enc : TypeId × Value → H) :
    ReturnsInHanded {} Try.checked os 11 .any (Rows.taxBalancesSpec.pre6 enc Try.prog Try.f11 Rows.taxBalancesRow.domain false) (Rows.taxBalancesSpec.post enc Try.prog Try.f11 false true false false) :=
  returnsInHanded_of_change_sized (C := Try.checked) own started (by kernel_rfl) Try.func11
    (ChangeSpec.witness6 (enc := enc) (C := Try.checked) false ⟨#[], #[.slice none 0 0, .int .i64 0, .int .i64 0], []⟩ 8 (by kernel_rfl) (by kernel_rfl) (by kernel_rfl) (by kernel_rfl))
    (Lift.law_contract laidOut (g := Fn.vmfleetlaw37_TaxBalances.sp.f) Fn.vmfleetlaw37_TaxBalances.sound (by kernel_rfl) rfl (by kernel_rfl) rfl (fun ds h => match ds, h with | [_, _, _], _ => rfl) Fn.vmfleetlaw37_TaxBalances.pure)
theorem over : Rows.taxBalancesRow.holds Try.pinned (OpenSpec.ofChange Rows.taxBalancesSpec) :=
  OpenClaim.holds_of_wide 11 Try.f11 rfl rfl rfl rfl rfl rfl rfl ⟨rfl, rfl, rfl, rfl, rfl⟩ rfl rfl rfl rfl rfl (by kernel_rfl) Try.func11 (by kernel_rfl)
    (of_decide_eq_true (by kernel_rfl)) (by unfold Func.isWrapper; first | (rw [if_pos (by decide +kernel)]; kernel_rfl) | (rw [if_neg (by decide +kernel)]; exact ⟨rfl, rfl⟩))
    (fun os started H enc _ => lifted os started H enc)
end Go.Proofs.Ytdpldckcbdeojaa.taxBalances
namespace Go.Proofs.Ytdpldckcbdeojaa
/-- The row, under a short name, for the claim. -/
theorem taxBalances_holds : Rows.TaxBalancesSaid := taxBalances.over
#print axioms taxBalances_holds
end Go.Proofs.Ytdpldckcbdeojaa
