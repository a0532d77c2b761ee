/- The law TaxShares holds of the given program at every input: the row's statement. No condition. -/
import Derived.Test.YtdpldckcbdeojaaRows
import Derived.Test.YtdpldckcbdeojaaPureTaxShares
import Derived.ProofKit
import Derived.WalkKit
import Derived.Deep.Draws
namespace Go.Proofs.Ytdpldckcbdeojaa.taxShares
open Go.ChangeShapes Go.WideShapes Go.ChangeAt Go.RowKit
set_option linter.unusedVariables false
theorem own : ownKnob Try.prog.godebug = none := by kernel_rfl
theorem laidOut : laidOutB Try.prog = true := by kernel_rfl
set_option maxRecDepth 100000 in
theorem lifted (os : Os) (started : os.Started) (H : Type) (enc : TypeId × Value → H) :
    ReturnsInHanded {} Try.checked os 6 .any (Rows.taxSharesSpec.pre6 enc Try.prog Try.f6 Rows.taxSharesRow.domain false) (Rows.taxSharesSpec.post enc Try.prog Try.f6 false true false false) :=
  returnsInHanded_of_change_sized (C := Try.checked) own started (by kernel_rfl) Try.func6
    (ChangeSpec.witness6 (enc := enc) (C := Try.checked) false ⟨#[], #[.slice none 0 0, .int .i64 0, .int .i64 0, .int .i64 0, .int .i64 0, .bool false], []⟩ 8 (by kernel_rfl) (by kernel_rfl) (by kernel_rfl) (by kernel_rfl))
    (Lift.law_contract laidOut (g := Fn.vmfleetlaw37_TaxShares.sp.f) Fn.vmfleetlaw37_TaxShares.sound (by kernel_rfl) rfl (by kernel_rfl) rfl (fun ds h => match ds, h with | [_, _, _, _, _, _], _ => rfl) Fn.vmfleetlaw37_TaxShares.pure)
theorem over : Rows.taxSharesRow.holds Try.pinned (OpenSpec.ofChange Rows.taxSharesSpec) :=
  OpenClaim.holds_of_wide 6 Try.f6 rfl rfl rfl rfl rfl rfl rfl ⟨rfl, rfl, rfl, rfl, rfl⟩ rfl rfl rfl rfl rfl (by kernel_rfl) Try.func6 (by kernel_rfl)
    (of_decide_eq_true (by kernel_rfl)) (by unfold Func.isWrapper; first | (rw [if_pos (by decide +kernel)]; kernel_rfl) | (rw [if_neg (by decide +kernel)]; exact ⟨rfl, rfl⟩))
    (fun os started H enc _ => lifted os started H enc)
end Go.Proofs.Ytdpldckcbdeojaa.taxShares
namespace Go.Proofs.Ytdpldckcbdeojaa
/-- The row, under a short name, for the claim. -/
theorem taxShares_holds : Rows.TaxSharesSaid := taxShares.over
#print axioms taxShares_holds
end Go.Proofs.Ytdpldckcbdeojaa
