/-
  No cell of these rows narrows 'for every input' (looked for: loops, veiled, ifaces, maps, wideKeys, modest, calm, conditions, laid).
  DERIVED. THE GIVEN ROWS OF THIS SEAT. 9 by the template 'for every input the law returns true; each argument reads behind the call as it read before'; 0 by the template 'total and deterministic' (their statements: YtdpldckcbdeojaaTotals.lean).
  GIVEN WITH THE SEED: the statements are not yours to turn. If you find one false, say at which input.
  Laid BY PROGRAM, IN A SANDBOX (cutbox-rows.mjs): the forced cells as the released guide's own fill.sh prints them over the translation c28b82c07c8688fd… (all of the seat's roots in one cut). By AI agents, Wed Nov 11 2026. No macro, syntax, notation, axiom, sorry.
-/
import Derived.Test.YtdpldckcbdeojaaChecked
import GoSem.Claim
import GoSem.ClaimJoined
import GoSem.ClaimMapViews
import Derived.JoinedTies
import Derived.KernelRfl
namespace Go.Proofs.Ytdpldckcbdeojaa
/- THE CELL 'sum', in the pinned program and in every row, IS THE sha256 OF THE DUMP (.gsa) THAT YtdpldckcbdeojaaProg.lean LOADS. Nothing in Lean hashes anything: it is a label: what it is worth is what the hold of that sum in a sandbox is worth. -/
noncomputable def Try.pinned : Pinned := { name := "ytdpldckcbdeojaa", sum := "c28b82c07c8688fd7326fd4b4b080316acbfa9583b2b864a070da2b39c4e5636", checked := Try.checked }
namespace Rows
def none {H : Type} : Left H := { results := [], args := [] }

/-- 'vmfleetlaw37.TaxTells': WHATEVER THE INPUT: true; the input reads as it did. -/
def taxTellsSpec : ChangeSpec := { name := "taxTells", fn := fun _ => fun
  | [d1, d2, d3, d4, d5, d6, d7, d8, d9] => { results := [.lit (.bool true)], args := [d1, d2, d3, d4, d5, d6, d7, d8, d9] }
  | _ => none }
def taxTellsRow : OpenClaim := { program := "ytdpldckcbdeojaa", sum := "c28b82c07c8688fd7326fd4b4b080316acbfa9583b2b864a070da2b39c4e5636", func := "vmfleet/vmfleetlaw37.TaxTells", spec := "taxTells", apart := false }
def TaxTellsSaid : Prop := taxTellsRow.holds Try.pinned (OpenSpec.ofChange taxTellsSpec)

/-- ITS FALSE NEIGHBOUR: 'it returns false'. Refute it at one input. -/
def taxTellsWrong : ChangeSpec := { name := "taxTells", fn := fun _ => fun
  | [d1, d2, d3, d4, d5, d6, d7, d8, d9] => { results := [.lit (.bool false)], args := [d1, d2, d3, d4, d5, d6, d7, d8, d9] }
  | _ => none }
def TaxTellsWrongFalsely : Prop := taxTellsRow.holds Try.pinned (OpenSpec.ofChange taxTellsWrong)

/-- 'vmfleetlaw37.TaxMade': WHATEVER THE INPUT: true; the input reads as it did. -/
def taxMadeSpec : ChangeSpec := { name := "taxMade", fn := fun _ => fun
  | [d1, d2, d3] => { results := [.lit (.bool true)], args := [d1, d2, d3] }
  | _ => none }
def taxMadeRow : OpenClaim := { program := "ytdpldckcbdeojaa", sum := "c28b82c07c8688fd7326fd4b4b080316acbfa9583b2b864a070da2b39c4e5636", func := "vmfleet/vmfleetlaw37.TaxMade", spec := "taxMade", apart := false }
def TaxMadeSaid : Prop := taxMadeRow.holds Try.pinned (OpenSpec.ofChange taxMadeSpec)

/-- ITS FALSE NEIGHBOUR: 'it returns false'. Refute it at one input. -/
def taxMadeWrong : ChangeSpec := { name := "taxMade", fn := fun _ => fun
  | [d1, d2, d3] => { results := [.lit (.bool false)], args := [d1, d2, d3] }
  | _ => none }
def TaxMadeWrongFalsely : Prop := taxMadeRow.holds Try.pinned (OpenSpec.ofChange taxMadeWrong)

/-- 'vmfleetlaw37.TaxDivides': WHATEVER THE INPUT: true; the input reads as it did. -/
def taxDividesSpec : ChangeSpec := { name := "taxDivides", fn := fun _ => fun
  | [d1, d2, d3] => { results := [.lit (.bool true)], args := [d1, d2, d3] }
  | _ => none }
def taxDividesRow : OpenClaim := { program := "ytdpldckcbdeojaa", sum := "c28b82c07c8688fd7326fd4b4b080316acbfa9583b2b864a070da2b39c4e5636", func := "vmfleet/vmfleetlaw37.TaxDivides", spec := "taxDivides", apart := false }
def TaxDividesSaid : Prop := taxDividesRow.holds Try.pinned (OpenSpec.ofChange taxDividesSpec)

/-- ITS FALSE NEIGHBOUR: 'it returns false'. Refute it at one input. -/
def taxDividesWrong : ChangeSpec := { name := "taxDivides", fn := fun _ => fun
  | [d1, d2, d3] => { results := [.lit (.bool false)], args := [d1, d2, d3] }
  | _ => none }
def TaxDividesWrongFalsely : Prop := taxDividesRow.holds Try.pinned (OpenSpec.ofChange taxDividesWrong)

/-- 'vmfleetlaw37.TaxShares': WHATEVER THE INPUT: true; the input reads as it did. -/
def taxSharesSpec : ChangeSpec := { name := "taxShares", fn := fun _ => fun
  | [d1, d2, d3, d4, d5, d6] => { results := [.lit (.bool true)], args := [d1, d2, d3, d4, d5, d6] }
  | _ => none }
def taxSharesRow : OpenClaim := { program := "ytdpldckcbdeojaa", sum := "c28b82c07c8688fd7326fd4b4b080316acbfa9583b2b864a070da2b39c4e5636", func := "vmfleet/vmfleetlaw37.TaxShares", spec := "taxShares", apart := false }
def TaxSharesSaid : Prop := taxSharesRow.holds Try.pinned (OpenSpec.ofChange taxSharesSpec)

/-- ITS FALSE NEIGHBOUR: 'it returns false'. Refute it at one input. -/
def taxSharesWrong : ChangeSpec := { name := "taxShares", fn := fun _ => fun
  | [d1, d2, d3, d4, d5, d6] => { results := [.lit (.bool false)], args := [d1, d2, d3, d4, d5, d6] }
  | _ => none }
def TaxSharesWrongFalsely : Prop := taxSharesRow.holds Try.pinned (OpenSpec.ofChange taxSharesWrong)

/-- 'vmfleetlaw37.TaxVictim': WHATEVER THE INPUT: true; the input reads as it did. -/
def taxVictimSpec : ChangeSpec := { name := "taxVictim", fn := fun _ => fun
  | [d1, d2] => { results := [.lit (.bool true)], args := [d1, d2] }
  | _ => none }
def taxVictimRow : OpenClaim := { program := "ytdpldckcbdeojaa", sum := "c28b82c07c8688fd7326fd4b4b080316acbfa9583b2b864a070da2b39c4e5636", func := "vmfleet/vmfleetlaw37.TaxVictim", spec := "taxVictim", apart := false }
def TaxVictimSaid : Prop := taxVictimRow.holds Try.pinned (OpenSpec.ofChange taxVictimSpec)

/-- ITS FALSE NEIGHBOUR: 'it returns false'. Refute it at one input. -/
def taxVictimWrong : ChangeSpec := { name := "taxVictim", fn := fun _ => fun
  | [d1, d2] => { results := [.lit (.bool false)], args := [d1, d2] }
  | _ => none }
def TaxVictimWrongFalsely : Prop := taxVictimRow.holds Try.pinned (OpenSpec.ofChange taxVictimWrong)

/-- 'vmfleetlaw37.TaxOrders': WHATEVER THE INPUT: true; the input reads as it did. -/
def taxOrdersSpec : ChangeSpec := { name := "taxOrders", fn := fun _ => fun
  | [d1, d2, d3, d4] => { results := [.lit (.bool true)], args := [d1, d2, d3, d4] }
  | _ => none }
def taxOrdersRow : OpenClaim := { program := "ytdpldckcbdeojaa", sum := "c28b82c07c8688fd7326fd4b4b080316acbfa9583b2b864a070da2b39c4e5636", func := "vmfleet/vmfleetlaw37.TaxOrders", spec := "taxOrders", apart := false }
def TaxOrdersSaid : Prop := taxOrdersRow.holds Try.pinned (OpenSpec.ofChange taxOrdersSpec)

/-- ITS FALSE NEIGHBOUR: 'it returns false'. Refute it at one input. -/
def taxOrdersWrong : ChangeSpec := { name := "taxOrders", fn := fun _ => fun
  | [d1, d2, d3, d4] => { results := [.lit (.bool false)], args := [d1, d2, d3, d4] }
  | _ => none }
def TaxOrdersWrongFalsely : Prop := taxOrdersRow.holds Try.pinned (OpenSpec.ofChange taxOrdersWrong)

/-- 'vmfleetlaw37.TaxSamples': WHATEVER THE INPUT: true; the input reads as it did. -/
def taxSamplesSpec : ChangeSpec := { name := "taxSamples", fn := fun _ => fun
  | [d1, d2, d3, d4, d5] => { results := [.lit (.bool true)], args := [d1, d2, d3, d4, d5] }
  | _ => none }
def taxSamplesRow : OpenClaim := { program := "ytdpldckcbdeojaa", sum := "c28b82c07c8688fd7326fd4b4b080316acbfa9583b2b864a070da2b39c4e5636", func := "vmfleet/vmfleetlaw37.TaxSamples", spec := "taxSamples", apart := false }
def TaxSamplesSaid : Prop := taxSamplesRow.holds Try.pinned (OpenSpec.ofChange taxSamplesSpec)

/-- ITS FALSE NEIGHBOUR: 'it returns false'. Refute it at one input. -/
def taxSamplesWrong : ChangeSpec := { name := "taxSamples", fn := fun _ => fun
  | [d1, d2, d3, d4, d5] => { results := [.lit (.bool false)], args := [d1, d2, d3, d4, d5] }
  | _ => none }
def TaxSamplesWrongFalsely : Prop := taxSamplesRow.holds Try.pinned (OpenSpec.ofChange taxSamplesWrong)

/-- 'vmfleetlaw37.TaxGrows': WHATEVER THE INPUT: true; the input reads as it did. -/
def taxGrowsSpec : ChangeSpec := { name := "taxGrows", fn := fun _ => fun
  | [d1, d2, d3] => { results := [.lit (.bool true)], args := [d1, d2, d3] }
  | _ => none }
def taxGrowsRow : OpenClaim := { program := "ytdpldckcbdeojaa", sum := "c28b82c07c8688fd7326fd4b4b080316acbfa9583b2b864a070da2b39c4e5636", func := "vmfleet/vmfleetlaw37.TaxGrows", spec := "taxGrows", apart := false }
def TaxGrowsSaid : Prop := taxGrowsRow.holds Try.pinned (OpenSpec.ofChange taxGrowsSpec)

/-- ITS FALSE NEIGHBOUR: 'it returns false'. Refute it at one input. -/
def taxGrowsWrong : ChangeSpec := { name := "taxGrows", fn := fun _ => fun
  | [d1, d2, d3] => { results := [.lit (.bool false)], args := [d1, d2, d3] }
  | _ => none }
def TaxGrowsWrongFalsely : Prop := taxGrowsRow.holds Try.pinned (OpenSpec.ofChange taxGrowsWrong)

/-- 'vmfleetlaw37.TaxBalances': WHATEVER THE INPUT: true; the input reads as it did. -/
def taxBalancesSpec : ChangeSpec := { name := "taxBalances", fn := fun _ => fun
  | [d1, d2, d3] => { results := [.lit (.bool true)], args := [d1, d2, d3] }
  | _ => none }
def taxBalancesRow : OpenClaim := { program := "ytdpldckcbdeojaa", sum := "c28b82c07c8688fd7326fd4b4b080316acbfa9583b2b864a070da2b39c4e5636", func := "vmfleet/vmfleetlaw37.TaxBalances", spec := "taxBalances", apart := false }
def TaxBalancesSaid : Prop := taxBalancesRow.holds Try.pinned (OpenSpec.ofChange taxBalancesSpec)

/-- ITS FALSE NEIGHBOUR: 'it returns false'. Refute it at one input. -/
def taxBalancesWrong : ChangeSpec := { name := "taxBalances", fn := fun _ => fun
  | [d1, d2, d3] => { results := [.lit (.bool false)], args := [d1, d2, d3] }
  | _ => none }
def TaxBalancesWrongFalsely : Prop := taxBalancesRow.holds Try.pinned (OpenSpec.ofChange taxBalancesWrong)

/- THE SECOND FORM. 'bulk': how many values and letters a reading holds, each counted each time it is reached (what is shared counts as often as it is met; a slice's spare places count too). A statement '..UptoSaid' is the law's where the arguments, and the package variables that the reading takes, are together of bulk at most 1048576: NARROWER than '..Said'. Prove '..Said' where nothing that the law and all that it calls make is longer than what came in: it says more and counts as full. Else prove '..UptoSaid'. A law counts once. -/
mutual
def uptoBulk {H : Type} : DataW H → Nat
  | .lit (.string bytes) => bytes.length + 1
  | .lit _ => 1
  | .nil => 1
  | .ptr d => uptoBulk d + 1
  | .slice elems spare => uptoBulkAll elems + uptoBulkAll spare + 1
  | .agg parts => uptoBulkAll parts + 1
  | .iface _ d => uptoBulk d + 1
  | .map entries => uptoBulkEntries entries + 1
  | .held _ => 1
def uptoBulkAll {H : Type} : List (DataW H) → Nat
  | [] => 0
  | d :: r => uptoBulk d + uptoBulkAll r
def uptoBulkEntries {H : Type} : List (Lit × DataW H) → Nat
  | [] => 0
  | x :: r => uptoBulkEntry x + uptoBulkEntries r
def uptoBulkEntry {H : Type} : Lit × DataW H → Nat
  | (.string bytes, d) => bytes.length + uptoBulk d + 1
  | (_, d) => uptoBulk d + 1
 end
def uptoSmall : (H : Type) → List (DataW H) → Bool := fun _ ds => decide (uptoBulkAll ds ≤ 1048576)
def OpenSpec.upto (s : _root_.Go.ChangeSpec) : _root_.Go.OpenSpec := { _root_.Go.OpenSpec.ofChange s with cond := some uptoSmall }

/-- 'vmfleetlaw37.TaxTells', WHERE WHAT IT READS IS OF BULK AT MOST 1048576: true; the input reads as it did. -/
def taxTellsUptoRow : OpenClaim := { program := "ytdpldckcbdeojaa", sum := "c28b82c07c8688fd7326fd4b4b080316acbfa9583b2b864a070da2b39c4e5636", func := "vmfleet/vmfleetlaw37.TaxTells", spec := "taxTells", apart := false, narrowed := true }
def TaxTellsUptoSaid : Prop := taxTellsUptoRow.holds Try.pinned (OpenSpec.upto taxTellsSpec)

/-- 'vmfleetlaw37.TaxMade', WHERE WHAT IT READS IS OF BULK AT MOST 1048576: true; the input reads as it did. -/
def taxMadeUptoRow : OpenClaim := { program := "ytdpldckcbdeojaa", sum := "c28b82c07c8688fd7326fd4b4b080316acbfa9583b2b864a070da2b39c4e5636", func := "vmfleet/vmfleetlaw37.TaxMade", spec := "taxMade", apart := false, narrowed := true }
def TaxMadeUptoSaid : Prop := taxMadeUptoRow.holds Try.pinned (OpenSpec.upto taxMadeSpec)

/-- 'vmfleetlaw37.TaxDivides', WHERE WHAT IT READS IS OF BULK AT MOST 1048576: true; the input reads as it did. -/
def taxDividesUptoRow : OpenClaim := { program := "ytdpldckcbdeojaa", sum := "c28b82c07c8688fd7326fd4b4b080316acbfa9583b2b864a070da2b39c4e5636", func := "vmfleet/vmfleetlaw37.TaxDivides", spec := "taxDivides", apart := false, narrowed := true }
def TaxDividesUptoSaid : Prop := taxDividesUptoRow.holds Try.pinned (OpenSpec.upto taxDividesSpec)

/-- 'vmfleetlaw37.TaxShares', WHERE WHAT IT READS IS OF BULK AT MOST 1048576: true; the input reads as it did. -/
def taxSharesUptoRow : OpenClaim := { program := "ytdpldckcbdeojaa", sum := "c28b82c07c8688fd7326fd4b4b080316acbfa9583b2b864a070da2b39c4e5636", func := "vmfleet/vmfleetlaw37.TaxShares", spec := "taxShares", apart := false, narrowed := true }
def TaxSharesUptoSaid : Prop := taxSharesUptoRow.holds Try.pinned (OpenSpec.upto taxSharesSpec)

/-- 'vmfleetlaw37.TaxVictim', WHERE WHAT IT READS IS OF BULK AT MOST 1048576: true; the input reads as it did. -/
def taxVictimUptoRow : OpenClaim := { program := "ytdpldckcbdeojaa", sum := "c28b82c07c8688fd7326fd4b4b080316acbfa9583b2b864a070da2b39c4e5636", func := "vmfleet/vmfleetlaw37.TaxVictim", spec := "taxVictim", apart := false, narrowed := true }
def TaxVictimUptoSaid : Prop := taxVictimUptoRow.holds Try.pinned (OpenSpec.upto taxVictimSpec)

/-- 'vmfleetlaw37.TaxOrders', WHERE WHAT IT READS IS OF BULK AT MOST 1048576: true; the input reads as it did. -/
def taxOrdersUptoRow : OpenClaim := { program := "ytdpldckcbdeojaa", sum := "c28b82c07c8688fd7326fd4b4b080316acbfa9583b2b864a070da2b39c4e5636", func := "vmfleet/vmfleetlaw37.TaxOrders", spec := "taxOrders", apart := false, narrowed := true }
def TaxOrdersUptoSaid : Prop := taxOrdersUptoRow.holds Try.pinned (OpenSpec.upto taxOrdersSpec)

/-- 'vmfleetlaw37.TaxSamples', WHERE WHAT IT READS IS OF BULK AT MOST 1048576: true; the input reads as it did. -/
def taxSamplesUptoRow : OpenClaim := { program := "ytdpldckcbdeojaa", sum := "c28b82c07c8688fd7326fd4b4b080316acbfa9583b2b864a070da2b39c4e5636", func := "vmfleet/vmfleetlaw37.TaxSamples", spec := "taxSamples", apart := false, narrowed := true }
def TaxSamplesUptoSaid : Prop := taxSamplesUptoRow.holds Try.pinned (OpenSpec.upto taxSamplesSpec)

/-- 'vmfleetlaw37.TaxGrows', WHERE WHAT IT READS IS OF BULK AT MOST 1048576: true; the input reads as it did. -/
def taxGrowsUptoRow : OpenClaim := { program := "ytdpldckcbdeojaa", sum := "c28b82c07c8688fd7326fd4b4b080316acbfa9583b2b864a070da2b39c4e5636", func := "vmfleet/vmfleetlaw37.TaxGrows", spec := "taxGrows", apart := false, narrowed := true }
def TaxGrowsUptoSaid : Prop := taxGrowsUptoRow.holds Try.pinned (OpenSpec.upto taxGrowsSpec)

/-- 'vmfleetlaw37.TaxBalances', WHERE WHAT IT READS IS OF BULK AT MOST 1048576: true; the input reads as it did. -/
def taxBalancesUptoRow : OpenClaim := { program := "ytdpldckcbdeojaa", sum := "c28b82c07c8688fd7326fd4b4b080316acbfa9583b2b864a070da2b39c4e5636", func := "vmfleet/vmfleetlaw37.TaxBalances", spec := "taxBalances", apart := false, narrowed := true }
def TaxBalancesUptoSaid : Prop := taxBalancesUptoRow.holds Try.pinned (OpenSpec.upto taxBalancesSpec)

end Rows
end Go.Proofs.Ytdpldckcbdeojaa
