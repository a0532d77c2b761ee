/-
  No cell of these rows narrows 'for every input' (looked for: loops, veiled, ifaces, maps, wideKeys, modest, calm, conditions, laid).
  DERIVED. THE GIVEN ROWS OF THIS SEAT. 11 by the template 'for every input the law returns true; each argument reads behind the call as it read before'; 0 by the template 'total and deterministic' (their statements: YtapngmfecjhlfaaTotals.lean).
  GIVEN WITH THE SEED: the statements are not yours to turn. If you find one false, say at which input.
  Laid BY PROGRAM, IN A SANDBOX (cutbox-rows.mjs): the forced cells as the released guide's own fill.sh prints them over the translation 459fe98819c4f3db… (all of the seat's roots in one cut). By AI agents, Wed Nov 11 2026. No macro, syntax, notation, axiom, sorry.
-/
import Derived.Test.YtapngmfecjhlfaaChecked
import GoSem.Claim
import GoSem.ClaimJoined
import GoSem.ClaimMapViews
import Derived.JoinedTies
import Derived.KernelRfl
namespace Go.Proofs.Ytapngmfecjhlfaa
/- THE CELL 'sum', in the pinned program and in every row, IS THE sha256 OF THE DUMP (.gsa) THAT YtapngmfecjhlfaaProg.lean LOADS. Nothing in Lean hashes anything: it is a label: what it is worth is what the hold of that sum in a sandbox is worth. -/
noncomputable def Try.pinned : Pinned := { name := "ytapngmfecjhlfaa", sum := "459fe98819c4f3dbf94aa304ef23cb02065dc0a33fbcaa74bbdd1968b13b35b3", checked := Try.checked }
namespace Rows
def none {H : Type} : Left H := { results := [], args := [] }

/-- 'vmfleetlaw11.BalloonGives': WHATEVER THE INPUT: true; the input reads as it did. -/
def balloonGivesSpec : ChangeSpec := { name := "balloonGives", fn := fun _ => fun
  | [d1, d2, d3] => { results := [.lit (.bool true)], args := [d1, d2, d3] }
  | _ => none }
def balloonGivesRow : OpenClaim := { program := "ytapngmfecjhlfaa", sum := "459fe98819c4f3dbf94aa304ef23cb02065dc0a33fbcaa74bbdd1968b13b35b3", func := "vmfleet/vmfleetlaw11.BalloonGives", spec := "balloonGives", apart := false }
def BalloonGivesSaid : Prop := balloonGivesRow.holds Try.pinned (OpenSpec.ofChange balloonGivesSpec)

/-- ITS FALSE NEIGHBOUR: 'it returns false'. Refute it at one input. -/
def balloonGivesWrong : ChangeSpec := { name := "balloonGives", fn := fun _ => fun
  | [d1, d2, d3] => { results := [.lit (.bool false)], args := [d1, d2, d3] }
  | _ => none }
def BalloonGivesWrongFalsely : Prop := balloonGivesRow.holds Try.pinned (OpenSpec.ofChange balloonGivesWrong)

/-- 'vmfleetlaw11.BalloonAsks': WHATEVER THE INPUT: true; the input reads as it did. -/
def balloonAsksSpec : ChangeSpec := { name := "balloonAsks", fn := fun _ => fun
  | [d1, d2] => { results := [.lit (.bool true)], args := [d1, d2] }
  | _ => none }
def balloonAsksRow : OpenClaim := { program := "ytapngmfecjhlfaa", sum := "459fe98819c4f3dbf94aa304ef23cb02065dc0a33fbcaa74bbdd1968b13b35b3", func := "vmfleet/vmfleetlaw11.BalloonAsks", spec := "balloonAsks", apart := false }
def BalloonAsksSaid : Prop := balloonAsksRow.holds Try.pinned (OpenSpec.ofChange balloonAsksSpec)

/-- ITS FALSE NEIGHBOUR: 'it returns false'. Refute it at one input. -/
def balloonAsksWrong : ChangeSpec := { name := "balloonAsks", fn := fun _ => fun
  | [d1, d2] => { results := [.lit (.bool false)], args := [d1, d2] }
  | _ => none }
def BalloonAsksWrongFalsely : Prop := balloonAsksRow.holds Try.pinned (OpenSpec.ofChange balloonAsksWrong)

/-- 'vmfleetlaw11.BalloonTells': WHATEVER THE INPUT: true; the input reads as it did. -/
def balloonTellsSpec : ChangeSpec := { name := "balloonTells", fn := fun _ => fun
  | [d1, d2, d3, d4, d5, d6] => { results := [.lit (.bool true)], args := [d1, d2, d3, d4, d5, d6] }
  | _ => none }
def balloonTellsRow : OpenClaim := { program := "ytapngmfecjhlfaa", sum := "459fe98819c4f3dbf94aa304ef23cb02065dc0a33fbcaa74bbdd1968b13b35b3", func := "vmfleet/vmfleetlaw11.BalloonTells", spec := "balloonTells", apart := false }
def BalloonTellsSaid : Prop := balloonTellsRow.holds Try.pinned (OpenSpec.ofChange balloonTellsSpec)

/-- ITS FALSE NEIGHBOUR: 'it returns false'. Refute it at one input. -/
def balloonTellsWrong : ChangeSpec := { name := "balloonTells", fn := fun _ => fun
  | [d1, d2, d3, d4, d5, d6] => { results := [.lit (.bool false)], args := [d1, d2, d3, d4, d5, d6] }
  | _ => none }
def BalloonTellsWrongFalsely : Prop := balloonTellsRow.holds Try.pinned (OpenSpec.ofChange balloonTellsWrong)

/-- 'vmfleetlaw25.CommitWaits': WHATEVER THE INPUT: true; the input reads as it did. -/
def commitWaitsSpec : ChangeSpec := { name := "commitWaits", fn := fun _ => fun
  | [d1, d2, d3] => { results := [.lit (.bool true)], args := [d1, d2, d3] }
  | _ => none }
def commitWaitsRow : OpenClaim := { program := "ytapngmfecjhlfaa", sum := "459fe98819c4f3dbf94aa304ef23cb02065dc0a33fbcaa74bbdd1968b13b35b3", func := "vmfleet/vmfleetlaw25.CommitWaits", spec := "commitWaits", unfollowed := true, recurses := true, apart := false }
def CommitWaitsSaid : Prop := commitWaitsRow.holds Try.pinned (OpenSpec.ofChange commitWaitsSpec)

/-- ITS FALSE NEIGHBOUR: 'it returns false'. Refute it at one input. -/
def commitWaitsWrong : ChangeSpec := { name := "commitWaits", fn := fun _ => fun
  | [d1, d2, d3] => { results := [.lit (.bool false)], args := [d1, d2, d3] }
  | _ => none }
def CommitWaitsWrongFalsely : Prop := commitWaitsRow.holds Try.pinned (OpenSpec.ofChange commitWaitsWrong)

/-- 'vmfleetlaw25.CommitTakes': WHATEVER THE INPUT: true; the input reads as it did. -/
def commitTakesSpec : ChangeSpec := { name := "commitTakes", fn := fun _ => fun
  | [d1, d2, d3] => { results := [.lit (.bool true)], args := [d1, d2, d3] }
  | _ => none }
def commitTakesRow : OpenClaim := { program := "ytapngmfecjhlfaa", sum := "459fe98819c4f3dbf94aa304ef23cb02065dc0a33fbcaa74bbdd1968b13b35b3", func := "vmfleet/vmfleetlaw25.CommitTakes", spec := "commitTakes", unfollowed := true, recurses := true, apart := false }
def CommitTakesSaid : Prop := commitTakesRow.holds Try.pinned (OpenSpec.ofChange commitTakesSpec)

/-- ITS FALSE NEIGHBOUR: 'it returns false'. Refute it at one input. -/
def commitTakesWrong : ChangeSpec := { name := "commitTakes", fn := fun _ => fun
  | [d1, d2, d3] => { results := [.lit (.bool false)], args := [d1, d2, d3] }
  | _ => none }
def CommitTakesWrongFalsely : Prop := commitTakesRow.holds Try.pinned (OpenSpec.ofChange commitTakesWrong)

/-- 'vmfleetlaw25.CommitLate': WHATEVER THE INPUT: true; the input reads as it did. -/
def commitLateSpec : ChangeSpec := { name := "commitLate", fn := fun _ => fun
  | [d1, d2] => { results := [.lit (.bool true)], args := [d1, d2] }
  | _ => none }
def commitLateRow : OpenClaim := { program := "ytapngmfecjhlfaa", sum := "459fe98819c4f3dbf94aa304ef23cb02065dc0a33fbcaa74bbdd1968b13b35b3", func := "vmfleet/vmfleetlaw25.CommitLate", spec := "commitLate", unfollowed := true, recurses := true, apart := false }
def CommitLateSaid : Prop := commitLateRow.holds Try.pinned (OpenSpec.ofChange commitLateSpec)

/-- ITS FALSE NEIGHBOUR: 'it returns false'. Refute it at one input. -/
def commitLateWrong : ChangeSpec := { name := "commitLate", fn := fun _ => fun
  | [d1, d2] => { results := [.lit (.bool false)], args := [d1, d2] }
  | _ => none }
def CommitLateWrongFalsely : Prop := commitLateRow.holds Try.pinned (OpenSpec.ofChange commitLateWrong)

/-- 'vmfleetlaw25.CommitShows': WHATEVER THE INPUT: true; the input reads as it did. -/
def commitShowsSpec : ChangeSpec := { name := "commitShows", fn := fun _ => fun
  | [d1, d2, d3] => { results := [.lit (.bool true)], args := [d1, d2, d3] }
  | _ => none }
def commitShowsRow : OpenClaim := { program := "ytapngmfecjhlfaa", sum := "459fe98819c4f3dbf94aa304ef23cb02065dc0a33fbcaa74bbdd1968b13b35b3", func := "vmfleet/vmfleetlaw25.CommitShows", spec := "commitShows", unfollowed := true, recurses := true, apart := false }
def CommitShowsSaid : Prop := commitShowsRow.holds Try.pinned (OpenSpec.ofChange commitShowsSpec)

/-- ITS FALSE NEIGHBOUR: 'it returns false'. Refute it at one input. -/
def commitShowsWrong : ChangeSpec := { name := "commitShows", fn := fun _ => fun
  | [d1, d2, d3] => { results := [.lit (.bool false)], args := [d1, d2, d3] }
  | _ => none }
def CommitShowsWrongFalsely : Prop := commitShowsRow.holds Try.pinned (OpenSpec.ofChange commitShowsWrong)

/-- 'vmfleetlaw20.CompressTells': WHATEVER THE INPUT: true; the input reads as it did. -/
def compressTellsSpec : ChangeSpec := { name := "compressTells", fn := fun _ => fun
  | [d1, d2, d3] => { results := [.lit (.bool true)], args := [d1, d2, d3] }
  | _ => none }
def compressTellsRow : OpenClaim := { program := "ytapngmfecjhlfaa", sum := "459fe98819c4f3dbf94aa304ef23cb02065dc0a33fbcaa74bbdd1968b13b35b3", func := "vmfleet/vmfleetlaw20.CompressTells", spec := "compressTells", unfollowed := true, recurses := true, apart := false }
def CompressTellsSaid : Prop := compressTellsRow.holds Try.pinned (OpenSpec.ofChange compressTellsSpec)

/-- ITS FALSE NEIGHBOUR: 'it returns false'. Refute it at one input. -/
def compressTellsWrong : ChangeSpec := { name := "compressTells", fn := fun _ => fun
  | [d1, d2, d3] => { results := [.lit (.bool false)], args := [d1, d2, d3] }
  | _ => none }
def CompressTellsWrongFalsely : Prop := compressTellsRow.holds Try.pinned (OpenSpec.ofChange compressTellsWrong)

/-- 'vmfleetlaw20.CompressReads': WHATEVER THE INPUT: true; the input reads as it did. -/
def compressReadsSpec : ChangeSpec := { name := "compressReads", fn := fun _ => fun
  | [d1, d2, d3, d4, d5, d6] => { results := [.lit (.bool true)], args := [d1, d2, d3, d4, d5, d6] }
  | _ => none }
def compressReadsRow : OpenClaim := { program := "ytapngmfecjhlfaa", sum := "459fe98819c4f3dbf94aa304ef23cb02065dc0a33fbcaa74bbdd1968b13b35b3", func := "vmfleet/vmfleetlaw20.CompressReads", spec := "compressReads", unfollowed := true, recurses := true, apart := false }
def CompressReadsSaid : Prop := compressReadsRow.holds Try.pinned (OpenSpec.ofChange compressReadsSpec)

/-- ITS FALSE NEIGHBOUR: 'it returns false'. Refute it at one input. -/
def compressReadsWrong : ChangeSpec := { name := "compressReads", fn := fun _ => fun
  | [d1, d2, d3, d4, d5, d6] => { results := [.lit (.bool false)], args := [d1, d2, d3, d4, d5, d6] }
  | _ => none }
def CompressReadsWrongFalsely : Prop := compressReadsRow.holds Try.pinned (OpenSpec.ofChange compressReadsWrong)

/-- 'vmfleetlaw20.CompressBack': WHATEVER THE INPUT: true; the input reads as it did. -/
def compressBackSpec : ChangeSpec := { name := "compressBack", fn := fun _ => fun
  | [d1, d2, d3] => { results := [.lit (.bool true)], args := [d1, d2, d3] }
  | _ => none }
def compressBackRow : OpenClaim := { program := "ytapngmfecjhlfaa", sum := "459fe98819c4f3dbf94aa304ef23cb02065dc0a33fbcaa74bbdd1968b13b35b3", func := "vmfleet/vmfleetlaw20.CompressBack", spec := "compressBack", unfollowed := true, recurses := true, apart := false }
def CompressBackSaid : Prop := compressBackRow.holds Try.pinned (OpenSpec.ofChange compressBackSpec)

/-- ITS FALSE NEIGHBOUR: 'it returns false'. Refute it at one input. -/
def compressBackWrong : ChangeSpec := { name := "compressBack", fn := fun _ => fun
  | [d1, d2, d3] => { results := [.lit (.bool false)], args := [d1, d2, d3] }
  | _ => none }
def CompressBackWrongFalsely : Prop := compressBackRow.holds Try.pinned (OpenSpec.ofChange compressBackWrong)

/-- 'vmfleetlaw20.CompressRuns': WHATEVER THE INPUT: true; the input reads as it did. -/
def compressRunsSpec : ChangeSpec := { name := "compressRuns", fn := fun _ => fun
  | [d1, d2] => { results := [.lit (.bool true)], args := [d1, d2] }
  | _ => none }
def compressRunsRow : OpenClaim := { program := "ytapngmfecjhlfaa", sum := "459fe98819c4f3dbf94aa304ef23cb02065dc0a33fbcaa74bbdd1968b13b35b3", func := "vmfleet/vmfleetlaw20.CompressRuns", spec := "compressRuns", unfollowed := true, recurses := true, apart := false }
def CompressRunsSaid : Prop := compressRunsRow.holds Try.pinned (OpenSpec.ofChange compressRunsSpec)

/-- ITS FALSE NEIGHBOUR: 'it returns false'. Refute it at one input. -/
def compressRunsWrong : ChangeSpec := { name := "compressRuns", fn := fun _ => fun
  | [d1, d2] => { results := [.lit (.bool false)], args := [d1, d2] }
  | _ => none }
def CompressRunsWrongFalsely : Prop := compressRunsRow.holds Try.pinned (OpenSpec.ofChange compressRunsWrong)

/- THE SECOND FORM. 'bulk': how many values and letters a reading holds, each counted each time it is reached (what is shared counts as often as it is met; a slice's spare places count too). A statement '..UptoSaid' is the law's where the arguments, and the package variables that the reading takes, are together of bulk at most 1048576: NARROWER than '..Said'. Prove '..Said' where nothing that the law and all that it calls make is longer than what came in: it says more and counts as full. Else prove '..UptoSaid'. A law counts once. -/
mutual
def uptoBulk {H : Type} : DataW H → Nat
  | .lit (.string bytes) => bytes.length + 1
  | .lit _ => 1
  | .nil => 1
  | .ptr d => uptoBulk d + 1
  | .slice elems spare => uptoBulkAll elems + uptoBulkAll spare + 1
  | .agg parts => uptoBulkAll parts + 1
  | .iface _ d => uptoBulk d + 1
  | .map entries => uptoBulkEntries entries + 1
  | .held _ => 1
def uptoBulkAll {H : Type} : List (DataW H) → Nat
  | [] => 0
  | d :: r => uptoBulk d + uptoBulkAll r
def uptoBulkEntries {H : Type} : List (Lit × DataW H) → Nat
  | [] => 0
  | x :: r => uptoBulkEntry x + uptoBulkEntries r
def uptoBulkEntry {H : Type} : Lit × DataW H → Nat
  | (.string bytes, d) => bytes.length + uptoBulk d + 1
  | (_, d) => uptoBulk d + 1
 end
def uptoSmall : (H : Type) → List (DataW H) → Bool := fun _ ds => decide (uptoBulkAll ds ≤ 1048576)
def OpenSpec.upto (s : _root_.Go.ChangeSpec) : _root_.Go.OpenSpec := { _root_.Go.OpenSpec.ofChange s with cond := some uptoSmall }

/-- 'vmfleetlaw11.BalloonGives', WHERE WHAT IT READS IS OF BULK AT MOST 1048576: true; the input reads as it did. -/
def balloonGivesUptoRow : OpenClaim := { program := "ytapngmfecjhlfaa", sum := "459fe98819c4f3dbf94aa304ef23cb02065dc0a33fbcaa74bbdd1968b13b35b3", func := "vmfleet/vmfleetlaw11.BalloonGives", spec := "balloonGives", apart := false, narrowed := true }
def BalloonGivesUptoSaid : Prop := balloonGivesUptoRow.holds Try.pinned (OpenSpec.upto balloonGivesSpec)

/-- 'vmfleetlaw11.BalloonAsks', WHERE WHAT IT READS IS OF BULK AT MOST 1048576: true; the input reads as it did. -/
def balloonAsksUptoRow : OpenClaim := { program := "ytapngmfecjhlfaa", sum := "459fe98819c4f3dbf94aa304ef23cb02065dc0a33fbcaa74bbdd1968b13b35b3", func := "vmfleet/vmfleetlaw11.BalloonAsks", spec := "balloonAsks", apart := false, narrowed := true }
def BalloonAsksUptoSaid : Prop := balloonAsksUptoRow.holds Try.pinned (OpenSpec.upto balloonAsksSpec)

/-- 'vmfleetlaw11.BalloonTells', WHERE WHAT IT READS IS OF BULK AT MOST 1048576: true; the input reads as it did. -/
def balloonTellsUptoRow : OpenClaim := { program := "ytapngmfecjhlfaa", sum := "459fe98819c4f3dbf94aa304ef23cb02065dc0a33fbcaa74bbdd1968b13b35b3", func := "vmfleet/vmfleetlaw11.BalloonTells", spec := "balloonTells", apart := false, narrowed := true }
def BalloonTellsUptoSaid : Prop := balloonTellsUptoRow.holds Try.pinned (OpenSpec.upto balloonTellsSpec)

/-- 'vmfleetlaw25.CommitWaits', WHERE WHAT IT READS IS OF BULK AT MOST 1048576: true; the input reads as it did. -/
def commitWaitsUptoRow : OpenClaim := { program := "ytapngmfecjhlfaa", sum := "459fe98819c4f3dbf94aa304ef23cb02065dc0a33fbcaa74bbdd1968b13b35b3", func := "vmfleet/vmfleetlaw25.CommitWaits", spec := "commitWaits", unfollowed := true, recurses := true, apart := false, narrowed := true }
def CommitWaitsUptoSaid : Prop := commitWaitsUptoRow.holds Try.pinned (OpenSpec.upto commitWaitsSpec)

/-- 'vmfleetlaw25.CommitTakes', WHERE WHAT IT READS IS OF BULK AT MOST 1048576: true; the input reads as it did. -/
def commitTakesUptoRow : OpenClaim := { program := "ytapngmfecjhlfaa", sum := "459fe98819c4f3dbf94aa304ef23cb02065dc0a33fbcaa74bbdd1968b13b35b3", func := "vmfleet/vmfleetlaw25.CommitTakes", spec := "commitTakes", unfollowed := true, recurses := true, apart := false, narrowed := true }
def CommitTakesUptoSaid : Prop := commitTakesUptoRow.holds Try.pinned (OpenSpec.upto commitTakesSpec)

/-- 'vmfleetlaw25.CommitLate', WHERE WHAT IT READS IS OF BULK AT MOST 1048576: true; the input reads as it did. -/
def commitLateUptoRow : OpenClaim := { program := "ytapngmfecjhlfaa", sum := "459fe98819c4f3dbf94aa304ef23cb02065dc0a33fbcaa74bbdd1968b13b35b3", func := "vmfleet/vmfleetlaw25.CommitLate", spec := "commitLate", unfollowed := true, recurses := true, apart := false, narrowed := true }
def CommitLateUptoSaid : Prop := commitLateUptoRow.holds Try.pinned (OpenSpec.upto commitLateSpec)

/-- 'vmfleetlaw25.CommitShows', WHERE WHAT IT READS IS OF BULK AT MOST 1048576: true; the input reads as it did. -/
def commitShowsUptoRow : OpenClaim := { program := "ytapngmfecjhlfaa", sum := "459fe98819c4f3dbf94aa304ef23cb02065dc0a33fbcaa74bbdd1968b13b35b3", func := "vmfleet/vmfleetlaw25.CommitShows", spec := "commitShows", unfollowed := true, recurses := true, apart := false, narrowed := true }
def CommitShowsUptoSaid : Prop := commitShowsUptoRow.holds Try.pinned (OpenSpec.upto commitShowsSpec)

/-- 'vmfleetlaw20.CompressTells', WHERE WHAT IT READS IS OF BULK AT MOST 1048576: true; the input reads as it did. -/
def compressTellsUptoRow : OpenClaim := { program := "ytapngmfecjhlfaa", sum := "459fe98819c4f3dbf94aa304ef23cb02065dc0a33fbcaa74bbdd1968b13b35b3", func := "vmfleet/vmfleetlaw20.CompressTells", spec := "compressTells", unfollowed := true, recurses := true, apart := false, narrowed := true }
def CompressTellsUptoSaid : Prop := compressTellsUptoRow.holds Try.pinned (OpenSpec.upto compressTellsSpec)

/-- 'vmfleetlaw20.CompressReads', WHERE WHAT IT READS IS OF BULK AT MOST 1048576: true; the input reads as it did. -/
def compressReadsUptoRow : OpenClaim := { program := "ytapngmfecjhlfaa", sum := "459fe98819c4f3dbf94aa304ef23cb02065dc0a33fbcaa74bbdd1968b13b35b3", func := "vmfleet/vmfleetlaw20.CompressReads", spec := "compressReads", unfollowed := true, recurses := true, apart := false, narrowed := true }
def CompressReadsUptoSaid : Prop := compressReadsUptoRow.holds Try.pinned (OpenSpec.upto compressReadsSpec)

/-- 'vmfleetlaw20.CompressBack', WHERE WHAT IT READS IS OF BULK AT MOST 1048576: true; the input reads as it did. -/
def compressBackUptoRow : OpenClaim := { program := "ytapngmfecjhlfaa", sum := "459fe98819c4f3dbf94aa304ef23cb02065dc0a33fbcaa74bbdd1968b13b35b3", func := "vmfleet/vmfleetlaw20.CompressBack", spec := "compressBack", unfollowed := true, recurses := true, apart := false, narrowed := true }
def CompressBackUptoSaid : Prop := compressBackUptoRow.holds Try.pinned (OpenSpec.upto compressBackSpec)

/-- 'vmfleetlaw20.CompressRuns', WHERE WHAT IT READS IS OF BULK AT MOST 1048576: true; the input reads as it did. -/
def compressRunsUptoRow : OpenClaim := { program := "ytapngmfecjhlfaa", sum := "459fe98819c4f3dbf94aa304ef23cb02065dc0a33fbcaa74bbdd1968b13b35b3", func := "vmfleet/vmfleetlaw20.CompressRuns", spec := "compressRuns", unfollowed := true, recurses := true, apart := false, narrowed := true }
def CompressRunsUptoSaid : Prop := compressRunsUptoRow.holds Try.pinned (OpenSpec.upto compressRunsSpec)

end Rows
end Go.Proofs.Ytapngmfecjhlfaa
