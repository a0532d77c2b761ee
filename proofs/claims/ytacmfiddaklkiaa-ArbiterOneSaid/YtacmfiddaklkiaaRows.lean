/-
  No cell of these rows narrows 'for every input' (looked for: loops, veiled, ifaces, maps, wideKeys, modest, calm, conditions, laid).
  DERIVED. THE GIVEN ROWS OF THIS SEAT. 12 by the template 'for every input the law returns true; each argument reads behind the call as it read before'; 0 by the template 'total and deterministic' (their statements: YtacmfiddaklkiaaTotals.lean).
  GIVEN WITH THE SEED: the statements are not yours to turn. If you find one false, say at which input.
  Laid BY PROGRAM, IN A SANDBOX (cutbox-rows.mjs): the forced cells as the released guide's own fill.sh prints them over the translation 3e414b8f5f657567… (all of the seat's roots in one cut). By AI agents, Wed Nov 11 2026. No macro, syntax, notation, axiom, sorry.
-/
import Derived.Test.YtacmfiddaklkiaaChecked
import GoSem.Claim
import GoSem.ClaimJoined
import GoSem.ClaimMapViews
import Derived.JoinedTies
import Derived.KernelRfl
namespace Go.Proofs.Ytacmfiddaklkiaa
/- THE CELL 'sum', in the pinned program and in every row, IS THE sha256 OF THE DUMP (.gsa) THAT YtacmfiddaklkiaaProg.lean LOADS. Nothing in Lean hashes anything: it is a label: what it is worth is what the hold of that sum in a sandbox is worth. -/
noncomputable def Try.pinned : Pinned := { name := "ytacmfiddaklkiaa", sum := "3e414b8f5f6575672aad3af35cbca29b5f97b7066e20a20b0f56d4a79c9a324b", checked := Try.checked }
namespace Rows
def none {H : Type} : Left H := { results := [], args := [] }

/-- 'vmfleetlaw7.ConsoleFull': WHATEVER THE INPUT: true; the input reads as it did. -/
def consoleFullSpec : ChangeSpec := { name := "consoleFull", fn := fun _ => fun
  | [d1, d2] => { results := [.lit (.bool true)], args := [d1, d2] }
  | _ => none }
def consoleFullRow : OpenClaim := { program := "ytacmfiddaklkiaa", sum := "3e414b8f5f6575672aad3af35cbca29b5f97b7066e20a20b0f56d4a79c9a324b", func := "vmfleet/vmfleetlaw7.ConsoleFull", spec := "consoleFull", apart := false }
def ConsoleFullSaid : Prop := consoleFullRow.holds Try.pinned (OpenSpec.ofChange consoleFullSpec)

/-- ITS FALSE NEIGHBOUR: 'it returns false'. Refute it at one input. -/
def consoleFullWrong : ChangeSpec := { name := "consoleFull", fn := fun _ => fun
  | [d1, d2] => { results := [.lit (.bool false)], args := [d1, d2] }
  | _ => none }
def ConsoleFullWrongFalsely : Prop := consoleFullRow.holds Try.pinned (OpenSpec.ofChange consoleFullWrong)

/-- 'vmfleetlaw7.ConsoleTells': WHATEVER THE INPUT: true; the input reads as it did. -/
def consoleTellsSpec : ChangeSpec := { name := "consoleTells", fn := fun _ => fun
  | [d1, d2, d3, d4] => { results := [.lit (.bool true)], args := [d1, d2, d3, d4] }
  | _ => none }
def consoleTellsRow : OpenClaim := { program := "ytacmfiddaklkiaa", sum := "3e414b8f5f6575672aad3af35cbca29b5f97b7066e20a20b0f56d4a79c9a324b", func := "vmfleet/vmfleetlaw7.ConsoleTells", spec := "consoleTells", apart := false }
def ConsoleTellsSaid : Prop := consoleTellsRow.holds Try.pinned (OpenSpec.ofChange consoleTellsSpec)

/-- ITS FALSE NEIGHBOUR: 'it returns false'. Refute it at one input. -/
def consoleTellsWrong : ChangeSpec := { name := "consoleTells", fn := fun _ => fun
  | [d1, d2, d3, d4] => { results := [.lit (.bool false)], args := [d1, d2, d3, d4] }
  | _ => none }
def ConsoleTellsWrongFalsely : Prop := consoleTellsRow.holds Try.pinned (OpenSpec.ofChange consoleTellsWrong)

/-- 'vmfleetlaw7.ConsoleQueues': WHATEVER THE INPUT: true; the input reads as it did. -/
def consoleQueuesSpec : ChangeSpec := { name := "consoleQueues", fn := fun _ => fun
  | [d] => { results := [.lit (.bool true)], args := [d] }
  | _ => none }
def consoleQueuesRow : OpenClaim := { program := "ytacmfiddaklkiaa", sum := "3e414b8f5f6575672aad3af35cbca29b5f97b7066e20a20b0f56d4a79c9a324b", func := "vmfleet/vmfleetlaw7.ConsoleQueues", spec := "consoleQueues", apart := false }
def ConsoleQueuesSaid : Prop := consoleQueuesRow.holds Try.pinned (OpenSpec.ofChange consoleQueuesSpec)

/-- ITS FALSE NEIGHBOUR: 'it returns false'. Refute it at one input. -/
def consoleQueuesWrong : ChangeSpec := { name := "consoleQueues", fn := fun _ => fun
  | [d] => { results := [.lit (.bool false)], args := [d] }
  | _ => none }
def ConsoleQueuesWrongFalsely : Prop := consoleQueuesRow.holds Try.pinned (OpenSpec.ofChange consoleQueuesWrong)

/-- 'vmfleetlaw8.TimerTells': WHATEVER THE INPUT: true; the input reads as it did. -/
def timerTellsSpec : ChangeSpec := { name := "timerTells", fn := fun _ => fun
  | [d1, d2, d3] => { results := [.lit (.bool true)], args := [d1, d2, d3] }
  | _ => none }
def timerTellsRow : OpenClaim := { program := "ytacmfiddaklkiaa", sum := "3e414b8f5f6575672aad3af35cbca29b5f97b7066e20a20b0f56d4a79c9a324b", func := "vmfleet/vmfleetlaw8.TimerTells", spec := "timerTells", apart := false }
def TimerTellsSaid : Prop := timerTellsRow.holds Try.pinned (OpenSpec.ofChange timerTellsSpec)

/-- ITS FALSE NEIGHBOUR: 'it returns false'. Refute it at one input. -/
def timerTellsWrong : ChangeSpec := { name := "timerTells", fn := fun _ => fun
  | [d1, d2, d3] => { results := [.lit (.bool false)], args := [d1, d2, d3] }
  | _ => none }
def TimerTellsWrongFalsely : Prop := timerTellsRow.holds Try.pinned (OpenSpec.ofChange timerTellsWrong)

/-- 'vmfleetlaw8.TimerOnce': WHATEVER THE INPUT: true; the input reads as it did. -/
def timerOnceSpec : ChangeSpec := { name := "timerOnce", fn := fun _ => fun
  | [d] => { results := [.lit (.bool true)], args := [d] }
  | _ => none }
def timerOnceRow : OpenClaim := { program := "ytacmfiddaklkiaa", sum := "3e414b8f5f6575672aad3af35cbca29b5f97b7066e20a20b0f56d4a79c9a324b", func := "vmfleet/vmfleetlaw8.TimerOnce", spec := "timerOnce", apart := false }
def TimerOnceSaid : Prop := timerOnceRow.holds Try.pinned (OpenSpec.ofChange timerOnceSpec)

/-- ITS FALSE NEIGHBOUR: 'it returns false'. Refute it at one input. -/
def timerOnceWrong : ChangeSpec := { name := "timerOnce", fn := fun _ => fun
  | [d] => { results := [.lit (.bool false)], args := [d] }
  | _ => none }
def TimerOnceWrongFalsely : Prop := timerOnceRow.holds Try.pinned (OpenSpec.ofChange timerOnceWrong)

/-- 'vmfleetlaw8.TimerKeeps': WHATEVER THE INPUT: true; the input reads as it did. -/
def timerKeepsSpec : ChangeSpec := { name := "timerKeeps", fn := fun _ => fun
  | [d1, d2] => { results := [.lit (.bool true)], args := [d1, d2] }
  | _ => none }
def timerKeepsRow : OpenClaim := { program := "ytacmfiddaklkiaa", sum := "3e414b8f5f6575672aad3af35cbca29b5f97b7066e20a20b0f56d4a79c9a324b", func := "vmfleet/vmfleetlaw8.TimerKeeps", spec := "timerKeeps", apart := false }
def TimerKeepsSaid : Prop := timerKeepsRow.holds Try.pinned (OpenSpec.ofChange timerKeepsSpec)

/-- ITS FALSE NEIGHBOUR: 'it returns false'. Refute it at one input. -/
def timerKeepsWrong : ChangeSpec := { name := "timerKeeps", fn := fun _ => fun
  | [d1, d2] => { results := [.lit (.bool false)], args := [d1, d2] }
  | _ => none }
def TimerKeepsWrongFalsely : Prop := timerKeepsRow.holds Try.pinned (OpenSpec.ofChange timerKeepsWrong)

/-- 'vmfleetlaw39.AdmitFits': WHATEVER THE INPUT: true; the input reads as it did. -/
def admitFitsSpec : ChangeSpec := { name := "admitFits", fn := fun _ => fun
  | [d1, d2, d3, d4, d5] => { results := [.lit (.bool true)], args := [d1, d2, d3, d4, d5] }
  | _ => none }
def admitFitsRow : OpenClaim := { program := "ytacmfiddaklkiaa", sum := "3e414b8f5f6575672aad3af35cbca29b5f97b7066e20a20b0f56d4a79c9a324b", func := "vmfleet/vmfleetlaw39.AdmitFits", spec := "admitFits", apart := false }
def AdmitFitsSaid : Prop := admitFitsRow.holds Try.pinned (OpenSpec.ofChange admitFitsSpec)

/-- ITS FALSE NEIGHBOUR: 'it returns false'. Refute it at one input. -/
def admitFitsWrong : ChangeSpec := { name := "admitFits", fn := fun _ => fun
  | [d1, d2, d3, d4, d5] => { results := [.lit (.bool false)], args := [d1, d2, d3, d4, d5] }
  | _ => none }
def AdmitFitsWrongFalsely : Prop := admitFitsRow.holds Try.pinned (OpenSpec.ofChange admitFitsWrong)

/-- 'vmfleetlaw39.AdmitAdds': WHATEVER THE INPUT: true; the input reads as it did. -/
def admitAddsSpec : ChangeSpec := { name := "admitAdds", fn := fun _ => fun
  | [d1, d2, d3, d4] => { results := [.lit (.bool true)], args := [d1, d2, d3, d4] }
  | _ => none }
def admitAddsRow : OpenClaim := { program := "ytacmfiddaklkiaa", sum := "3e414b8f5f6575672aad3af35cbca29b5f97b7066e20a20b0f56d4a79c9a324b", func := "vmfleet/vmfleetlaw39.AdmitAdds", spec := "admitAdds", apart := false }
def AdmitAddsSaid : Prop := admitAddsRow.holds Try.pinned (OpenSpec.ofChange admitAddsSpec)

/-- ITS FALSE NEIGHBOUR: 'it returns false'. Refute it at one input. -/
def admitAddsWrong : ChangeSpec := { name := "admitAdds", fn := fun _ => fun
  | [d1, d2, d3, d4] => { results := [.lit (.bool false)], args := [d1, d2, d3, d4] }
  | _ => none }
def AdmitAddsWrongFalsely : Prop := admitAddsRow.holds Try.pinned (OpenSpec.ofChange admitAddsWrong)

/-- 'vmfleetlaw26.ArbiterTells': WHATEVER THE INPUT: true; the input reads as it did. -/
def arbiterTellsSpec : ChangeSpec := { name := "arbiterTells", fn := fun _ => fun
  | [d1, d2, d3, d4, d5] => { results := [.lit (.bool true)], args := [d1, d2, d3, d4, d5] }
  | _ => none }
def arbiterTellsRow : OpenClaim := { program := "ytacmfiddaklkiaa", sum := "3e414b8f5f6575672aad3af35cbca29b5f97b7066e20a20b0f56d4a79c9a324b", func := "vmfleet/vmfleetlaw26.ArbiterTells", spec := "arbiterTells", apart := false }
def ArbiterTellsSaid : Prop := arbiterTellsRow.holds Try.pinned (OpenSpec.ofChange arbiterTellsSpec)

/-- ITS FALSE NEIGHBOUR: 'it returns false'. Refute it at one input. -/
def arbiterTellsWrong : ChangeSpec := { name := "arbiterTells", fn := fun _ => fun
  | [d1, d2, d3, d4, d5] => { results := [.lit (.bool false)], args := [d1, d2, d3, d4, d5] }
  | _ => none }
def ArbiterTellsWrongFalsely : Prop := arbiterTellsRow.holds Try.pinned (OpenSpec.ofChange arbiterTellsWrong)

/-- 'vmfleetlaw26.ArbiterOne': WHATEVER THE INPUT: true; the input reads as it did. -/
def arbiterOneSpec : ChangeSpec := { name := "arbiterOne", fn := fun _ => fun
  | [d1, d2, d3] => { results := [.lit (.bool true)], args := [d1, d2, d3] }
  | _ => none }
def arbiterOneRow : OpenClaim := { program := "ytacmfiddaklkiaa", sum := "3e414b8f5f6575672aad3af35cbca29b5f97b7066e20a20b0f56d4a79c9a324b", func := "vmfleet/vmfleetlaw26.ArbiterOne", spec := "arbiterOne", apart := false }
def ArbiterOneSaid : Prop := arbiterOneRow.holds Try.pinned (OpenSpec.ofChange arbiterOneSpec)

/-- ITS FALSE NEIGHBOUR: 'it returns false'. Refute it at one input. -/
def arbiterOneWrong : ChangeSpec := { name := "arbiterOne", fn := fun _ => fun
  | [d1, d2, d3] => { results := [.lit (.bool false)], args := [d1, d2, d3] }
  | _ => none }
def ArbiterOneWrongFalsely : Prop := arbiterOneRow.holds Try.pinned (OpenSpec.ofChange arbiterOneWrong)

/-- 'vmfleetlaw26.ArbiterFences': WHATEVER THE INPUT: true; the input reads as it did. -/
def arbiterFencesSpec : ChangeSpec := { name := "arbiterFences", fn := fun _ => fun
  | [d1, d2] => { results := [.lit (.bool true)], args := [d1, d2] }
  | _ => none }
def arbiterFencesRow : OpenClaim := { program := "ytacmfiddaklkiaa", sum := "3e414b8f5f6575672aad3af35cbca29b5f97b7066e20a20b0f56d4a79c9a324b", func := "vmfleet/vmfleetlaw26.ArbiterFences", spec := "arbiterFences", apart := false }
def ArbiterFencesSaid : Prop := arbiterFencesRow.holds Try.pinned (OpenSpec.ofChange arbiterFencesSpec)

/-- ITS FALSE NEIGHBOUR: 'it returns false'. Refute it at one input. -/
def arbiterFencesWrong : ChangeSpec := { name := "arbiterFences", fn := fun _ => fun
  | [d1, d2] => { results := [.lit (.bool false)], args := [d1, d2] }
  | _ => none }
def ArbiterFencesWrongFalsely : Prop := arbiterFencesRow.holds Try.pinned (OpenSpec.ofChange arbiterFencesWrong)

/-- 'vmfleetlaw26.ArbiterRepeats': WHATEVER THE INPUT: true; the input reads as it did. -/
def arbiterRepeatsSpec : ChangeSpec := { name := "arbiterRepeats", fn := fun _ => fun
  | [d1, d2, d3, d4] => { results := [.lit (.bool true)], args := [d1, d2, d3, d4] }
  | _ => none }
def arbiterRepeatsRow : OpenClaim := { program := "ytacmfiddaklkiaa", sum := "3e414b8f5f6575672aad3af35cbca29b5f97b7066e20a20b0f56d4a79c9a324b", func := "vmfleet/vmfleetlaw26.ArbiterRepeats", spec := "arbiterRepeats", apart := false }
def ArbiterRepeatsSaid : Prop := arbiterRepeatsRow.holds Try.pinned (OpenSpec.ofChange arbiterRepeatsSpec)

/-- ITS FALSE NEIGHBOUR: 'it returns false'. Refute it at one input. -/
def arbiterRepeatsWrong : ChangeSpec := { name := "arbiterRepeats", fn := fun _ => fun
  | [d1, d2, d3, d4] => { results := [.lit (.bool false)], args := [d1, d2, d3, d4] }
  | _ => none }
def ArbiterRepeatsWrongFalsely : Prop := arbiterRepeatsRow.holds Try.pinned (OpenSpec.ofChange arbiterRepeatsWrong)

/- THE SECOND FORM. 'bulk': how many values and letters a reading holds, each counted each time it is reached (what is shared counts as often as it is met; a slice's spare places count too). A statement '..UptoSaid' is the law's where the arguments, and the package variables that the reading takes, are together of bulk at most 1048576: NARROWER than '..Said'. Prove '..Said' where nothing that the law and all that it calls make is longer than what came in: it says more and counts as full. Else prove '..UptoSaid'. A law counts once. -/
mutual
def uptoBulk {H : Type} : DataW H → Nat
  | .lit (.string bytes) => bytes.length + 1
  | .lit _ => 1
  | .nil => 1
  | .ptr d => uptoBulk d + 1
  | .slice elems spare => uptoBulkAll elems + uptoBulkAll spare + 1
  | .agg parts => uptoBulkAll parts + 1
  | .iface _ d => uptoBulk d + 1
  | .map entries => uptoBulkEntries entries + 1
  | .held _ => 1
def uptoBulkAll {H : Type} : List (DataW H) → Nat
  | [] => 0
  | d :: r => uptoBulk d + uptoBulkAll r
def uptoBulkEntries {H : Type} : List (Lit × DataW H) → Nat
  | [] => 0
  | x :: r => uptoBulkEntry x + uptoBulkEntries r
def uptoBulkEntry {H : Type} : Lit × DataW H → Nat
  | (.string bytes, d) => bytes.length + uptoBulk d + 1
  | (_, d) => uptoBulk d + 1
 end
def uptoSmall : (H : Type) → List (DataW H) → Bool := fun _ ds => decide (uptoBulkAll ds ≤ 1048576)
def OpenSpec.upto (s : _root_.Go.ChangeSpec) : _root_.Go.OpenSpec := { _root_.Go.OpenSpec.ofChange s with cond := some uptoSmall }

/-- 'vmfleetlaw7.ConsoleFull', WHERE WHAT IT READS IS OF BULK AT MOST 1048576: true; the input reads as it did. -/
def consoleFullUptoRow : OpenClaim := { program := "ytacmfiddaklkiaa", sum := "3e414b8f5f6575672aad3af35cbca29b5f97b7066e20a20b0f56d4a79c9a324b", func := "vmfleet/vmfleetlaw7.ConsoleFull", spec := "consoleFull", apart := false, narrowed := true }
def ConsoleFullUptoSaid : Prop := consoleFullUptoRow.holds Try.pinned (OpenSpec.upto consoleFullSpec)

/-- 'vmfleetlaw7.ConsoleTells', WHERE WHAT IT READS IS OF BULK AT MOST 1048576: true; the input reads as it did. -/
def consoleTellsUptoRow : OpenClaim := { program := "ytacmfiddaklkiaa", sum := "3e414b8f5f6575672aad3af35cbca29b5f97b7066e20a20b0f56d4a79c9a324b", func := "vmfleet/vmfleetlaw7.ConsoleTells", spec := "consoleTells", apart := false, narrowed := true }
def ConsoleTellsUptoSaid : Prop := consoleTellsUptoRow.holds Try.pinned (OpenSpec.upto consoleTellsSpec)

/-- 'vmfleetlaw7.ConsoleQueues', WHERE WHAT IT READS IS OF BULK AT MOST 1048576: true; the input reads as it did. -/
def consoleQueuesUptoRow : OpenClaim := { program := "ytacmfiddaklkiaa", sum := "3e414b8f5f6575672aad3af35cbca29b5f97b7066e20a20b0f56d4a79c9a324b", func := "vmfleet/vmfleetlaw7.ConsoleQueues", spec := "consoleQueues", apart := false, narrowed := true }
def ConsoleQueuesUptoSaid : Prop := consoleQueuesUptoRow.holds Try.pinned (OpenSpec.upto consoleQueuesSpec)

/-- 'vmfleetlaw8.TimerTells', WHERE WHAT IT READS IS OF BULK AT MOST 1048576: true; the input reads as it did. -/
def timerTellsUptoRow : OpenClaim := { program := "ytacmfiddaklkiaa", sum := "3e414b8f5f6575672aad3af35cbca29b5f97b7066e20a20b0f56d4a79c9a324b", func := "vmfleet/vmfleetlaw8.TimerTells", spec := "timerTells", apart := false, narrowed := true }
def TimerTellsUptoSaid : Prop := timerTellsUptoRow.holds Try.pinned (OpenSpec.upto timerTellsSpec)

/-- 'vmfleetlaw8.TimerOnce', WHERE WHAT IT READS IS OF BULK AT MOST 1048576: true; the input reads as it did. -/
def timerOnceUptoRow : OpenClaim := { program := "ytacmfiddaklkiaa", sum := "3e414b8f5f6575672aad3af35cbca29b5f97b7066e20a20b0f56d4a79c9a324b", func := "vmfleet/vmfleetlaw8.TimerOnce", spec := "timerOnce", apart := false, narrowed := true }
def TimerOnceUptoSaid : Prop := timerOnceUptoRow.holds Try.pinned (OpenSpec.upto timerOnceSpec)

/-- 'vmfleetlaw8.TimerKeeps', WHERE WHAT IT READS IS OF BULK AT MOST 1048576: true; the input reads as it did. -/
def timerKeepsUptoRow : OpenClaim := { program := "ytacmfiddaklkiaa", sum := "3e414b8f5f6575672aad3af35cbca29b5f97b7066e20a20b0f56d4a79c9a324b", func := "vmfleet/vmfleetlaw8.TimerKeeps", spec := "timerKeeps", apart := false, narrowed := true }
def TimerKeepsUptoSaid : Prop := timerKeepsUptoRow.holds Try.pinned (OpenSpec.upto timerKeepsSpec)

/-- 'vmfleetlaw39.AdmitFits', WHERE WHAT IT READS IS OF BULK AT MOST 1048576: true; the input reads as it did. -/
def admitFitsUptoRow : OpenClaim := { program := "ytacmfiddaklkiaa", sum := "3e414b8f5f6575672aad3af35cbca29b5f97b7066e20a20b0f56d4a79c9a324b", func := "vmfleet/vmfleetlaw39.AdmitFits", spec := "admitFits", apart := false, narrowed := true }
def AdmitFitsUptoSaid : Prop := admitFitsUptoRow.holds Try.pinned (OpenSpec.upto admitFitsSpec)

/-- 'vmfleetlaw39.AdmitAdds', WHERE WHAT IT READS IS OF BULK AT MOST 1048576: true; the input reads as it did. -/
def admitAddsUptoRow : OpenClaim := { program := "ytacmfiddaklkiaa", sum := "3e414b8f5f6575672aad3af35cbca29b5f97b7066e20a20b0f56d4a79c9a324b", func := "vmfleet/vmfleetlaw39.AdmitAdds", spec := "admitAdds", apart := false, narrowed := true }
def AdmitAddsUptoSaid : Prop := admitAddsUptoRow.holds Try.pinned (OpenSpec.upto admitAddsSpec)

/-- 'vmfleetlaw26.ArbiterTells', WHERE WHAT IT READS IS OF BULK AT MOST 1048576: true; the input reads as it did. -/
def arbiterTellsUptoRow : OpenClaim := { program := "ytacmfiddaklkiaa", sum := "3e414b8f5f6575672aad3af35cbca29b5f97b7066e20a20b0f56d4a79c9a324b", func := "vmfleet/vmfleetlaw26.ArbiterTells", spec := "arbiterTells", apart := false, narrowed := true }
def ArbiterTellsUptoSaid : Prop := arbiterTellsUptoRow.holds Try.pinned (OpenSpec.upto arbiterTellsSpec)

/-- 'vmfleetlaw26.ArbiterOne', WHERE WHAT IT READS IS OF BULK AT MOST 1048576: true; the input reads as it did. -/
def arbiterOneUptoRow : OpenClaim := { program := "ytacmfiddaklkiaa", sum := "3e414b8f5f6575672aad3af35cbca29b5f97b7066e20a20b0f56d4a79c9a324b", func := "vmfleet/vmfleetlaw26.ArbiterOne", spec := "arbiterOne", apart := false, narrowed := true }
def ArbiterOneUptoSaid : Prop := arbiterOneUptoRow.holds Try.pinned (OpenSpec.upto arbiterOneSpec)

/-- 'vmfleetlaw26.ArbiterFences', WHERE WHAT IT READS IS OF BULK AT MOST 1048576: true; the input reads as it did. -/
def arbiterFencesUptoRow : OpenClaim := { program := "ytacmfiddaklkiaa", sum := "3e414b8f5f6575672aad3af35cbca29b5f97b7066e20a20b0f56d4a79c9a324b", func := "vmfleet/vmfleetlaw26.ArbiterFences", spec := "arbiterFences", apart := false, narrowed := true }
def ArbiterFencesUptoSaid : Prop := arbiterFencesUptoRow.holds Try.pinned (OpenSpec.upto arbiterFencesSpec)

/-- 'vmfleetlaw26.ArbiterRepeats', WHERE WHAT IT READS IS OF BULK AT MOST 1048576: true; the input reads as it did. -/
def arbiterRepeatsUptoRow : OpenClaim := { program := "ytacmfiddaklkiaa", sum := "3e414b8f5f6575672aad3af35cbca29b5f97b7066e20a20b0f56d4a79c9a324b", func := "vmfleet/vmfleetlaw26.ArbiterRepeats", spec := "arbiterRepeats", apart := false, narrowed := true }
def ArbiterRepeatsUptoSaid : Prop := arbiterRepeatsUptoRow.holds Try.pinned (OpenSpec.upto arbiterRepeatsSpec)

end Rows
end Go.Proofs.Ytacmfiddaklkiaa
