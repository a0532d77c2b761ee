/-
  No cell of these rows narrows 'for every input' (looked for: loops, veiled, ifaces, maps, wideKeys, modest, calm, conditions, laid).
  DERIVED. THE GIVEN ROWS OF THIS SEAT. 9 by the template 'for every input the law returns true; each argument reads behind the call as it read before'; 0 by the template 'total and deterministic' (their statements: YteiepkkkphkncaaTotals.lean).
  GIVEN WITH THE SEED: the statements are not yours to turn. If you find one false, say at which input.
  Laid BY PROGRAM, IN A SANDBOX (cutbox-rows.mjs): the forced cells as the released guide's own fill.sh prints them over the translation c89ced8bd2166458… (all of the seat's roots in one cut). By AI agents, Wed Nov 11 2026. No macro, syntax, notation, axiom, sorry.
-/
import Derived.Test.YteiepkkkphkncaaChecked
import GoSem.Claim
import GoSem.ClaimJoined
import GoSem.ClaimMapViews
import Derived.JoinedTies
import Derived.KernelRfl
namespace Go.Proofs.Yteiepkkkphkncaa
/- THE CELL 'sum', in the pinned program and in every row, IS THE sha256 OF THE DUMP (.gsa) THAT YteiepkkkphkncaaProg.lean LOADS. Nothing in Lean hashes anything: it is a label: what it is worth is what the hold of that sum in a sandbox is worth. -/
noncomputable def Try.pinned : Pinned := { name := "yteiepkkkphkncaa", sum := "c89ced8bd216645819cede38042ae617de632fa4b816be74a2b83611bae399e9", checked := Try.checked }
namespace Rows
def none {H : Type} : Left H := { results := [], args := [] }

/-- 'vmfleetlaw9.DiskPorts': WHATEVER THE INPUT: true; the input reads as it did. -/
def diskPortsSpec : ChangeSpec := { name := "diskPorts", fn := fun _ => fun
  | [d1, d2, d3, d4, d5, d6, d7, d8] => { results := [.lit (.bool true)], args := [d1, d2, d3, d4, d5, d6, d7, d8] }
  | _ => none }
def diskPortsRow : OpenClaim := { program := "yteiepkkkphkncaa", sum := "c89ced8bd216645819cede38042ae617de632fa4b816be74a2b83611bae399e9", func := "vmfleet/vmfleetlaw9.DiskPorts", spec := "diskPorts", apart := false }
def DiskPortsSaid : Prop := diskPortsRow.holds Try.pinned (OpenSpec.ofChange diskPortsSpec)

/-- ITS FALSE NEIGHBOUR: 'it returns false'. Refute it at one input. -/
def diskPortsWrong : ChangeSpec := { name := "diskPorts", fn := fun _ => fun
  | [d1, d2, d3, d4, d5, d6, d7, d8] => { results := [.lit (.bool false)], args := [d1, d2, d3, d4, d5, d6, d7, d8] }
  | _ => none }
def DiskPortsWrongFalsely : Prop := diskPortsRow.holds Try.pinned (OpenSpec.ofChange diskPortsWrong)

/-- 'vmfleetlaw10.NicPorts': WHATEVER THE INPUT: true; the input reads as it did. -/
def nicPortsSpec : ChangeSpec := { name := "nicPorts", fn := fun _ => fun
  | [d1, d2, d3, d4, d5, d6, d7, d8] => { results := [.lit (.bool true)], args := [d1, d2, d3, d4, d5, d6, d7, d8] }
  | _ => none }
def nicPortsRow : OpenClaim := { program := "yteiepkkkphkncaa", sum := "c89ced8bd216645819cede38042ae617de632fa4b816be74a2b83611bae399e9", func := "vmfleet/vmfleetlaw10.NicPorts", spec := "nicPorts", apart := false }
def NicPortsSaid : Prop := nicPortsRow.holds Try.pinned (OpenSpec.ofChange nicPortsSpec)

/-- ITS FALSE NEIGHBOUR: 'it returns false'. Refute it at one input. -/
def nicPortsWrong : ChangeSpec := { name := "nicPorts", fn := fun _ => fun
  | [d1, d2, d3, d4, d5, d6, d7, d8] => { results := [.lit (.bool false)], args := [d1, d2, d3, d4, d5, d6, d7, d8] }
  | _ => none }
def NicPortsWrongFalsely : Prop := nicPortsRow.holds Try.pinned (OpenSpec.ofChange nicPortsWrong)

/-- 'vmfleetlaw10.NicOnce': WHATEVER THE INPUT: true; the input reads as it did. -/
def nicOnceSpec : ChangeSpec := { name := "nicOnce", fn := fun _ => fun
  | [d1, d2] => { results := [.lit (.bool true)], args := [d1, d2] }
  | _ => none }
def nicOnceRow : OpenClaim := { program := "yteiepkkkphkncaa", sum := "c89ced8bd216645819cede38042ae617de632fa4b816be74a2b83611bae399e9", func := "vmfleet/vmfleetlaw10.NicOnce", spec := "nicOnce", apart := false }
def NicOnceSaid : Prop := nicOnceRow.holds Try.pinned (OpenSpec.ofChange nicOnceSpec)

/-- ITS FALSE NEIGHBOUR: 'it returns false'. Refute it at one input. -/
def nicOnceWrong : ChangeSpec := { name := "nicOnce", fn := fun _ => fun
  | [d1, d2] => { results := [.lit (.bool false)], args := [d1, d2] }
  | _ => none }
def NicOnceWrongFalsely : Prop := nicOnceRow.holds Try.pinned (OpenSpec.ofChange nicOnceWrong)

/-- 'vmfleetlaw10.NicSends': WHATEVER THE INPUT: true; the input reads as it did. -/
def nicSendsSpec : ChangeSpec := { name := "nicSends", fn := fun _ => fun
  | [d1, d2, d3, d4] => { results := [.lit (.bool true)], args := [d1, d2, d3, d4] }
  | _ => none }
def nicSendsRow : OpenClaim := { program := "yteiepkkkphkncaa", sum := "c89ced8bd216645819cede38042ae617de632fa4b816be74a2b83611bae399e9", func := "vmfleet/vmfleetlaw10.NicSends", spec := "nicSends", apart := false }
def NicSendsSaid : Prop := nicSendsRow.holds Try.pinned (OpenSpec.ofChange nicSendsSpec)

/-- ITS FALSE NEIGHBOUR: 'it returns false'. Refute it at one input. -/
def nicSendsWrong : ChangeSpec := { name := "nicSends", fn := fun _ => fun
  | [d1, d2, d3, d4] => { results := [.lit (.bool false)], args := [d1, d2, d3, d4] }
  | _ => none }
def NicSendsWrongFalsely : Prop := nicSendsRow.holds Try.pinned (OpenSpec.ofChange nicSendsWrong)

/-- 'vmfleetlaw10.NicReceives': WHATEVER THE INPUT: true; the input reads as it did. -/
def nicReceivesSpec : ChangeSpec := { name := "nicReceives", fn := fun _ => fun
  | [d1, d2, d3, d4, d5, d6] => { results := [.lit (.bool true)], args := [d1, d2, d3, d4, d5, d6] }
  | _ => none }
def nicReceivesRow : OpenClaim := { program := "yteiepkkkphkncaa", sum := "c89ced8bd216645819cede38042ae617de632fa4b816be74a2b83611bae399e9", func := "vmfleet/vmfleetlaw10.NicReceives", spec := "nicReceives", apart := false }
def NicReceivesSaid : Prop := nicReceivesRow.holds Try.pinned (OpenSpec.ofChange nicReceivesSpec)

/-- ITS FALSE NEIGHBOUR: 'it returns false'. Refute it at one input. -/
def nicReceivesWrong : ChangeSpec := { name := "nicReceives", fn := fun _ => fun
  | [d1, d2, d3, d4, d5, d6] => { results := [.lit (.bool false)], args := [d1, d2, d3, d4, d5, d6] }
  | _ => none }
def NicReceivesWrongFalsely : Prop := nicReceivesRow.holds Try.pinned (OpenSpec.ofChange nicReceivesWrong)

/-- 'vmfleetlaw10.NicKeeps': WHATEVER THE INPUT: true; the input reads as it did. -/
def nicKeepsSpec : ChangeSpec := { name := "nicKeeps", fn := fun _ => fun
  | [d1, d2, d3, d4, d5, d6] => { results := [.lit (.bool true)], args := [d1, d2, d3, d4, d5, d6] }
  | _ => none }
def nicKeepsRow : OpenClaim := { program := "yteiepkkkphkncaa", sum := "c89ced8bd216645819cede38042ae617de632fa4b816be74a2b83611bae399e9", func := "vmfleet/vmfleetlaw10.NicKeeps", spec := "nicKeeps", apart := false }
def NicKeepsSaid : Prop := nicKeepsRow.holds Try.pinned (OpenSpec.ofChange nicKeepsSpec)

/-- ITS FALSE NEIGHBOUR: 'it returns false'. Refute it at one input. -/
def nicKeepsWrong : ChangeSpec := { name := "nicKeeps", fn := fun _ => fun
  | [d1, d2, d3, d4, d5, d6] => { results := [.lit (.bool false)], args := [d1, d2, d3, d4, d5, d6] }
  | _ => none }
def NicKeepsWrongFalsely : Prop := nicKeepsRow.holds Try.pinned (OpenSpec.ofChange nicKeepsWrong)

/-- 'vmfleetlaw9.DiskStores': WHATEVER THE INPUT: true; the input reads as it did. -/
def diskStoresSpec : ChangeSpec := { name := "diskStores", fn := fun _ => fun
  | [d1, d2, d3, d4, d5, d6] => { results := [.lit (.bool true)], args := [d1, d2, d3, d4, d5, d6] }
  | _ => none }
def diskStoresRow : OpenClaim := { program := "yteiepkkkphkncaa", sum := "c89ced8bd216645819cede38042ae617de632fa4b816be74a2b83611bae399e9", func := "vmfleet/vmfleetlaw9.DiskStores", spec := "diskStores", apart := false }
def DiskStoresSaid : Prop := diskStoresRow.holds Try.pinned (OpenSpec.ofChange diskStoresSpec)

/-- ITS FALSE NEIGHBOUR: 'it returns false'. Refute it at one input. -/
def diskStoresWrong : ChangeSpec := { name := "diskStores", fn := fun _ => fun
  | [d1, d2, d3, d4, d5, d6] => { results := [.lit (.bool false)], args := [d1, d2, d3, d4, d5, d6] }
  | _ => none }
def DiskStoresWrongFalsely : Prop := diskStoresRow.holds Try.pinned (OpenSpec.ofChange diskStoresWrong)

/-- 'vmfleetlaw9.DiskCompletes': WHATEVER THE INPUT: true; the input reads as it did. -/
def diskCompletesSpec : ChangeSpec := { name := "diskCompletes", fn := fun _ => fun
  | [d1, d2, d3, d4, d5, d6] => { results := [.lit (.bool true)], args := [d1, d2, d3, d4, d5, d6] }
  | _ => none }
def diskCompletesRow : OpenClaim := { program := "yteiepkkkphkncaa", sum := "c89ced8bd216645819cede38042ae617de632fa4b816be74a2b83611bae399e9", func := "vmfleet/vmfleetlaw9.DiskCompletes", spec := "diskCompletes", apart := false }
def DiskCompletesSaid : Prop := diskCompletesRow.holds Try.pinned (OpenSpec.ofChange diskCompletesSpec)

/-- ITS FALSE NEIGHBOUR: 'it returns false'. Refute it at one input. -/
def diskCompletesWrong : ChangeSpec := { name := "diskCompletes", fn := fun _ => fun
  | [d1, d2, d3, d4, d5, d6] => { results := [.lit (.bool false)], args := [d1, d2, d3, d4, d5, d6] }
  | _ => none }
def DiskCompletesWrongFalsely : Prop := diskCompletesRow.holds Try.pinned (OpenSpec.ofChange diskCompletesWrong)

/-- 'vmfleetlaw9.DiskKeeps': WHATEVER THE INPUT: true; the input reads as it did. -/
def diskKeepsSpec : ChangeSpec := { name := "diskKeeps", fn := fun _ => fun
  | [d1, d2, d3, d4, d5, d6] => { results := [.lit (.bool true)], args := [d1, d2, d3, d4, d5, d6] }
  | _ => none }
def diskKeepsRow : OpenClaim := { program := "yteiepkkkphkncaa", sum := "c89ced8bd216645819cede38042ae617de632fa4b816be74a2b83611bae399e9", func := "vmfleet/vmfleetlaw9.DiskKeeps", spec := "diskKeeps", apart := false }
def DiskKeepsSaid : Prop := diskKeepsRow.holds Try.pinned (OpenSpec.ofChange diskKeepsSpec)

/-- ITS FALSE NEIGHBOUR: 'it returns false'. Refute it at one input. -/
def diskKeepsWrong : ChangeSpec := { name := "diskKeeps", fn := fun _ => fun
  | [d1, d2, d3, d4, d5, d6] => { results := [.lit (.bool false)], args := [d1, d2, d3, d4, d5, d6] }
  | _ => none }
def DiskKeepsWrongFalsely : Prop := diskKeepsRow.holds Try.pinned (OpenSpec.ofChange diskKeepsWrong)

/- THE SECOND FORM. 'bulk': how many values and letters a reading holds, each counted each time it is reached (what is shared counts as often as it is met; a slice's spare places count too). A statement '..UptoSaid' is the law's where the arguments, and the package variables that the reading takes, are together of bulk at most 1048576: NARROWER than '..Said'. Prove '..Said' where nothing that the law and all that it calls make is longer than what came in: it says more and counts as full. Else prove '..UptoSaid'. A law counts once. -/
mutual
def uptoBulk {H : Type} : DataW H → Nat
  | .lit (.string bytes) => bytes.length + 1
  | .lit _ => 1
  | .nil => 1
  | .ptr d => uptoBulk d + 1
  | .slice elems spare => uptoBulkAll elems + uptoBulkAll spare + 1
  | .agg parts => uptoBulkAll parts + 1
  | .iface _ d => uptoBulk d + 1
  | .map entries => uptoBulkEntries entries + 1
  | .held _ => 1
def uptoBulkAll {H : Type} : List (DataW H) → Nat
  | [] => 0
  | d :: r => uptoBulk d + uptoBulkAll r
def uptoBulkEntries {H : Type} : List (Lit × DataW H) → Nat
  | [] => 0
  | x :: r => uptoBulkEntry x + uptoBulkEntries r
def uptoBulkEntry {H : Type} : Lit × DataW H → Nat
  | (.string bytes, d) => bytes.length + uptoBulk d + 1
  | (_, d) => uptoBulk d + 1
 end
def uptoSmall : (H : Type) → List (DataW H) → Bool := fun _ ds => decide (uptoBulkAll ds ≤ 1048576)
def OpenSpec.upto (s : _root_.Go.ChangeSpec) : _root_.Go.OpenSpec := { _root_.Go.OpenSpec.ofChange s with cond := some uptoSmall }

/-- 'vmfleetlaw9.DiskPorts', WHERE WHAT IT READS IS OF BULK AT MOST 1048576: true; the input reads as it did. -/
def diskPortsUptoRow : OpenClaim := { program := "yteiepkkkphkncaa", sum := "c89ced8bd216645819cede38042ae617de632fa4b816be74a2b83611bae399e9", func := "vmfleet/vmfleetlaw9.DiskPorts", spec := "diskPorts", apart := false, narrowed := true }
def DiskPortsUptoSaid : Prop := diskPortsUptoRow.holds Try.pinned (OpenSpec.upto diskPortsSpec)

/-- 'vmfleetlaw10.NicPorts', WHERE WHAT IT READS IS OF BULK AT MOST 1048576: true; the input reads as it did. -/
def nicPortsUptoRow : OpenClaim := { program := "yteiepkkkphkncaa", sum := "c89ced8bd216645819cede38042ae617de632fa4b816be74a2b83611bae399e9", func := "vmfleet/vmfleetlaw10.NicPorts", spec := "nicPorts", apart := false, narrowed := true }
def NicPortsUptoSaid : Prop := nicPortsUptoRow.holds Try.pinned (OpenSpec.upto nicPortsSpec)

/-- 'vmfleetlaw10.NicOnce', WHERE WHAT IT READS IS OF BULK AT MOST 1048576: true; the input reads as it did. -/
def nicOnceUptoRow : OpenClaim := { program := "yteiepkkkphkncaa", sum := "c89ced8bd216645819cede38042ae617de632fa4b816be74a2b83611bae399e9", func := "vmfleet/vmfleetlaw10.NicOnce", spec := "nicOnce", apart := false, narrowed := true }
def NicOnceUptoSaid : Prop := nicOnceUptoRow.holds Try.pinned (OpenSpec.upto nicOnceSpec)

/-- 'vmfleetlaw10.NicSends', WHERE WHAT IT READS IS OF BULK AT MOST 1048576: true; the input reads as it did. -/
def nicSendsUptoRow : OpenClaim := { program := "yteiepkkkphkncaa", sum := "c89ced8bd216645819cede38042ae617de632fa4b816be74a2b83611bae399e9", func := "vmfleet/vmfleetlaw10.NicSends", spec := "nicSends", apart := false, narrowed := true }
def NicSendsUptoSaid : Prop := nicSendsUptoRow.holds Try.pinned (OpenSpec.upto nicSendsSpec)

/-- 'vmfleetlaw10.NicReceives', WHERE WHAT IT READS IS OF BULK AT MOST 1048576: true; the input reads as it did. -/
def nicReceivesUptoRow : OpenClaim := { program := "yteiepkkkphkncaa", sum := "c89ced8bd216645819cede38042ae617de632fa4b816be74a2b83611bae399e9", func := "vmfleet/vmfleetlaw10.NicReceives", spec := "nicReceives", apart := false, narrowed := true }
def NicReceivesUptoSaid : Prop := nicReceivesUptoRow.holds Try.pinned (OpenSpec.upto nicReceivesSpec)

/-- 'vmfleetlaw10.NicKeeps', WHERE WHAT IT READS IS OF BULK AT MOST 1048576: true; the input reads as it did. -/
def nicKeepsUptoRow : OpenClaim := { program := "yteiepkkkphkncaa", sum := "c89ced8bd216645819cede38042ae617de632fa4b816be74a2b83611bae399e9", func := "vmfleet/vmfleetlaw10.NicKeeps", spec := "nicKeeps", apart := false, narrowed := true }
def NicKeepsUptoSaid : Prop := nicKeepsUptoRow.holds Try.pinned (OpenSpec.upto nicKeepsSpec)

/-- 'vmfleetlaw9.DiskStores', WHERE WHAT IT READS IS OF BULK AT MOST 1048576: true; the input reads as it did. -/
def diskStoresUptoRow : OpenClaim := { program := "yteiepkkkphkncaa", sum := "c89ced8bd216645819cede38042ae617de632fa4b816be74a2b83611bae399e9", func := "vmfleet/vmfleetlaw9.DiskStores", spec := "diskStores", apart := false, narrowed := true }
def DiskStoresUptoSaid : Prop := diskStoresUptoRow.holds Try.pinned (OpenSpec.upto diskStoresSpec)

/-- 'vmfleetlaw9.DiskCompletes', WHERE WHAT IT READS IS OF BULK AT MOST 1048576: true; the input reads as it did. -/
def diskCompletesUptoRow : OpenClaim := { program := "yteiepkkkphkncaa", sum := "c89ced8bd216645819cede38042ae617de632fa4b816be74a2b83611bae399e9", func := "vmfleet/vmfleetlaw9.DiskCompletes", spec := "diskCompletes", apart := false, narrowed := true }
def DiskCompletesUptoSaid : Prop := diskCompletesUptoRow.holds Try.pinned (OpenSpec.upto diskCompletesSpec)

/-- 'vmfleetlaw9.DiskKeeps', WHERE WHAT IT READS IS OF BULK AT MOST 1048576: true; the input reads as it did. -/
def diskKeepsUptoRow : OpenClaim := { program := "yteiepkkkphkncaa", sum := "c89ced8bd216645819cede38042ae617de632fa4b816be74a2b83611bae399e9", func := "vmfleet/vmfleetlaw9.DiskKeeps", spec := "diskKeeps", apart := false, narrowed := true }
def DiskKeepsUptoSaid : Prop := diskKeepsUptoRow.holds Try.pinned (OpenSpec.upto diskKeepsSpec)

end Rows
end Go.Proofs.Yteiepkkkphkncaa
