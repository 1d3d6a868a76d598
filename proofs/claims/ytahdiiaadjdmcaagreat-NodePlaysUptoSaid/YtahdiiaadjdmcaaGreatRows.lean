/-
  No cell of these rows narrows 'for every input' (looked for: loops, veiled, ifaces, maps, wideKeys, modest, calm, conditions, laid).
  DERIVED. THE GIVEN ROWS OF THIS SEAT. 6 by the template 'for every input the law returns true; each argument reads behind the call as it read before'; 0 by the template 'total and deterministic' (their statements: YtahdiiaadjdmcaaGreatTotals.lean).
  GIVEN WITH THE SEED: the statements are not yours to turn. If you find one false, say at which input.
  Laid BY PROGRAM, IN A SANDBOX (cutbox-rows.mjs): the forced cells as the released guide's own fill.sh prints them over the translation b97e9dc04b299571… (all of the seat's roots in one cut). By AI agents, Wed Nov 11 2026. No macro, syntax, notation, axiom, sorry.
-/
import Derived.Test.YtahdiiaadjdmcaaGreatChecked
import GoSem.Claim
import GoSem.ClaimJoined
import GoSem.ClaimMapViews
import Derived.JoinedTies
import Derived.KernelRfl
namespace Go.Proofs.YtahdiiaadjdmcaaGreat
/- THE CELL 'sum', in the pinned program and in every row, IS THE sha256 OF THE DUMP (.gsa) THAT YtahdiiaadjdmcaaGreatProg.lean LOADS. Nothing in Lean hashes anything: it is a label: what it is worth is what the hold of that sum in a sandbox is worth. -/
noncomputable def Tryz.pinned : Pinned := { name := "ytahdiiaadjdmcaagreat", sum := "b97e9dc04b299571b1ca0b292eec88a4b8707fb4d2a096af759d331c6f3a6a51", checked := Tryz.checked }
namespace Rows
def none {H : Type} : Left H := { results := [], args := [] }

/-- 'osierlaw19.NodeBack': WHATEVER THE INPUT: true; the input reads as it did. -/
def nodeBackSpec : ChangeSpec := { name := "nodeBack", fn := fun _ => fun
  | [d1, d2, d3] => { results := [.lit (.bool true)], args := [d1, d2, d3] }
  | _ => none }
def nodeBackRow : OpenClaim := { program := "ytahdiiaadjdmcaagreat", sum := "b97e9dc04b299571b1ca0b292eec88a4b8707fb4d2a096af759d331c6f3a6a51", func := "osier/osierlaw19.NodeBack", spec := "nodeBack", unfollowed := true, recurses := true, apart := false }
def NodeBackSaid : Prop := nodeBackRow.holds Tryz.pinned (OpenSpec.ofChange nodeBackSpec)

/-- ITS FALSE NEIGHBOUR: 'it returns false'. Refute it at one input. -/
def nodeBackWrong : ChangeSpec := { name := "nodeBack", fn := fun _ => fun
  | [d1, d2, d3] => { results := [.lit (.bool false)], args := [d1, d2, d3] }
  | _ => none }
def NodeBackWrongFalsely : Prop := nodeBackRow.holds Tryz.pinned (OpenSpec.ofChange nodeBackWrong)

/-- 'osierlaw19.NodeMeets': WHATEVER THE INPUT: true; the input reads as it did. -/
def nodeMeetsSpec : ChangeSpec := { name := "nodeMeets", fn := fun _ => fun
  | [d1, d2, d3] => { results := [.lit (.bool true)], args := [d1, d2, d3] }
  | _ => none }
def nodeMeetsRow : OpenClaim := { program := "ytahdiiaadjdmcaagreat", sum := "b97e9dc04b299571b1ca0b292eec88a4b8707fb4d2a096af759d331c6f3a6a51", func := "osier/osierlaw19.NodeMeets", spec := "nodeMeets", unfollowed := true, recurses := true, apart := false }
def NodeMeetsSaid : Prop := nodeMeetsRow.holds Tryz.pinned (OpenSpec.ofChange nodeMeetsSpec)

/-- ITS FALSE NEIGHBOUR: 'it returns false'. Refute it at one input. -/
def nodeMeetsWrong : ChangeSpec := { name := "nodeMeets", fn := fun _ => fun
  | [d1, d2, d3] => { results := [.lit (.bool false)], args := [d1, d2, d3] }
  | _ => none }
def NodeMeetsWrongFalsely : Prop := nodeMeetsRow.holds Tryz.pinned (OpenSpec.ofChange nodeMeetsWrong)

/-- 'osierlaw19.NodeTrims': WHATEVER THE INPUT: true; the input reads as it did. -/
def nodeTrimsSpec : ChangeSpec := { name := "nodeTrims", fn := fun _ => fun
  | [d1, d2, d3] => { results := [.lit (.bool true)], args := [d1, d2, d3] }
  | _ => none }
def nodeTrimsRow : OpenClaim := { program := "ytahdiiaadjdmcaagreat", sum := "b97e9dc04b299571b1ca0b292eec88a4b8707fb4d2a096af759d331c6f3a6a51", func := "osier/osierlaw19.NodeTrims", spec := "nodeTrims", unfollowed := true, recurses := true, apart := false }
def NodeTrimsSaid : Prop := nodeTrimsRow.holds Tryz.pinned (OpenSpec.ofChange nodeTrimsSpec)

/-- ITS FALSE NEIGHBOUR: 'it returns false'. Refute it at one input. -/
def nodeTrimsWrong : ChangeSpec := { name := "nodeTrims", fn := fun _ => fun
  | [d1, d2, d3] => { results := [.lit (.bool false)], args := [d1, d2, d3] }
  | _ => none }
def NodeTrimsWrongFalsely : Prop := nodeTrimsRow.holds Tryz.pinned (OpenSpec.ofChange nodeTrimsWrong)

/-- 'osierlaw19.NodeMemory': WHATEVER THE INPUT: true; the input reads as it did. -/
def nodeMemorySpec : ChangeSpec := { name := "nodeMemory", fn := fun _ => fun
  | [d1, d2] => { results := [.lit (.bool true)], args := [d1, d2] }
  | _ => none }
def nodeMemoryRow : OpenClaim := { program := "ytahdiiaadjdmcaagreat", sum := "b97e9dc04b299571b1ca0b292eec88a4b8707fb4d2a096af759d331c6f3a6a51", func := "osier/osierlaw19.NodeMemory", spec := "nodeMemory", unfollowed := true, recurses := true, apart := false }
def NodeMemorySaid : Prop := nodeMemoryRow.holds Tryz.pinned (OpenSpec.ofChange nodeMemorySpec)

/-- ITS FALSE NEIGHBOUR: 'it returns false'. Refute it at one input. -/
def nodeMemoryWrong : ChangeSpec := { name := "nodeMemory", fn := fun _ => fun
  | [d1, d2] => { results := [.lit (.bool false)], args := [d1, d2] }
  | _ => none }
def NodeMemoryWrongFalsely : Prop := nodeMemoryRow.holds Tryz.pinned (OpenSpec.ofChange nodeMemoryWrong)

/-- 'osierlaw19.NodeTurns': WHATEVER THE INPUT: true; the input reads as it did. -/
def nodeTurnsSpec : ChangeSpec := { name := "nodeTurns", fn := fun _ => fun
  | [d1, d2, d3] => { results := [.lit (.bool true)], args := [d1, d2, d3] }
  | _ => none }
def nodeTurnsRow : OpenClaim := { program := "ytahdiiaadjdmcaagreat", sum := "b97e9dc04b299571b1ca0b292eec88a4b8707fb4d2a096af759d331c6f3a6a51", func := "osier/osierlaw19.NodeTurns", spec := "nodeTurns", inPlace := ["maps.clone"], unfollowed := true, recurses := true, apart := false }
def NodeTurnsSaid : Prop := nodeTurnsRow.holds Tryz.pinned (OpenSpec.ofChange nodeTurnsSpec)

/-- ITS FALSE NEIGHBOUR: 'it returns false'. Refute it at one input. -/
def nodeTurnsWrong : ChangeSpec := { name := "nodeTurns", fn := fun _ => fun
  | [d1, d2, d3] => { results := [.lit (.bool false)], args := [d1, d2, d3] }
  | _ => none }
def NodeTurnsWrongFalsely : Prop := nodeTurnsRow.holds Tryz.pinned (OpenSpec.ofChange nodeTurnsWrong)

/-- 'osierlaw19.NodePlays': WHATEVER THE INPUT: true; the input reads as it did. -/
def nodePlaysSpec : ChangeSpec := { name := "nodePlays", fn := fun _ => fun
  | [d1, d2] => { results := [.lit (.bool true)], args := [d1, d2] }
  | _ => none }
def nodePlaysRow : OpenClaim := { program := "ytahdiiaadjdmcaagreat", sum := "b97e9dc04b299571b1ca0b292eec88a4b8707fb4d2a096af759d331c6f3a6a51", func := "osier/osierlaw19.NodePlays", spec := "nodePlays", inPlace := ["maps.clone"], unfollowed := true, recurses := true, apart := false }
def NodePlaysSaid : Prop := nodePlaysRow.holds Tryz.pinned (OpenSpec.ofChange nodePlaysSpec)

/-- ITS FALSE NEIGHBOUR: 'it returns false'. Refute it at one input. -/
def nodePlaysWrong : ChangeSpec := { name := "nodePlays", fn := fun _ => fun
  | [d1, d2] => { results := [.lit (.bool false)], args := [d1, d2] }
  | _ => none }
def NodePlaysWrongFalsely : Prop := nodePlaysRow.holds Tryz.pinned (OpenSpec.ofChange nodePlaysWrong)

/- THE SECOND FORM. 'bulk': how many values and letters a reading holds, each counted each time it is reached (what is shared counts as often as it is met; a slice's spare places count too). A statement '..UptoSaid' is the law's where the arguments, and the package variables that the reading takes, are together of bulk at most 1048576: NARROWER than '..Said'. Prove '..Said' where nothing that the law and all that it calls make is longer than what came in: it says more and counts as full. Else prove '..UptoSaid'. A law counts once. -/
mutual
def uptoBulk {H : Type} : DataW H → Nat
  | .lit (.string bytes) => bytes.length + 1
  | .lit _ => 1
  | .nil => 1
  | .ptr d => uptoBulk d + 1
  | .slice elems spare => uptoBulkAll elems + uptoBulkAll spare + 1
  | .agg parts => uptoBulkAll parts + 1
  | .iface _ d => uptoBulk d + 1
  | .map entries => uptoBulkEntries entries + 1
  | .held _ => 1
def uptoBulkAll {H : Type} : List (DataW H) → Nat
  | [] => 0
  | d :: r => uptoBulk d + uptoBulkAll r
def uptoBulkEntries {H : Type} : List (Lit × DataW H) → Nat
  | [] => 0
  | x :: r => uptoBulkEntry x + uptoBulkEntries r
def uptoBulkEntry {H : Type} : Lit × DataW H → Nat
  | (.string bytes, d) => bytes.length + uptoBulk d + 1
  | (_, d) => uptoBulk d + 1
 end
def uptoSmall : (H : Type) → List (DataW H) → Bool := fun _ ds => decide (uptoBulkAll ds ≤ 1048576)
def OpenSpec.upto (s : _root_.Go.ChangeSpec) : _root_.Go.OpenSpec := { _root_.Go.OpenSpec.ofChange s with cond := some uptoSmall }

/-- 'osierlaw19.NodeBack', WHERE WHAT IT READS IS OF BULK AT MOST 1048576: true; the input reads as it did. -/
def nodeBackUptoRow : OpenClaim := { program := "ytahdiiaadjdmcaagreat", sum := "b97e9dc04b299571b1ca0b292eec88a4b8707fb4d2a096af759d331c6f3a6a51", func := "osier/osierlaw19.NodeBack", spec := "nodeBack", unfollowed := true, recurses := true, apart := false, narrowed := true }
def NodeBackUptoSaid : Prop := nodeBackUptoRow.holds Tryz.pinned (OpenSpec.upto nodeBackSpec)

/-- 'osierlaw19.NodeMeets', WHERE WHAT IT READS IS OF BULK AT MOST 1048576: true; the input reads as it did. -/
def nodeMeetsUptoRow : OpenClaim := { program := "ytahdiiaadjdmcaagreat", sum := "b97e9dc04b299571b1ca0b292eec88a4b8707fb4d2a096af759d331c6f3a6a51", func := "osier/osierlaw19.NodeMeets", spec := "nodeMeets", unfollowed := true, recurses := true, apart := false, narrowed := true }
def NodeMeetsUptoSaid : Prop := nodeMeetsUptoRow.holds Tryz.pinned (OpenSpec.upto nodeMeetsSpec)

/-- 'osierlaw19.NodeTrims', WHERE WHAT IT READS IS OF BULK AT MOST 1048576: true; the input reads as it did. -/
def nodeTrimsUptoRow : OpenClaim := { program := "ytahdiiaadjdmcaagreat", sum := "b97e9dc04b299571b1ca0b292eec88a4b8707fb4d2a096af759d331c6f3a6a51", func := "osier/osierlaw19.NodeTrims", spec := "nodeTrims", unfollowed := true, recurses := true, apart := false, narrowed := true }
def NodeTrimsUptoSaid : Prop := nodeTrimsUptoRow.holds Tryz.pinned (OpenSpec.upto nodeTrimsSpec)

/-- 'osierlaw19.NodeMemory', WHERE WHAT IT READS IS OF BULK AT MOST 1048576: true; the input reads as it did. -/
def nodeMemoryUptoRow : OpenClaim := { program := "ytahdiiaadjdmcaagreat", sum := "b97e9dc04b299571b1ca0b292eec88a4b8707fb4d2a096af759d331c6f3a6a51", func := "osier/osierlaw19.NodeMemory", spec := "nodeMemory", unfollowed := true, recurses := true, apart := false, narrowed := true }
def NodeMemoryUptoSaid : Prop := nodeMemoryUptoRow.holds Tryz.pinned (OpenSpec.upto nodeMemorySpec)

/-- 'osierlaw19.NodeTurns', WHERE WHAT IT READS IS OF BULK AT MOST 1048576: true; the input reads as it did. -/
def nodeTurnsUptoRow : OpenClaim := { program := "ytahdiiaadjdmcaagreat", sum := "b97e9dc04b299571b1ca0b292eec88a4b8707fb4d2a096af759d331c6f3a6a51", func := "osier/osierlaw19.NodeTurns", spec := "nodeTurns", inPlace := ["maps.clone"], unfollowed := true, recurses := true, apart := false, narrowed := true }
def NodeTurnsUptoSaid : Prop := nodeTurnsUptoRow.holds Tryz.pinned (OpenSpec.upto nodeTurnsSpec)

/-- 'osierlaw19.NodePlays', WHERE WHAT IT READS IS OF BULK AT MOST 1048576: true; the input reads as it did. -/
def nodePlaysUptoRow : OpenClaim := { program := "ytahdiiaadjdmcaagreat", sum := "b97e9dc04b299571b1ca0b292eec88a4b8707fb4d2a096af759d331c6f3a6a51", func := "osier/osierlaw19.NodePlays", spec := "nodePlays", inPlace := ["maps.clone"], unfollowed := true, recurses := true, apart := false, narrowed := true }
def NodePlaysUptoSaid : Prop := nodePlaysUptoRow.holds Tryz.pinned (OpenSpec.upto nodePlaysSpec)

end Rows
end Go.Proofs.YtahdiiaadjdmcaaGreat
