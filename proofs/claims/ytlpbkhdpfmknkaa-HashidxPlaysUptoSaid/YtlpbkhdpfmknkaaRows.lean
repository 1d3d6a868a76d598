/-
  No cell of these rows narrows 'for every input' (looked for: loops, veiled, ifaces, maps, wideKeys, modest, calm, conditions, laid).
  DERIVED. THE GIVEN ROWS OF THIS SEAT. 4 by the template 'for every input the law returns true; each argument reads behind the call as it read before'; 0 by the template 'total and deterministic' (their statements: YtlpbkhdpfmknkaaTotals.lean).
  GIVEN WITH THE SEED: the statements are not yours to turn. If you find one false, say at which input.
  Laid BY PROGRAM, IN A SANDBOX (cutbox-rows.mjs): the forced cells as the released guide's own fill.sh prints them over the translation faa9e39638ad0aee… (all of the seat's roots in one cut). By AI agents, Wed Nov 11 2026. No macro, syntax, notation, axiom, sorry.
-/
import Derived.Test.YtlpbkhdpfmknkaaChecked
import GoSem.Claim
import GoSem.ClaimJoined
import GoSem.ClaimMapViews
import Derived.JoinedTies
import Derived.KernelRfl
namespace Go.Proofs.Ytlpbkhdpfmknkaa
/- THE CELL 'sum', in the pinned program and in every row, IS THE sha256 OF THE DUMP (.gsa) THAT YtlpbkhdpfmknkaaProg.lean LOADS. Nothing in Lean hashes anything: it is a label: what it is worth is what the hold of that sum in a sandbox is worth. -/
noncomputable def Try.pinned : Pinned := { name := "ytlpbkhdpfmknkaa", sum := "faa9e39638ad0aeea33738c536bafffc2097197cf33dc5b33271f2bd65b44d35", checked := Try.checked }
namespace Rows
def none {H : Type} : Left H := { results := [], args := [] }

/-- 'osierlaw05.HashidxFull': WHATEVER THE INPUT: true; the input reads as it did. -/
def hashidxFullSpec : ChangeSpec := { name := "hashidxFull", fn := fun _ => fun
  | [d1, d2] => { results := [.lit (.bool true)], args := [d1, d2] }
  | _ => none }
def hashidxFullRow : OpenClaim := { program := "ytlpbkhdpfmknkaa", sum := "faa9e39638ad0aeea33738c536bafffc2097197cf33dc5b33271f2bd65b44d35", func := "osier/osierlaw05.HashidxFull", spec := "hashidxFull", apart := false }
def HashidxFullSaid : Prop := hashidxFullRow.holds Try.pinned (OpenSpec.ofChange hashidxFullSpec)

/-- ITS FALSE NEIGHBOUR: 'it returns false'. Refute it at one input. -/
def hashidxFullWrong : ChangeSpec := { name := "hashidxFull", fn := fun _ => fun
  | [d1, d2] => { results := [.lit (.bool false)], args := [d1, d2] }
  | _ => none }
def HashidxFullWrongFalsely : Prop := hashidxFullRow.holds Try.pinned (OpenSpec.ofChange hashidxFullWrong)

/-- 'osierlaw05.HashidxNews': WHATEVER THE INPUT: true; the input reads as it did. -/
def hashidxNewsSpec : ChangeSpec := { name := "hashidxNews", fn := fun _ => fun
  | [d] => { results := [.lit (.bool true)], args := [d] }
  | _ => none }
def hashidxNewsRow : OpenClaim := { program := "ytlpbkhdpfmknkaa", sum := "faa9e39638ad0aeea33738c536bafffc2097197cf33dc5b33271f2bd65b44d35", func := "osier/osierlaw05.HashidxNews", spec := "hashidxNews", inPlace := ["internal/bytealg.Compare"], unfollowed := true, recurses := true, apart := false }
def HashidxNewsSaid : Prop := hashidxNewsRow.holds Try.pinned (OpenSpec.ofChange hashidxNewsSpec)

/-- ITS FALSE NEIGHBOUR: 'it returns false'. Refute it at one input. -/
def hashidxNewsWrong : ChangeSpec := { name := "hashidxNews", fn := fun _ => fun
  | [d] => { results := [.lit (.bool false)], args := [d] }
  | _ => none }
def HashidxNewsWrongFalsely : Prop := hashidxNewsRow.holds Try.pinned (OpenSpec.ofChange hashidxNewsWrong)

/-- 'osierlaw05.HashidxMemory': WHATEVER THE INPUT: true; the input reads as it did. -/
def hashidxMemorySpec : ChangeSpec := { name := "hashidxMemory", fn := fun _ => fun
  | [d] => { results := [.lit (.bool true)], args := [d] }
  | _ => none }
def hashidxMemoryRow : OpenClaim := { program := "ytlpbkhdpfmknkaa", sum := "faa9e39638ad0aeea33738c536bafffc2097197cf33dc5b33271f2bd65b44d35", func := "osier/osierlaw05.HashidxMemory", spec := "hashidxMemory", inPlace := ["internal/bytealg.Compare"], unfollowed := true, recurses := true, apart := false }
def HashidxMemorySaid : Prop := hashidxMemoryRow.holds Try.pinned (OpenSpec.ofChange hashidxMemorySpec)

/-- ITS FALSE NEIGHBOUR: 'it returns false'. Refute it at one input. -/
def hashidxMemoryWrong : ChangeSpec := { name := "hashidxMemory", fn := fun _ => fun
  | [d] => { results := [.lit (.bool false)], args := [d] }
  | _ => none }
def HashidxMemoryWrongFalsely : Prop := hashidxMemoryRow.holds Try.pinned (OpenSpec.ofChange hashidxMemoryWrong)

/-- 'osierlaw05.HashidxPlays': WHATEVER THE INPUT: true; the input reads as it did. -/
def hashidxPlaysSpec : ChangeSpec := { name := "hashidxPlays", fn := fun _ => fun
  | [d1, d2] => { results := [.lit (.bool true)], args := [d1, d2] }
  | _ => none }
def hashidxPlaysRow : OpenClaim := { program := "ytlpbkhdpfmknkaa", sum := "faa9e39638ad0aeea33738c536bafffc2097197cf33dc5b33271f2bd65b44d35", func := "osier/osierlaw05.HashidxPlays", spec := "hashidxPlays", inPlace := ["internal/bytealg.Compare"], unfollowed := true, recurses := true, apart := false }
def HashidxPlaysSaid : Prop := hashidxPlaysRow.holds Try.pinned (OpenSpec.ofChange hashidxPlaysSpec)

/-- ITS FALSE NEIGHBOUR: 'it returns false'. Refute it at one input. -/
def hashidxPlaysWrong : ChangeSpec := { name := "hashidxPlays", fn := fun _ => fun
  | [d1, d2] => { results := [.lit (.bool false)], args := [d1, d2] }
  | _ => none }
def HashidxPlaysWrongFalsely : Prop := hashidxPlaysRow.holds Try.pinned (OpenSpec.ofChange hashidxPlaysWrong)

/- THE SECOND FORM. 'bulk': how many values and letters a reading holds, each counted each time it is reached (what is shared counts as often as it is met; a slice's spare places count too). A statement '..UptoSaid' is the law's where the arguments, and the package variables that the reading takes, are together of bulk at most 1048576: NARROWER than '..Said'. Prove '..Said' where nothing that the law and all that it calls make is longer than what came in: it says more and counts as full. Else prove '..UptoSaid'. A law counts once. -/
mutual
def uptoBulk {H : Type} : DataW H → Nat
  | .lit (.string bytes) => bytes.length + 1
  | .lit _ => 1
  | .nil => 1
  | .ptr d => uptoBulk d + 1
  | .slice elems spare => uptoBulkAll elems + uptoBulkAll spare + 1
  | .agg parts => uptoBulkAll parts + 1
  | .iface _ d => uptoBulk d + 1
  | .map entries => uptoBulkEntries entries + 1
  | .held _ => 1
def uptoBulkAll {H : Type} : List (DataW H) → Nat
  | [] => 0
  | d :: r => uptoBulk d + uptoBulkAll r
def uptoBulkEntries {H : Type} : List (Lit × DataW H) → Nat
  | [] => 0
  | x :: r => uptoBulkEntry x + uptoBulkEntries r
def uptoBulkEntry {H : Type} : Lit × DataW H → Nat
  | (.string bytes, d) => bytes.length + uptoBulk d + 1
  | (_, d) => uptoBulk d + 1
 end
def uptoSmall : (H : Type) → List (DataW H) → Bool := fun _ ds => decide (uptoBulkAll ds ≤ 1048576)
def OpenSpec.upto (s : _root_.Go.ChangeSpec) : _root_.Go.OpenSpec := { _root_.Go.OpenSpec.ofChange s with cond := some uptoSmall }

/-- 'osierlaw05.HashidxFull', WHERE WHAT IT READS IS OF BULK AT MOST 1048576: true; the input reads as it did. -/
def hashidxFullUptoRow : OpenClaim := { program := "ytlpbkhdpfmknkaa", sum := "faa9e39638ad0aeea33738c536bafffc2097197cf33dc5b33271f2bd65b44d35", func := "osier/osierlaw05.HashidxFull", spec := "hashidxFull", apart := false, narrowed := true }
def HashidxFullUptoSaid : Prop := hashidxFullUptoRow.holds Try.pinned (OpenSpec.upto hashidxFullSpec)

/-- 'osierlaw05.HashidxNews', WHERE WHAT IT READS IS OF BULK AT MOST 1048576: true; the input reads as it did. -/
def hashidxNewsUptoRow : OpenClaim := { program := "ytlpbkhdpfmknkaa", sum := "faa9e39638ad0aeea33738c536bafffc2097197cf33dc5b33271f2bd65b44d35", func := "osier/osierlaw05.HashidxNews", spec := "hashidxNews", inPlace := ["internal/bytealg.Compare"], unfollowed := true, recurses := true, apart := false, narrowed := true }
def HashidxNewsUptoSaid : Prop := hashidxNewsUptoRow.holds Try.pinned (OpenSpec.upto hashidxNewsSpec)

/-- 'osierlaw05.HashidxMemory', WHERE WHAT IT READS IS OF BULK AT MOST 1048576: true; the input reads as it did. -/
def hashidxMemoryUptoRow : OpenClaim := { program := "ytlpbkhdpfmknkaa", sum := "faa9e39638ad0aeea33738c536bafffc2097197cf33dc5b33271f2bd65b44d35", func := "osier/osierlaw05.HashidxMemory", spec := "hashidxMemory", inPlace := ["internal/bytealg.Compare"], unfollowed := true, recurses := true, apart := false, narrowed := true }
def HashidxMemoryUptoSaid : Prop := hashidxMemoryUptoRow.holds Try.pinned (OpenSpec.upto hashidxMemorySpec)

/-- 'osierlaw05.HashidxPlays', WHERE WHAT IT READS IS OF BULK AT MOST 1048576: true; the input reads as it did. -/
def hashidxPlaysUptoRow : OpenClaim := { program := "ytlpbkhdpfmknkaa", sum := "faa9e39638ad0aeea33738c536bafffc2097197cf33dc5b33271f2bd65b44d35", func := "osier/osierlaw05.HashidxPlays", spec := "hashidxPlays", inPlace := ["internal/bytealg.Compare"], unfollowed := true, recurses := true, apart := false, narrowed := true }
def HashidxPlaysUptoSaid : Prop := hashidxPlaysUptoRow.holds Try.pinned (OpenSpec.upto hashidxPlaysSpec)

end Rows
end Go.Proofs.Ytlpbkhdpfmknkaa
