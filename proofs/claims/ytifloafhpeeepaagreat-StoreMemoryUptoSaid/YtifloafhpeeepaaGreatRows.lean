/-
  No cell of these rows narrows 'for every input' (looked for: loops, veiled, ifaces, maps, wideKeys, modest, calm, conditions, laid).
  DERIVED. THE GIVEN ROWS OF THIS SEAT. 5 by the template 'for every input the law returns true; each argument reads behind the call as it read before'; 0 by the template 'total and deterministic' (their statements: YtifloafhpeeepaaGreatTotals.lean).
  GIVEN WITH THE SEED: the statements are not yours to turn. If you find one false, say at which input.
  Laid BY PROGRAM, IN A SANDBOX (cutbox-rows.mjs): the forced cells as the released guide's own fill.sh prints them over the translation b0e497cb3445fd90… (all of the seat's roots in one cut). By AI agents, Wed Nov 11 2026. No macro, syntax, notation, axiom, sorry.
-/
import Derived.Test.YtifloafhpeeepaaGreatChecked
import GoSem.Claim
import GoSem.ClaimJoined
import GoSem.ClaimMapViews
import Derived.JoinedTies
import Derived.KernelRfl
namespace Go.Proofs.YtifloafhpeeepaaGreat
/- THE CELL 'sum', in the pinned program and in every row, IS THE sha256 OF THE DUMP (.gsa) THAT YtifloafhpeeepaaGreatProg.lean LOADS. Nothing in Lean hashes anything: it is a label: what it is worth is what the hold of that sum in a sandbox is worth. -/
noncomputable def Tryz.pinned : Pinned := { name := "ytifloafhpeeepaagreat", sum := "b0e497cb3445fd90c48de87bff8717dffc62bbc54c027e5d1ecfefa0b76b5ada", checked := Tryz.checked }
namespace Rows
def none {H : Type} : Left H := { results := [], args := [] }

/-- 'osierlaw06.StoreMemory': WHATEVER THE INPUT: true; the input reads as it did. -/
def storeMemorySpec : ChangeSpec := { name := "storeMemory", fn := fun _ => fun
  | [d] => { results := [.lit (.bool true)], args := [d] }
  | _ => none }
def storeMemoryRow : OpenClaim := { program := "ytifloafhpeeepaagreat", sum := "b0e497cb3445fd90c48de87bff8717dffc62bbc54c027e5d1ecfefa0b76b5ada", func := "osier/osierlaw06.StoreMemory", spec := "storeMemory", inPlace := ["internal/bytealg.Compare"], unfollowed := true, recurses := true, apart := false }
def StoreMemorySaid : Prop := storeMemoryRow.holds Tryz.pinned (OpenSpec.ofChange storeMemorySpec)

/-- ITS FALSE NEIGHBOUR: 'it returns false'. Refute it at one input. -/
def storeMemoryWrong : ChangeSpec := { name := "storeMemory", fn := fun _ => fun
  | [d] => { results := [.lit (.bool false)], args := [d] }
  | _ => none }
def StoreMemoryWrongFalsely : Prop := storeMemoryRow.holds Tryz.pinned (OpenSpec.ofChange storeMemoryWrong)

/-- 'osierlaw06.StoreParts': WHATEVER THE INPUT: true; the input reads as it did. -/
def storePartsSpec : ChangeSpec := { name := "storeParts", fn := fun _ => fun
  | [d1, d2] => { results := [.lit (.bool true)], args := [d1, d2] }
  | _ => none }
def storePartsRow : OpenClaim := { program := "ytifloafhpeeepaagreat", sum := "b0e497cb3445fd90c48de87bff8717dffc62bbc54c027e5d1ecfefa0b76b5ada", func := "osier/osierlaw06.StoreParts", spec := "storeParts", inPlace := ["internal/bytealg.Compare"], unfollowed := true, recurses := true, apart := false }
def StorePartsSaid : Prop := storePartsRow.holds Tryz.pinned (OpenSpec.ofChange storePartsSpec)

/-- ITS FALSE NEIGHBOUR: 'it returns false'. Refute it at one input. -/
def storePartsWrong : ChangeSpec := { name := "storeParts", fn := fun _ => fun
  | [d1, d2] => { results := [.lit (.bool false)], args := [d1, d2] }
  | _ => none }
def StorePartsWrongFalsely : Prop := storePartsRow.holds Tryz.pinned (OpenSpec.ofChange storePartsWrong)

/-- 'osierlaw06.StoreTurns': WHATEVER THE INPUT: true; the input reads as it did. -/
def storeTurnsSpec : ChangeSpec := { name := "storeTurns", fn := fun _ => fun
  | [d1, d2, d3] => { results := [.lit (.bool true)], args := [d1, d2, d3] }
  | _ => none }
def storeTurnsRow : OpenClaim := { program := "ytifloafhpeeepaagreat", sum := "b0e497cb3445fd90c48de87bff8717dffc62bbc54c027e5d1ecfefa0b76b5ada", func := "osier/osierlaw06.StoreTurns", spec := "storeTurns", inPlace := ["internal/bytealg.Compare"], unfollowed := true, recurses := true, apart := false }
def StoreTurnsSaid : Prop := storeTurnsRow.holds Tryz.pinned (OpenSpec.ofChange storeTurnsSpec)

/-- ITS FALSE NEIGHBOUR: 'it returns false'. Refute it at one input. -/
def storeTurnsWrong : ChangeSpec := { name := "storeTurns", fn := fun _ => fun
  | [d1, d2, d3] => { results := [.lit (.bool false)], args := [d1, d2, d3] }
  | _ => none }
def StoreTurnsWrongFalsely : Prop := storeTurnsRow.holds Tryz.pinned (OpenSpec.ofChange storeTurnsWrong)

/-- 'osierlaw06.StorePlays': WHATEVER THE INPUT: true; the input reads as it did. -/
def storePlaysSpec : ChangeSpec := { name := "storePlays", fn := fun _ => fun
  | [d1, d2, d3] => { results := [.lit (.bool true)], args := [d1, d2, d3] }
  | _ => none }
def storePlaysRow : OpenClaim := { program := "ytifloafhpeeepaagreat", sum := "b0e497cb3445fd90c48de87bff8717dffc62bbc54c027e5d1ecfefa0b76b5ada", func := "osier/osierlaw06.StorePlays", spec := "storePlays", inPlace := ["internal/bytealg.Compare"], unfollowed := true, recurses := true, apart := false }
def StorePlaysSaid : Prop := storePlaysRow.holds Tryz.pinned (OpenSpec.ofChange storePlaysSpec)

/-- ITS FALSE NEIGHBOUR: 'it returns false'. Refute it at one input. -/
def storePlaysWrong : ChangeSpec := { name := "storePlays", fn := fun _ => fun
  | [d1, d2, d3] => { results := [.lit (.bool false)], args := [d1, d2, d3] }
  | _ => none }
def StorePlaysWrongFalsely : Prop := storePlaysRow.holds Tryz.pinned (OpenSpec.ofChange storePlaysWrong)

/-- 'osierlaw06.StoreTwo': WHATEVER THE INPUT: true; the input reads as it did. -/
def storeTwoSpec : ChangeSpec := { name := "storeTwo", fn := fun _ => fun
  | [d1, d2, d3] => { results := [.lit (.bool true)], args := [d1, d2, d3] }
  | _ => none }
def storeTwoRow : OpenClaim := { program := "ytifloafhpeeepaagreat", sum := "b0e497cb3445fd90c48de87bff8717dffc62bbc54c027e5d1ecfefa0b76b5ada", func := "osier/osierlaw06.StoreTwo", spec := "storeTwo", inPlace := ["internal/bytealg.Compare"], unfollowed := true, recurses := true, apart := false }
def StoreTwoSaid : Prop := storeTwoRow.holds Tryz.pinned (OpenSpec.ofChange storeTwoSpec)

/-- ITS FALSE NEIGHBOUR: 'it returns false'. Refute it at one input. -/
def storeTwoWrong : ChangeSpec := { name := "storeTwo", fn := fun _ => fun
  | [d1, d2, d3] => { results := [.lit (.bool false)], args := [d1, d2, d3] }
  | _ => none }
def StoreTwoWrongFalsely : Prop := storeTwoRow.holds Tryz.pinned (OpenSpec.ofChange storeTwoWrong)

/- THE SECOND FORM. 'bulk': how many values and letters a reading holds, each counted each time it is reached (what is shared counts as often as it is met; a slice's spare places count too). A statement '..UptoSaid' is the law's where the arguments, and the package variables that the reading takes, are together of bulk at most 1048576: NARROWER than '..Said'. Prove '..Said' where nothing that the law and all that it calls make is longer than what came in: it says more and counts as full. Else prove '..UptoSaid'. A law counts once. -/
mutual
def uptoBulk {H : Type} : DataW H → Nat
  | .lit (.string bytes) => bytes.length + 1
  | .lit _ => 1
  | .nil => 1
  | .ptr d => uptoBulk d + 1
  | .slice elems spare => uptoBulkAll elems + uptoBulkAll spare + 1
  | .agg parts => uptoBulkAll parts + 1
  | .iface _ d => uptoBulk d + 1
  | .map entries => uptoBulkEntries entries + 1
  | .held _ => 1
def uptoBulkAll {H : Type} : List (DataW H) → Nat
  | [] => 0
  | d :: r => uptoBulk d + uptoBulkAll r
def uptoBulkEntries {H : Type} : List (Lit × DataW H) → Nat
  | [] => 0
  | x :: r => uptoBulkEntry x + uptoBulkEntries r
def uptoBulkEntry {H : Type} : Lit × DataW H → Nat
  | (.string bytes, d) => bytes.length + uptoBulk d + 1
  | (_, d) => uptoBulk d + 1
 end
def uptoSmall : (H : Type) → List (DataW H) → Bool := fun _ ds => decide (uptoBulkAll ds ≤ 1048576)
def OpenSpec.upto (s : _root_.Go.ChangeSpec) : _root_.Go.OpenSpec := { _root_.Go.OpenSpec.ofChange s with cond := some uptoSmall }

/-- 'osierlaw06.StoreMemory', WHERE WHAT IT READS IS OF BULK AT MOST 1048576: true; the input reads as it did. -/
def storeMemoryUptoRow : OpenClaim := { program := "ytifloafhpeeepaagreat", sum := "b0e497cb3445fd90c48de87bff8717dffc62bbc54c027e5d1ecfefa0b76b5ada", func := "osier/osierlaw06.StoreMemory", spec := "storeMemory", inPlace := ["internal/bytealg.Compare"], unfollowed := true, recurses := true, apart := false, narrowed := true }
def StoreMemoryUptoSaid : Prop := storeMemoryUptoRow.holds Tryz.pinned (OpenSpec.upto storeMemorySpec)

/-- 'osierlaw06.StoreParts', WHERE WHAT IT READS IS OF BULK AT MOST 1048576: true; the input reads as it did. -/
def storePartsUptoRow : OpenClaim := { program := "ytifloafhpeeepaagreat", sum := "b0e497cb3445fd90c48de87bff8717dffc62bbc54c027e5d1ecfefa0b76b5ada", func := "osier/osierlaw06.StoreParts", spec := "storeParts", inPlace := ["internal/bytealg.Compare"], unfollowed := true, recurses := true, apart := false, narrowed := true }
def StorePartsUptoSaid : Prop := storePartsUptoRow.holds Tryz.pinned (OpenSpec.upto storePartsSpec)

/-- 'osierlaw06.StoreTurns', WHERE WHAT IT READS IS OF BULK AT MOST 1048576: true; the input reads as it did. -/
def storeTurnsUptoRow : OpenClaim := { program := "ytifloafhpeeepaagreat", sum := "b0e497cb3445fd90c48de87bff8717dffc62bbc54c027e5d1ecfefa0b76b5ada", func := "osier/osierlaw06.StoreTurns", spec := "storeTurns", inPlace := ["internal/bytealg.Compare"], unfollowed := true, recurses := true, apart := false, narrowed := true }
def StoreTurnsUptoSaid : Prop := storeTurnsUptoRow.holds Tryz.pinned (OpenSpec.upto storeTurnsSpec)

/-- 'osierlaw06.StorePlays', WHERE WHAT IT READS IS OF BULK AT MOST 1048576: true; the input reads as it did. -/
def storePlaysUptoRow : OpenClaim := { program := "ytifloafhpeeepaagreat", sum := "b0e497cb3445fd90c48de87bff8717dffc62bbc54c027e5d1ecfefa0b76b5ada", func := "osier/osierlaw06.StorePlays", spec := "storePlays", inPlace := ["internal/bytealg.Compare"], unfollowed := true, recurses := true, apart := false, narrowed := true }
def StorePlaysUptoSaid : Prop := storePlaysUptoRow.holds Tryz.pinned (OpenSpec.upto storePlaysSpec)

/-- 'osierlaw06.StoreTwo', WHERE WHAT IT READS IS OF BULK AT MOST 1048576: true; the input reads as it did. -/
def storeTwoUptoRow : OpenClaim := { program := "ytifloafhpeeepaagreat", sum := "b0e497cb3445fd90c48de87bff8717dffc62bbc54c027e5d1ecfefa0b76b5ada", func := "osier/osierlaw06.StoreTwo", spec := "storeTwo", inPlace := ["internal/bytealg.Compare"], unfollowed := true, recurses := true, apart := false, narrowed := true }
def StoreTwoUptoSaid : Prop := storeTwoUptoRow.holds Tryz.pinned (OpenSpec.upto storeTwoSpec)

end Rows
end Go.Proofs.YtifloafhpeeepaaGreat
