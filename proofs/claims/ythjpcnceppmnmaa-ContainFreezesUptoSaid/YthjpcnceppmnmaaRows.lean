/-
  No cell of these rows narrows 'for every input' (looked for: loops, veiled, ifaces, maps, wideKeys, modest, calm, conditions, laid).
  DERIVED. THE GIVEN ROWS OF THIS SEAT. 9 by the template 'for every input the law returns true; each argument reads behind the call as it read before'; 0 by the template 'total and deterministic' (their statements: YthjpcnceppmnmaaTotals.lean).
  GIVEN WITH THE SEED: the statements are not yours to turn. If you find one false, say at which input.
  Laid BY PROGRAM, IN A SANDBOX (cutbox-rows.mjs): the forced cells as the released guide's own fill.sh prints them over the translation c5a24f26b712d4af… (all of the seat's roots in one cut). By AI agents, Wed Nov 11 2026. No macro, syntax, notation, axiom, sorry.
-/
import Derived.Test.YthjpcnceppmnmaaChecked
import GoSem.Claim
import GoSem.ClaimJoined
import GoSem.ClaimMapViews
import Derived.JoinedTies
import Derived.KernelRfl
namespace Go.Proofs.Ythjpcnceppmnmaa
/- THE CELL 'sum', in the pinned program and in every row, IS THE sha256 OF THE DUMP (.gsa) THAT YthjpcnceppmnmaaProg.lean LOADS. Nothing in Lean hashes anything: it is a label: what it is worth is what the hold of that sum in a sandbox is worth. -/
noncomputable def Try.pinned : Pinned := { name := "ythjpcnceppmnmaa", sum := "c5a24f26b712d4af33cb9b8ca55d39b5d0948b4d605dbadba52c094bb6ca90fe", checked := Try.checked }
namespace Rows
def none {H : Type} : Left H := { results := [], args := [] }

/-- 'osierlaw13.ContainFinds': WHATEVER THE INPUT: true; the input reads as it did. -/
def containFindsSpec : ChangeSpec := { name := "containFinds", fn := fun _ => fun
  | [d1, d2] => { results := [.lit (.bool true)], args := [d1, d2] }
  | _ => none }
def containFindsRow : OpenClaim := { program := "ythjpcnceppmnmaa", sum := "c5a24f26b712d4af33cb9b8ca55d39b5d0948b4d605dbadba52c094bb6ca90fe", func := "osier/osierlaw13.ContainFinds", spec := "containFinds", unfollowed := true, recurses := true, apart := false }
def ContainFindsSaid : Prop := containFindsRow.holds Try.pinned (OpenSpec.ofChange containFindsSpec)

/-- ITS FALSE NEIGHBOUR: 'it returns false'. Refute it at one input. -/
def containFindsWrong : ChangeSpec := { name := "containFinds", fn := fun _ => fun
  | [d1, d2] => { results := [.lit (.bool false)], args := [d1, d2] }
  | _ => none }
def ContainFindsWrongFalsely : Prop := containFindsRow.holds Try.pinned (OpenSpec.ofChange containFindsWrong)

/-- 'osierlaw13.ContainCompares': WHATEVER THE INPUT: true; the input reads as it did. -/
def containComparesSpec : ChangeSpec := { name := "containCompares", fn := fun _ => fun
  | [d1, d2] => { results := [.lit (.bool true)], args := [d1, d2] }
  | _ => none }
def containComparesRow : OpenClaim := { program := "ythjpcnceppmnmaa", sum := "c5a24f26b712d4af33cb9b8ca55d39b5d0948b4d605dbadba52c094bb6ca90fe", func := "osier/osierlaw13.ContainCompares", spec := "containCompares", unfollowed := true, recurses := true, apart := false }
def ContainComparesSaid : Prop := containComparesRow.holds Try.pinned (OpenSpec.ofChange containComparesSpec)

/-- ITS FALSE NEIGHBOUR: 'it returns false'. Refute it at one input. -/
def containComparesWrong : ChangeSpec := { name := "containCompares", fn := fun _ => fun
  | [d1, d2] => { results := [.lit (.bool false)], args := [d1, d2] }
  | _ => none }
def ContainComparesWrongFalsely : Prop := containComparesRow.holds Try.pinned (OpenSpec.ofChange containComparesWrong)

/-- 'osierlaw13.ContainOrders': WHATEVER THE INPUT: true; the input reads as it did. -/
def containOrdersSpec : ChangeSpec := { name := "containOrders", fn := fun _ => fun
  | [d1, d2, d3] => { results := [.lit (.bool true)], args := [d1, d2, d3] }
  | _ => none }
def containOrdersRow : OpenClaim := { program := "ythjpcnceppmnmaa", sum := "c5a24f26b712d4af33cb9b8ca55d39b5d0948b4d605dbadba52c094bb6ca90fe", func := "osier/osierlaw13.ContainOrders", spec := "containOrders", unfollowed := true, recurses := true, apart := false }
def ContainOrdersSaid : Prop := containOrdersRow.holds Try.pinned (OpenSpec.ofChange containOrdersSpec)

/-- ITS FALSE NEIGHBOUR: 'it returns false'. Refute it at one input. -/
def containOrdersWrong : ChangeSpec := { name := "containOrders", fn := fun _ => fun
  | [d1, d2, d3] => { results := [.lit (.bool false)], args := [d1, d2, d3] }
  | _ => none }
def ContainOrdersWrongFalsely : Prop := containOrdersRow.holds Try.pinned (OpenSpec.ofChange containOrdersWrong)

/-- 'osierlaw13.ContainCores': WHATEVER THE INPUT: true; the input reads as it did. -/
def containCoresSpec : ChangeSpec := { name := "containCores", fn := fun _ => fun
  | [d] => { results := [.lit (.bool true)], args := [d] }
  | _ => none }
def containCoresRow : OpenClaim := { program := "ythjpcnceppmnmaa", sum := "c5a24f26b712d4af33cb9b8ca55d39b5d0948b4d605dbadba52c094bb6ca90fe", func := "osier/osierlaw13.ContainCores", spec := "containCores", unfollowed := true, recurses := true, apart := false }
def ContainCoresSaid : Prop := containCoresRow.holds Try.pinned (OpenSpec.ofChange containCoresSpec)

/-- ITS FALSE NEIGHBOUR: 'it returns false'. Refute it at one input. -/
def containCoresWrong : ChangeSpec := { name := "containCores", fn := fun _ => fun
  | [d] => { results := [.lit (.bool false)], args := [d] }
  | _ => none }
def ContainCoresWrongFalsely : Prop := containCoresRow.holds Try.pinned (OpenSpec.ofChange containCoresWrong)

/-- 'osierlaw13.ContainLeast': WHATEVER THE INPUT: true; the input reads as it did. -/
def containLeastSpec : ChangeSpec := { name := "containLeast", fn := fun _ => fun
  | [d1, d2] => { results := [.lit (.bool true)], args := [d1, d2] }
  | _ => none }
def containLeastRow : OpenClaim := { program := "ythjpcnceppmnmaa", sum := "c5a24f26b712d4af33cb9b8ca55d39b5d0948b4d605dbadba52c094bb6ca90fe", func := "osier/osierlaw13.ContainLeast", spec := "containLeast", unfollowed := true, recurses := true, apart := false }
def ContainLeastSaid : Prop := containLeastRow.holds Try.pinned (OpenSpec.ofChange containLeastSpec)

/-- ITS FALSE NEIGHBOUR: 'it returns false'. Refute it at one input. -/
def containLeastWrong : ChangeSpec := { name := "containLeast", fn := fun _ => fun
  | [d1, d2] => { results := [.lit (.bool false)], args := [d1, d2] }
  | _ => none }
def ContainLeastWrongFalsely : Prop := containLeastRow.holds Try.pinned (OpenSpec.ofChange containLeastWrong)

/-- 'osierlaw13.ContainFreezes': WHATEVER THE INPUT: true; the input reads as it did. -/
def containFreezesSpec : ChangeSpec := { name := "containFreezes", fn := fun _ => fun
  | [d] => { results := [.lit (.bool true)], args := [d] }
  | _ => none }
def containFreezesRow : OpenClaim := { program := "ythjpcnceppmnmaa", sum := "c5a24f26b712d4af33cb9b8ca55d39b5d0948b4d605dbadba52c094bb6ca90fe", func := "osier/osierlaw13.ContainFreezes", spec := "containFreezes", inPlace := ["internal/bytealg.abigen_runtime_cmpstring"], unfollowed := true, recurses := true, apart := false }
def ContainFreezesSaid : Prop := containFreezesRow.holds Try.pinned (OpenSpec.ofChange containFreezesSpec)

/-- ITS FALSE NEIGHBOUR: 'it returns false'. Refute it at one input. -/
def containFreezesWrong : ChangeSpec := { name := "containFreezes", fn := fun _ => fun
  | [d] => { results := [.lit (.bool false)], args := [d] }
  | _ => none }
def ContainFreezesWrongFalsely : Prop := containFreezesRow.holds Try.pinned (OpenSpec.ofChange containFreezesWrong)

/-- 'osierlaw13.ContainSound': WHATEVER THE INPUT: true; the input reads as it did. -/
def containSoundSpec : ChangeSpec := { name := "containSound", fn := fun _ => fun
  | [d1, d2, d3] => { results := [.lit (.bool true)], args := [d1, d2, d3] }
  | _ => none }
def containSoundRow : OpenClaim := { program := "ythjpcnceppmnmaa", sum := "c5a24f26b712d4af33cb9b8ca55d39b5d0948b4d605dbadba52c094bb6ca90fe", func := "osier/osierlaw13.ContainSound", spec := "containSound", inPlace := ["internal/bytealg.abigen_runtime_cmpstring"], unfollowed := true, recurses := true, apart := false }
def ContainSoundSaid : Prop := containSoundRow.holds Try.pinned (OpenSpec.ofChange containSoundSpec)

/-- ITS FALSE NEIGHBOUR: 'it returns false'. Refute it at one input. -/
def containSoundWrong : ChangeSpec := { name := "containSound", fn := fun _ => fun
  | [d1, d2, d3] => { results := [.lit (.bool false)], args := [d1, d2, d3] }
  | _ => none }
def ContainSoundWrongFalsely : Prop := containSoundRow.holds Try.pinned (OpenSpec.ofChange containSoundWrong)

/-- 'osierlaw13.ContainShows': WHATEVER THE INPUT: true; the input reads as it did. -/
def containShowsSpec : ChangeSpec := { name := "containShows", fn := fun _ => fun
  | [d1, d2] => { results := [.lit (.bool true)], args := [d1, d2] }
  | _ => none }
def containShowsRow : OpenClaim := { program := "ythjpcnceppmnmaa", sum := "c5a24f26b712d4af33cb9b8ca55d39b5d0948b4d605dbadba52c094bb6ca90fe", func := "osier/osierlaw13.ContainShows", spec := "containShows", inPlace := ["internal/bytealg.abigen_runtime_cmpstring"], unfollowed := true, recurses := true, apart := false }
def ContainShowsSaid : Prop := containShowsRow.holds Try.pinned (OpenSpec.ofChange containShowsSpec)

/-- ITS FALSE NEIGHBOUR: 'it returns false'. Refute it at one input. -/
def containShowsWrong : ChangeSpec := { name := "containShows", fn := fun _ => fun
  | [d1, d2] => { results := [.lit (.bool false)], args := [d1, d2] }
  | _ => none }
def ContainShowsWrongFalsely : Prop := containShowsRow.holds Try.pinned (OpenSpec.ofChange containShowsWrong)

/-- 'osierlaw13.ContainSame': WHATEVER THE INPUT: true; the input reads as it did. -/
def containSameSpec : ChangeSpec := { name := "containSame", fn := fun _ => fun
  | [d1, d2] => { results := [.lit (.bool true)], args := [d1, d2] }
  | _ => none }
def containSameRow : OpenClaim := { program := "ythjpcnceppmnmaa", sum := "c5a24f26b712d4af33cb9b8ca55d39b5d0948b4d605dbadba52c094bb6ca90fe", func := "osier/osierlaw13.ContainSame", spec := "containSame", inPlace := ["internal/bytealg.abigen_runtime_cmpstring"], unfollowed := true, recurses := true, apart := false }
def ContainSameSaid : Prop := containSameRow.holds Try.pinned (OpenSpec.ofChange containSameSpec)

/-- ITS FALSE NEIGHBOUR: 'it returns false'. Refute it at one input. -/
def containSameWrong : ChangeSpec := { name := "containSame", fn := fun _ => fun
  | [d1, d2] => { results := [.lit (.bool false)], args := [d1, d2] }
  | _ => none }
def ContainSameWrongFalsely : Prop := containSameRow.holds Try.pinned (OpenSpec.ofChange containSameWrong)

/- THE SECOND FORM. 'bulk': how many values and letters a reading holds, each counted each time it is reached (what is shared counts as often as it is met; a slice's spare places count too). A statement '..UptoSaid' is the law's where the arguments, and the package variables that the reading takes, are together of bulk at most 1048576: NARROWER than '..Said'. Prove '..Said' where nothing that the law and all that it calls make is longer than what came in: it says more and counts as full. Else prove '..UptoSaid'. A law counts once. -/
mutual
def uptoBulk {H : Type} : DataW H → Nat
  | .lit (.string bytes) => bytes.length + 1
  | .lit _ => 1
  | .nil => 1
  | .ptr d => uptoBulk d + 1
  | .slice elems spare => uptoBulkAll elems + uptoBulkAll spare + 1
  | .agg parts => uptoBulkAll parts + 1
  | .iface _ d => uptoBulk d + 1
  | .map entries => uptoBulkEntries entries + 1
  | .held _ => 1
def uptoBulkAll {H : Type} : List (DataW H) → Nat
  | [] => 0
  | d :: r => uptoBulk d + uptoBulkAll r
def uptoBulkEntries {H : Type} : List (Lit × DataW H) → Nat
  | [] => 0
  | x :: r => uptoBulkEntry x + uptoBulkEntries r
def uptoBulkEntry {H : Type} : Lit × DataW H → Nat
  | (.string bytes, d) => bytes.length + uptoBulk d + 1
  | (_, d) => uptoBulk d + 1
 end
def uptoSmall : (H : Type) → List (DataW H) → Bool := fun _ ds => decide (uptoBulkAll ds ≤ 1048576)
def OpenSpec.upto (s : _root_.Go.ChangeSpec) : _root_.Go.OpenSpec := { _root_.Go.OpenSpec.ofChange s with cond := some uptoSmall }

/-- 'osierlaw13.ContainFinds', WHERE WHAT IT READS IS OF BULK AT MOST 1048576: true; the input reads as it did. -/
def containFindsUptoRow : OpenClaim := { program := "ythjpcnceppmnmaa", sum := "c5a24f26b712d4af33cb9b8ca55d39b5d0948b4d605dbadba52c094bb6ca90fe", func := "osier/osierlaw13.ContainFinds", spec := "containFinds", unfollowed := true, recurses := true, apart := false, narrowed := true }
def ContainFindsUptoSaid : Prop := containFindsUptoRow.holds Try.pinned (OpenSpec.upto containFindsSpec)

/-- 'osierlaw13.ContainCompares', WHERE WHAT IT READS IS OF BULK AT MOST 1048576: true; the input reads as it did. -/
def containComparesUptoRow : OpenClaim := { program := "ythjpcnceppmnmaa", sum := "c5a24f26b712d4af33cb9b8ca55d39b5d0948b4d605dbadba52c094bb6ca90fe", func := "osier/osierlaw13.ContainCompares", spec := "containCompares", unfollowed := true, recurses := true, apart := false, narrowed := true }
def ContainComparesUptoSaid : Prop := containComparesUptoRow.holds Try.pinned (OpenSpec.upto containComparesSpec)

/-- 'osierlaw13.ContainOrders', WHERE WHAT IT READS IS OF BULK AT MOST 1048576: true; the input reads as it did. -/
def containOrdersUptoRow : OpenClaim := { program := "ythjpcnceppmnmaa", sum := "c5a24f26b712d4af33cb9b8ca55d39b5d0948b4d605dbadba52c094bb6ca90fe", func := "osier/osierlaw13.ContainOrders", spec := "containOrders", unfollowed := true, recurses := true, apart := false, narrowed := true }
def ContainOrdersUptoSaid : Prop := containOrdersUptoRow.holds Try.pinned (OpenSpec.upto containOrdersSpec)

/-- 'osierlaw13.ContainCores', WHERE WHAT IT READS IS OF BULK AT MOST 1048576: true; the input reads as it did. -/
def containCoresUptoRow : OpenClaim := { program := "ythjpcnceppmnmaa", sum := "c5a24f26b712d4af33cb9b8ca55d39b5d0948b4d605dbadba52c094bb6ca90fe", func := "osier/osierlaw13.ContainCores", spec := "containCores", unfollowed := true, recurses := true, apart := false, narrowed := true }
def ContainCoresUptoSaid : Prop := containCoresUptoRow.holds Try.pinned (OpenSpec.upto containCoresSpec)

/-- 'osierlaw13.ContainLeast', WHERE WHAT IT READS IS OF BULK AT MOST 1048576: true; the input reads as it did. -/
def containLeastUptoRow : OpenClaim := { program := "ythjpcnceppmnmaa", sum := "c5a24f26b712d4af33cb9b8ca55d39b5d0948b4d605dbadba52c094bb6ca90fe", func := "osier/osierlaw13.ContainLeast", spec := "containLeast", unfollowed := true, recurses := true, apart := false, narrowed := true }
def ContainLeastUptoSaid : Prop := containLeastUptoRow.holds Try.pinned (OpenSpec.upto containLeastSpec)

/-- 'osierlaw13.ContainFreezes', WHERE WHAT IT READS IS OF BULK AT MOST 1048576: true; the input reads as it did. -/
def containFreezesUptoRow : OpenClaim := { program := "ythjpcnceppmnmaa", sum := "c5a24f26b712d4af33cb9b8ca55d39b5d0948b4d605dbadba52c094bb6ca90fe", func := "osier/osierlaw13.ContainFreezes", spec := "containFreezes", inPlace := ["internal/bytealg.abigen_runtime_cmpstring"], unfollowed := true, recurses := true, apart := false, narrowed := true }
def ContainFreezesUptoSaid : Prop := containFreezesUptoRow.holds Try.pinned (OpenSpec.upto containFreezesSpec)

/-- 'osierlaw13.ContainSound', WHERE WHAT IT READS IS OF BULK AT MOST 1048576: true; the input reads as it did. -/
def containSoundUptoRow : OpenClaim := { program := "ythjpcnceppmnmaa", sum := "c5a24f26b712d4af33cb9b8ca55d39b5d0948b4d605dbadba52c094bb6ca90fe", func := "osier/osierlaw13.ContainSound", spec := "containSound", inPlace := ["internal/bytealg.abigen_runtime_cmpstring"], unfollowed := true, recurses := true, apart := false, narrowed := true }
def ContainSoundUptoSaid : Prop := containSoundUptoRow.holds Try.pinned (OpenSpec.upto containSoundSpec)

/-- 'osierlaw13.ContainShows', WHERE WHAT IT READS IS OF BULK AT MOST 1048576: true; the input reads as it did. -/
def containShowsUptoRow : OpenClaim := { program := "ythjpcnceppmnmaa", sum := "c5a24f26b712d4af33cb9b8ca55d39b5d0948b4d605dbadba52c094bb6ca90fe", func := "osier/osierlaw13.ContainShows", spec := "containShows", inPlace := ["internal/bytealg.abigen_runtime_cmpstring"], unfollowed := true, recurses := true, apart := false, narrowed := true }
def ContainShowsUptoSaid : Prop := containShowsUptoRow.holds Try.pinned (OpenSpec.upto containShowsSpec)

/-- 'osierlaw13.ContainSame', WHERE WHAT IT READS IS OF BULK AT MOST 1048576: true; the input reads as it did. -/
def containSameUptoRow : OpenClaim := { program := "ythjpcnceppmnmaa", sum := "c5a24f26b712d4af33cb9b8ca55d39b5d0948b4d605dbadba52c094bb6ca90fe", func := "osier/osierlaw13.ContainSame", spec := "containSame", inPlace := ["internal/bytealg.abigen_runtime_cmpstring"], unfollowed := true, recurses := true, apart := false, narrowed := true }
def ContainSameUptoSaid : Prop := containSameUptoRow.holds Try.pinned (OpenSpec.upto containSameSpec)

end Rows
end Go.Proofs.Ythjpcnceppmnmaa
