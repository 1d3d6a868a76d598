/-
  No cell of these rows narrows 'for every input' (looked for: loops, veiled, ifaces, maps, wideKeys, modest, calm, conditions, laid).
  DERIVED. THE GIVEN ROWS OF THIS SEAT. 10 by the template 'for every input the law returns true; each argument reads behind the call as it read before'; 0 by the template 'total and deterministic' (their statements: YtpfjkjmimmklcaaTotals.lean).
  GIVEN WITH THE SEED: the statements are not yours to turn. If you find one false, say at which input.
  Laid BY PROGRAM, IN A SANDBOX (cutbox-rows.mjs): the forced cells as the released guide's own fill.sh prints them over the translation 90acfe0a5e740fcb… (all of the seat's roots in one cut). By AI agents, Wed Nov 11 2026. No macro, syntax, notation, axiom, sorry.
-/
import Derived.Test.YtpfjkjmimmklcaaChecked
import GoSem.Claim
import GoSem.ClaimJoined
import GoSem.ClaimMapViews
import Derived.JoinedTies
import Derived.KernelRfl
namespace Go.Proofs.Ytpfjkjmimmklcaa
/- THE CELL 'sum', in the pinned program and in every row, IS THE sha256 OF THE DUMP (.gsa) THAT YtpfjkjmimmklcaaProg.lean LOADS. Nothing in Lean hashes anything: it is a label: what it is worth is what the hold of that sum in a sandbox is worth. -/
noncomputable def Try.pinned : Pinned := { name := "ytpfjkjmimmklcaa", sum := "90acfe0a5e740fcb70b9b9d21863c6812ea41de8c6777348691d294f280d2271", checked := Try.checked }
namespace Rows
def none {H : Type} : Left H := { results := [], args := [] }

/-- 'osierlaw12.NaiveMore': WHATEVER THE INPUT: true; the input reads as it did. -/
def naiveMoreSpec : ChangeSpec := { name := "naiveMore", fn := fun _ => fun
  | [d1, d2, d3] => { results := [.lit (.bool true)], args := [d1, d2, d3] }
  | _ => none }
def naiveMoreRow : OpenClaim := { program := "ytpfjkjmimmklcaa", sum := "90acfe0a5e740fcb70b9b9d21863c6812ea41de8c6777348691d294f280d2271", func := "osier/osierlaw12.NaiveMore", spec := "naiveMore", inPlace := ["internal/bytealg.abigen_runtime_cmpstring"], unfollowed := true, recurses := true, apart := false }
def NaiveMoreSaid : Prop := naiveMoreRow.holds Try.pinned (OpenSpec.ofChange naiveMoreSpec)

/-- ITS FALSE NEIGHBOUR: 'it returns false'. Refute it at one input. -/
def naiveMoreWrong : ChangeSpec := { name := "naiveMore", fn := fun _ => fun
  | [d1, d2, d3] => { results := [.lit (.bool false)], args := [d1, d2, d3] }
  | _ => none }
def NaiveMoreWrongFalsely : Prop := naiveMoreRow.holds Try.pinned (OpenSpec.ofChange naiveMoreWrong)

/-- 'osierlaw12.NaiveTurned': WHATEVER THE INPUT: true; the input reads as it did. -/
def naiveTurnedSpec : ChangeSpec := { name := "naiveTurned", fn := fun _ => fun
  | [d1, d2, d3] => { results := [.lit (.bool true)], args := [d1, d2, d3] }
  | _ => none }
def naiveTurnedRow : OpenClaim := { program := "ytpfjkjmimmklcaa", sum := "90acfe0a5e740fcb70b9b9d21863c6812ea41de8c6777348691d294f280d2271", func := "osier/osierlaw12.NaiveTurned", spec := "naiveTurned", inPlace := ["internal/bytealg.abigen_runtime_cmpstring"], unfollowed := true, recurses := true, apart := false }
def NaiveTurnedSaid : Prop := naiveTurnedRow.holds Try.pinned (OpenSpec.ofChange naiveTurnedSpec)

/-- ITS FALSE NEIGHBOUR: 'it returns false'. Refute it at one input. -/
def naiveTurnedWrong : ChangeSpec := { name := "naiveTurned", fn := fun _ => fun
  | [d1, d2, d3] => { results := [.lit (.bool false)], args := [d1, d2, d3] }
  | _ => none }
def NaiveTurnedWrongFalsely : Prop := naiveTurnedRow.holds Try.pinned (OpenSpec.ofChange naiveTurnedWrong)

/-- 'osierlaw12.NaiveOne': WHATEVER THE INPUT: true; the input reads as it did. -/
def naiveOneSpec : ChangeSpec := { name := "naiveOne", fn := fun _ => fun
  | [d1, d2] => { results := [.lit (.bool true)], args := [d1, d2] }
  | _ => none }
def naiveOneRow : OpenClaim := { program := "ytpfjkjmimmklcaa", sum := "90acfe0a5e740fcb70b9b9d21863c6812ea41de8c6777348691d294f280d2271", func := "osier/osierlaw12.NaiveOne", spec := "naiveOne", inPlace := ["internal/bytealg.abigen_runtime_cmpstring"], unfollowed := true, recurses := true, apart := false }
def NaiveOneSaid : Prop := naiveOneRow.holds Try.pinned (OpenSpec.ofChange naiveOneSpec)

/-- ITS FALSE NEIGHBOUR: 'it returns false'. Refute it at one input. -/
def naiveOneWrong : ChangeSpec := { name := "naiveOne", fn := fun _ => fun
  | [d1, d2] => { results := [.lit (.bool false)], args := [d1, d2] }
  | _ => none }
def NaiveOneWrongFalsely : Prop := naiveOneRow.holds Try.pinned (OpenSpec.ofChange naiveOneWrong)

/-- 'osierlaw12.NaiveApart': WHATEVER THE INPUT: true; the input reads as it did. -/
def naiveApartSpec : ChangeSpec := { name := "naiveApart", fn := fun _ => fun
  | [d1, d2, d3] => { results := [.lit (.bool true)], args := [d1, d2, d3] }
  | _ => none }
def naiveApartRow : OpenClaim := { program := "ytpfjkjmimmklcaa", sum := "90acfe0a5e740fcb70b9b9d21863c6812ea41de8c6777348691d294f280d2271", func := "osier/osierlaw12.NaiveApart", spec := "naiveApart", inPlace := ["internal/bytealg.abigen_runtime_cmpstring"], unfollowed := true, recurses := true, apart := false }
def NaiveApartSaid : Prop := naiveApartRow.holds Try.pinned (OpenSpec.ofChange naiveApartSpec)

/-- ITS FALSE NEIGHBOUR: 'it returns false'. Refute it at one input. -/
def naiveApartWrong : ChangeSpec := { name := "naiveApart", fn := fun _ => fun
  | [d1, d2, d3] => { results := [.lit (.bool false)], args := [d1, d2, d3] }
  | _ => none }
def NaiveApartWrongFalsely : Prop := naiveApartRow.holds Try.pinned (OpenSpec.ofChange naiveApartWrong)

/-- 'osierlaw12.NaiveCounts': WHATEVER THE INPUT: true; the input reads as it did. -/
def naiveCountsSpec : ChangeSpec := { name := "naiveCounts", fn := fun _ => fun
  | [d1, d2] => { results := [.lit (.bool true)], args := [d1, d2] }
  | _ => none }
def naiveCountsRow : OpenClaim := { program := "ytpfjkjmimmklcaa", sum := "90acfe0a5e740fcb70b9b9d21863c6812ea41de8c6777348691d294f280d2271", func := "osier/osierlaw12.NaiveCounts", spec := "naiveCounts", inPlace := ["internal/bytealg.abigen_runtime_cmpstring"], unfollowed := true, recurses := true, apart := false }
def NaiveCountsSaid : Prop := naiveCountsRow.holds Try.pinned (OpenSpec.ofChange naiveCountsSpec)

/-- ITS FALSE NEIGHBOUR: 'it returns false'. Refute it at one input. -/
def naiveCountsWrong : ChangeSpec := { name := "naiveCounts", fn := fun _ => fun
  | [d1, d2] => { results := [.lit (.bool false)], args := [d1, d2] }
  | _ => none }
def NaiveCountsWrongFalsely : Prop := naiveCountsRow.holds Try.pinned (OpenSpec.ofChange naiveCountsWrong)

/-- 'osierlaw12.NaiveWitnesses': WHATEVER THE INPUT: true; the input reads as it did. -/
def naiveWitnessesSpec : ChangeSpec := { name := "naiveWitnesses", fn := fun _ => fun
  | [d1, d2, d3] => { results := [.lit (.bool true)], args := [d1, d2, d3] }
  | _ => none }
def naiveWitnessesRow : OpenClaim := { program := "ytpfjkjmimmklcaa", sum := "90acfe0a5e740fcb70b9b9d21863c6812ea41de8c6777348691d294f280d2271", func := "osier/osierlaw12.NaiveWitnesses", spec := "naiveWitnesses", inPlace := ["internal/bytealg.abigen_runtime_cmpstring"], unfollowed := true, recurses := true, apart := false }
def NaiveWitnessesSaid : Prop := naiveWitnessesRow.holds Try.pinned (OpenSpec.ofChange naiveWitnessesSpec)

/-- ITS FALSE NEIGHBOUR: 'it returns false'. Refute it at one input. -/
def naiveWitnessesWrong : ChangeSpec := { name := "naiveWitnesses", fn := fun _ => fun
  | [d1, d2, d3] => { results := [.lit (.bool false)], args := [d1, d2, d3] }
  | _ => none }
def NaiveWitnessesWrongFalsely : Prop := naiveWitnessesRow.holds Try.pinned (OpenSpec.ofChange naiveWitnessesWrong)

/-- 'osierlaw12.NaiveShown': WHATEVER THE INPUT: true; the input reads as it did. -/
def naiveShownSpec : ChangeSpec := { name := "naiveShown", fn := fun _ => fun
  | [d1, d2] => { results := [.lit (.bool true)], args := [d1, d2] }
  | _ => none }
def naiveShownRow : OpenClaim := { program := "ytpfjkjmimmklcaa", sum := "90acfe0a5e740fcb70b9b9d21863c6812ea41de8c6777348691d294f280d2271", func := "osier/osierlaw12.NaiveShown", spec := "naiveShown", inPlace := ["internal/bytealg.abigen_runtime_cmpstring"], unfollowed := true, recurses := true, apart := false }
def NaiveShownSaid : Prop := naiveShownRow.holds Try.pinned (OpenSpec.ofChange naiveShownSpec)

/-- ITS FALSE NEIGHBOUR: 'it returns false'. Refute it at one input. -/
def naiveShownWrong : ChangeSpec := { name := "naiveShown", fn := fun _ => fun
  | [d1, d2] => { results := [.lit (.bool false)], args := [d1, d2] }
  | _ => none }
def NaiveShownWrongFalsely : Prop := naiveShownRow.holds Try.pinned (OpenSpec.ofChange naiveShownWrong)

/-- 'osierlaw13.ContainSound': WHATEVER THE INPUT: true; the input reads as it did. -/
def containSoundSpec : ChangeSpec := { name := "containSound", fn := fun _ => fun
  | [d1, d2, d3] => { results := [.lit (.bool true)], args := [d1, d2, d3] }
  | _ => none }
def containSoundRow : OpenClaim := { program := "ytpfjkjmimmklcaa", sum := "90acfe0a5e740fcb70b9b9d21863c6812ea41de8c6777348691d294f280d2271", func := "osier/osierlaw13.ContainSound", spec := "containSound", inPlace := ["internal/bytealg.abigen_runtime_cmpstring"], unfollowed := true, recurses := true, apart := false }
def ContainSoundSaid : Prop := containSoundRow.holds Try.pinned (OpenSpec.ofChange containSoundSpec)

/-- ITS FALSE NEIGHBOUR: 'it returns false'. Refute it at one input. -/
def containSoundWrong : ChangeSpec := { name := "containSound", fn := fun _ => fun
  | [d1, d2, d3] => { results := [.lit (.bool false)], args := [d1, d2, d3] }
  | _ => none }
def ContainSoundWrongFalsely : Prop := containSoundRow.holds Try.pinned (OpenSpec.ofChange containSoundWrong)

/-- 'osierlaw13.ContainShows': WHATEVER THE INPUT: true; the input reads as it did. -/
def containShowsSpec : ChangeSpec := { name := "containShows", fn := fun _ => fun
  | [d1, d2] => { results := [.lit (.bool true)], args := [d1, d2] }
  | _ => none }
def containShowsRow : OpenClaim := { program := "ytpfjkjmimmklcaa", sum := "90acfe0a5e740fcb70b9b9d21863c6812ea41de8c6777348691d294f280d2271", func := "osier/osierlaw13.ContainShows", spec := "containShows", inPlace := ["internal/bytealg.abigen_runtime_cmpstring"], unfollowed := true, recurses := true, apart := false }
def ContainShowsSaid : Prop := containShowsRow.holds Try.pinned (OpenSpec.ofChange containShowsSpec)

/-- ITS FALSE NEIGHBOUR: 'it returns false'. Refute it at one input. -/
def containShowsWrong : ChangeSpec := { name := "containShows", fn := fun _ => fun
  | [d1, d2] => { results := [.lit (.bool false)], args := [d1, d2] }
  | _ => none }
def ContainShowsWrongFalsely : Prop := containShowsRow.holds Try.pinned (OpenSpec.ofChange containShowsWrong)

/-- 'osierlaw13.ContainSame': WHATEVER THE INPUT: true; the input reads as it did. -/
def containSameSpec : ChangeSpec := { name := "containSame", fn := fun _ => fun
  | [d1, d2] => { results := [.lit (.bool true)], args := [d1, d2] }
  | _ => none }
def containSameRow : OpenClaim := { program := "ytpfjkjmimmklcaa", sum := "90acfe0a5e740fcb70b9b9d21863c6812ea41de8c6777348691d294f280d2271", func := "osier/osierlaw13.ContainSame", spec := "containSame", inPlace := ["internal/bytealg.abigen_runtime_cmpstring"], unfollowed := true, recurses := true, apart := false }
def ContainSameSaid : Prop := containSameRow.holds Try.pinned (OpenSpec.ofChange containSameSpec)

/-- ITS FALSE NEIGHBOUR: 'it returns false'. Refute it at one input. -/
def containSameWrong : ChangeSpec := { name := "containSame", fn := fun _ => fun
  | [d1, d2] => { results := [.lit (.bool false)], args := [d1, d2] }
  | _ => none }
def ContainSameWrongFalsely : Prop := containSameRow.holds Try.pinned (OpenSpec.ofChange containSameWrong)

/- THE SECOND FORM. 'bulk': how many values and letters a reading holds, each counted each time it is reached (what is shared counts as often as it is met; a slice's spare places count too). A statement '..UptoSaid' is the law's where the arguments, and the package variables that the reading takes, are together of bulk at most 1048576: NARROWER than '..Said'. Prove '..Said' where nothing that the law and all that it calls make is longer than what came in: it says more and counts as full. Else prove '..UptoSaid'. A law counts once. -/
mutual
def uptoBulk {H : Type} : DataW H → Nat
  | .lit (.string bytes) => bytes.length + 1
  | .lit _ => 1
  | .nil => 1
  | .ptr d => uptoBulk d + 1
  | .slice elems spare => uptoBulkAll elems + uptoBulkAll spare + 1
  | .agg parts => uptoBulkAll parts + 1
  | .iface _ d => uptoBulk d + 1
  | .map entries => uptoBulkEntries entries + 1
  | .held _ => 1
def uptoBulkAll {H : Type} : List (DataW H) → Nat
  | [] => 0
  | d :: r => uptoBulk d + uptoBulkAll r
def uptoBulkEntries {H : Type} : List (Lit × DataW H) → Nat
  | [] => 0
  | x :: r => uptoBulkEntry x + uptoBulkEntries r
def uptoBulkEntry {H : Type} : Lit × DataW H → Nat
  | (.string bytes, d) => bytes.length + uptoBulk d + 1
  | (_, d) => uptoBulk d + 1
 end
def uptoSmall : (H : Type) → List (DataW H) → Bool := fun _ ds => decide (uptoBulkAll ds ≤ 1048576)
def OpenSpec.upto (s : _root_.Go.ChangeSpec) : _root_.Go.OpenSpec := { _root_.Go.OpenSpec.ofChange s with cond := some uptoSmall }

/-- 'osierlaw12.NaiveMore', WHERE WHAT IT READS IS OF BULK AT MOST 1048576: true; the input reads as it did. -/
def naiveMoreUptoRow : OpenClaim := { program := "ytpfjkjmimmklcaa", sum := "90acfe0a5e740fcb70b9b9d21863c6812ea41de8c6777348691d294f280d2271", func := "osier/osierlaw12.NaiveMore", spec := "naiveMore", inPlace := ["internal/bytealg.abigen_runtime_cmpstring"], unfollowed := true, recurses := true, apart := false, narrowed := true }
def NaiveMoreUptoSaid : Prop := naiveMoreUptoRow.holds Try.pinned (OpenSpec.upto naiveMoreSpec)

/-- 'osierlaw12.NaiveTurned', WHERE WHAT IT READS IS OF BULK AT MOST 1048576: true; the input reads as it did. -/
def naiveTurnedUptoRow : OpenClaim := { program := "ytpfjkjmimmklcaa", sum := "90acfe0a5e740fcb70b9b9d21863c6812ea41de8c6777348691d294f280d2271", func := "osier/osierlaw12.NaiveTurned", spec := "naiveTurned", inPlace := ["internal/bytealg.abigen_runtime_cmpstring"], unfollowed := true, recurses := true, apart := false, narrowed := true }
def NaiveTurnedUptoSaid : Prop := naiveTurnedUptoRow.holds Try.pinned (OpenSpec.upto naiveTurnedSpec)

/-- 'osierlaw12.NaiveOne', WHERE WHAT IT READS IS OF BULK AT MOST 1048576: true; the input reads as it did. -/
def naiveOneUptoRow : OpenClaim := { program := "ytpfjkjmimmklcaa", sum := "90acfe0a5e740fcb70b9b9d21863c6812ea41de8c6777348691d294f280d2271", func := "osier/osierlaw12.NaiveOne", spec := "naiveOne", inPlace := ["internal/bytealg.abigen_runtime_cmpstring"], unfollowed := true, recurses := true, apart := false, narrowed := true }
def NaiveOneUptoSaid : Prop := naiveOneUptoRow.holds Try.pinned (OpenSpec.upto naiveOneSpec)

/-- 'osierlaw12.NaiveApart', WHERE WHAT IT READS IS OF BULK AT MOST 1048576: true; the input reads as it did. -/
def naiveApartUptoRow : OpenClaim := { program := "ytpfjkjmimmklcaa", sum := "90acfe0a5e740fcb70b9b9d21863c6812ea41de8c6777348691d294f280d2271", func := "osier/osierlaw12.NaiveApart", spec := "naiveApart", inPlace := ["internal/bytealg.abigen_runtime_cmpstring"], unfollowed := true, recurses := true, apart := false, narrowed := true }
def NaiveApartUptoSaid : Prop := naiveApartUptoRow.holds Try.pinned (OpenSpec.upto naiveApartSpec)

/-- 'osierlaw12.NaiveCounts', WHERE WHAT IT READS IS OF BULK AT MOST 1048576: true; the input reads as it did. -/
def naiveCountsUptoRow : OpenClaim := { program := "ytpfjkjmimmklcaa", sum := "90acfe0a5e740fcb70b9b9d21863c6812ea41de8c6777348691d294f280d2271", func := "osier/osierlaw12.NaiveCounts", spec := "naiveCounts", inPlace := ["internal/bytealg.abigen_runtime_cmpstring"], unfollowed := true, recurses := true, apart := false, narrowed := true }
def NaiveCountsUptoSaid : Prop := naiveCountsUptoRow.holds Try.pinned (OpenSpec.upto naiveCountsSpec)

/-- 'osierlaw12.NaiveWitnesses', WHERE WHAT IT READS IS OF BULK AT MOST 1048576: true; the input reads as it did. -/
def naiveWitnessesUptoRow : OpenClaim := { program := "ytpfjkjmimmklcaa", sum := "90acfe0a5e740fcb70b9b9d21863c6812ea41de8c6777348691d294f280d2271", func := "osier/osierlaw12.NaiveWitnesses", spec := "naiveWitnesses", inPlace := ["internal/bytealg.abigen_runtime_cmpstring"], unfollowed := true, recurses := true, apart := false, narrowed := true }
def NaiveWitnessesUptoSaid : Prop := naiveWitnessesUptoRow.holds Try.pinned (OpenSpec.upto naiveWitnessesSpec)

/-- 'osierlaw12.NaiveShown', WHERE WHAT IT READS IS OF BULK AT MOST 1048576: true; the input reads as it did. -/
def naiveShownUptoRow : OpenClaim := { program := "ytpfjkjmimmklcaa", sum := "90acfe0a5e740fcb70b9b9d21863c6812ea41de8c6777348691d294f280d2271", func := "osier/osierlaw12.NaiveShown", spec := "naiveShown", inPlace := ["internal/bytealg.abigen_runtime_cmpstring"], unfollowed := true, recurses := true, apart := false, narrowed := true }
def NaiveShownUptoSaid : Prop := naiveShownUptoRow.holds Try.pinned (OpenSpec.upto naiveShownSpec)

/-- 'osierlaw13.ContainSound', WHERE WHAT IT READS IS OF BULK AT MOST 1048576: true; the input reads as it did. -/
def containSoundUptoRow : OpenClaim := { program := "ytpfjkjmimmklcaa", sum := "90acfe0a5e740fcb70b9b9d21863c6812ea41de8c6777348691d294f280d2271", func := "osier/osierlaw13.ContainSound", spec := "containSound", inPlace := ["internal/bytealg.abigen_runtime_cmpstring"], unfollowed := true, recurses := true, apart := false, narrowed := true }
def ContainSoundUptoSaid : Prop := containSoundUptoRow.holds Try.pinned (OpenSpec.upto containSoundSpec)

/-- 'osierlaw13.ContainShows', WHERE WHAT IT READS IS OF BULK AT MOST 1048576: true; the input reads as it did. -/
def containShowsUptoRow : OpenClaim := { program := "ytpfjkjmimmklcaa", sum := "90acfe0a5e740fcb70b9b9d21863c6812ea41de8c6777348691d294f280d2271", func := "osier/osierlaw13.ContainShows", spec := "containShows", inPlace := ["internal/bytealg.abigen_runtime_cmpstring"], unfollowed := true, recurses := true, apart := false, narrowed := true }
def ContainShowsUptoSaid : Prop := containShowsUptoRow.holds Try.pinned (OpenSpec.upto containShowsSpec)

/-- 'osierlaw13.ContainSame', WHERE WHAT IT READS IS OF BULK AT MOST 1048576: true; the input reads as it did. -/
def containSameUptoRow : OpenClaim := { program := "ytpfjkjmimmklcaa", sum := "90acfe0a5e740fcb70b9b9d21863c6812ea41de8c6777348691d294f280d2271", func := "osier/osierlaw13.ContainSame", spec := "containSame", inPlace := ["internal/bytealg.abigen_runtime_cmpstring"], unfollowed := true, recurses := true, apart := false, narrowed := true }
def ContainSameUptoSaid : Prop := containSameUptoRow.holds Try.pinned (OpenSpec.upto containSameSpec)

end Rows
end Go.Proofs.Ytpfjkjmimmklcaa
