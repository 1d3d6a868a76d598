/-
  NARROWER THAN 'FOR EVERY INPUT', by the rows' own cells (each row's printed sentence says how): RowValids: laid · RowShows: laid · RowProjects: laid · RowProjectsOn: laid · RowPacks: laid · RowUnpacks: laid · RowCompares: laid · RowBack: laid · RowOneForm: laid · RowKeepsOrder: laid · RowArranges: laid · RowSets: laid · RowMemory: laid.
  DERIVED. THE GIVEN ROWS OF THIS SEAT. 13 by the template 'for every input the law returns true; each argument reads behind the call as it read before'; 0 by the template 'total and deterministic' (their statements: YtoahckibhmoikaaDoorTotals.lean).
  GIVEN WITH THE SEED: the statements are not yours to turn. If you find one false, say at which input.
  Laid BY PROGRAM, IN A SANDBOX (cutbox-rows.mjs): the forced cells as the released guide's own fill.sh prints them over the translation 35ff6ac27dc7b9b4… (all of the seat's roots in one cut). By AI agents, Wed Nov 11 2026. No macro, syntax, notation, axiom, sorry.
-/
import Derived.Test.YtoahckibhmoikaaDoorChecked
import GoSem.Claim
import GoSem.ClaimJoined
import GoSem.ClaimMapViews
import Derived.JoinedTies
import Derived.KernelRfl
namespace Go.Proofs.YtoahckibhmoikaaDoor
/- THE CELL 'sum', in the pinned program and in every row, IS THE sha256 OF THE DUMP (.gsa) THAT YtoahckibhmoikaaDoorProg.lean LOADS. Nothing in Lean hashes anything: it is a label: what it is worth is what the hold of that sum in a sandbox is worth. -/
noncomputable def Tryd.pinned : Pinned := { name := "ytoahckibhmoikaadoor", sum := "35ff6ac27dc7b9b4da987c3cf420e51a4beafffd9796ed2699ea00381f756862", checked := Tryd.checked }
namespace Rows
def none {H : Type} : Left H := { results := [], args := [] }

/- WHAT THE LISTED PACKAGE-LEVEL VARIABLES READ AS WHEN THE CALL BEGINS. Each datum BY PROGRAM (the guide's laid-datum.mjs) off the statement by which the dump's own 'gosem.cut.vars' lays the variable. In a bare row this is a premise. The card (YtoahckibhmoikaaDoorCards.lean) ties it to the program's text. -/
def laid_math_bits_deBruijn32tab {H : Type} : DataW H := .agg [.lit (.int .u8 0), .lit (.int .u8 1), .lit (.int .u8 28), .lit (.int .u8 2), .lit (.int .u8 29), .lit (.int .u8 14), .lit (.int .u8 24), .lit (.int .u8 3), .lit (.int .u8 30), .lit (.int .u8 22), .lit (.int .u8 20), .lit (.int .u8 15), .lit (.int .u8 25), .lit (.int .u8 17), .lit (.int .u8 4), .lit (.int .u8 8), .lit (.int .u8 31), .lit (.int .u8 27), .lit (.int .u8 13), .lit (.int .u8 23), .lit (.int .u8 21), .lit (.int .u8 19), .lit (.int .u8 16), .lit (.int .u8 7), .lit (.int .u8 26), .lit (.int .u8 12), .lit (.int .u8 18), .lit (.int .u8 6), .lit (.int .u8 11), .lit (.int .u8 5), .lit (.int .u8 10), .lit (.int .u8 9)]
def laid_math_bits_deBruijn64tab {H : Type} : DataW H := .agg [.lit (.int .u8 0), .lit (.int .u8 1), .lit (.int .u8 56), .lit (.int .u8 2), .lit (.int .u8 57), .lit (.int .u8 49), .lit (.int .u8 28), .lit (.int .u8 3), .lit (.int .u8 61), .lit (.int .u8 58), .lit (.int .u8 42), .lit (.int .u8 50), .lit (.int .u8 38), .lit (.int .u8 29), .lit (.int .u8 17), .lit (.int .u8 4), .lit (.int .u8 62), .lit (.int .u8 47), .lit (.int .u8 59), .lit (.int .u8 36), .lit (.int .u8 45), .lit (.int .u8 43), .lit (.int .u8 51), .lit (.int .u8 22), .lit (.int .u8 53), .lit (.int .u8 39), .lit (.int .u8 33), .lit (.int .u8 30), .lit (.int .u8 24), .lit (.int .u8 18), .lit (.int .u8 12), .lit (.int .u8 5), .lit (.int .u8 63), .lit (.int .u8 55), .lit (.int .u8 48), .lit (.int .u8 27), .lit (.int .u8 60), .lit (.int .u8 41), .lit (.int .u8 37), .lit (.int .u8 16), .lit (.int .u8 46), .lit (.int .u8 35), .lit (.int .u8 44), .lit (.int .u8 21), .lit (.int .u8 52), .lit (.int .u8 32), .lit (.int .u8 23), .lit (.int .u8 11), .lit (.int .u8 54), .lit (.int .u8 26), .lit (.int .u8 40), .lit (.int .u8 15), .lit (.int .u8 34), .lit (.int .u8 20), .lit (.int .u8 31), .lit (.int .u8 10), .lit (.int .u8 25), .lit (.int .u8 14), .lit (.int .u8 19), .lit (.int .u8 9), .lit (.int .u8 13), .lit (.int .u8 8), .lit (.int .u8 7), .lit (.int .u8 6)]
def laid_internal_strconv_uint64pow10 {H : Type} : DataW H := .agg [.lit (.int .u64 1), .lit (.int .u64 10), .lit (.int .u64 100), .lit (.int .u64 1000), .lit (.int .u64 10000), .lit (.int .u64 100000), .lit (.int .u64 1000000), .lit (.int .u64 10000000), .lit (.int .u64 100000000), .lit (.int .u64 1000000000), .lit (.int .u64 10000000000), .lit (.int .u64 100000000000), .lit (.int .u64 1000000000000), .lit (.int .u64 10000000000000), .lit (.int .u64 100000000000000), .lit (.int .u64 1000000000000000), .lit (.int .u64 10000000000000000), .lit (.int .u64 100000000000000000), .lit (.int .u64 1000000000000000000), .lit (.int .u64 10000000000000000000)]

/-- 'osierlaw02.RowValids': WHATEVER THE INPUT: true; the input reads as it did. -/
def rowValidsSpec : ChangeSpec := { name := "rowValids", fn := fun _ => fun
  | [d] => { results := [.lit (.bool true)], args := [d] }
  | _ => none }
def rowValidsRow : OpenClaim := { program := "ytoahckibhmoikaadoor", sum := "35ff6ac27dc7b9b4da987c3cf420e51a4beafffd9796ed2699ea00381f756862", func := "osier/osierlaw02.RowValids", spec := "rowValids", inPlace := ["internal/abi.NoEscape", "internal/bytealg.MakeNoZero"], unfollowed := true, recurses := true, named := ["internal/strconv.uint64pow10", "math/bits.deBruijn32tab", "math/bits.deBruijn64tab"], apart := false, laid := [("math/bits.deBruijn32tab", laid_math_bits_deBruijn32tab), ("math/bits.deBruijn64tab", laid_math_bits_deBruijn64tab), ("internal/strconv.uint64pow10", laid_internal_strconv_uint64pow10)] }
def RowValidsSaid : Prop := rowValidsRow.holds Tryd.pinned (OpenSpec.ofChange rowValidsSpec)

/-- ITS FALSE NEIGHBOUR: 'it returns false'. Refute it at one input. -/
def rowValidsWrong : ChangeSpec := { name := "rowValids", fn := fun _ => fun
  | [d] => { results := [.lit (.bool false)], args := [d] }
  | _ => none }
def RowValidsWrongFalsely : Prop := rowValidsRow.holds Tryd.pinned (OpenSpec.ofChange rowValidsWrong)

/-- 'osierlaw02.RowShows': WHATEVER THE INPUT: true; the input reads as it did. -/
def rowShowsSpec : ChangeSpec := { name := "rowShows", fn := fun _ => fun
  | [d] => { results := [.lit (.bool true)], args := [d] }
  | _ => none }
def rowShowsRow : OpenClaim := { program := "ytoahckibhmoikaadoor", sum := "35ff6ac27dc7b9b4da987c3cf420e51a4beafffd9796ed2699ea00381f756862", func := "osier/osierlaw02.RowShows", spec := "rowShows", inPlace := ["internal/abi.NoEscape", "internal/bytealg.MakeNoZero"], unfollowed := true, recurses := true, named := ["internal/strconv.uint64pow10", "math/bits.deBruijn32tab", "math/bits.deBruijn64tab"], apart := false, laid := [("math/bits.deBruijn32tab", laid_math_bits_deBruijn32tab), ("math/bits.deBruijn64tab", laid_math_bits_deBruijn64tab), ("internal/strconv.uint64pow10", laid_internal_strconv_uint64pow10)] }
def RowShowsSaid : Prop := rowShowsRow.holds Tryd.pinned (OpenSpec.ofChange rowShowsSpec)

/-- ITS FALSE NEIGHBOUR: 'it returns false'. Refute it at one input. -/
def rowShowsWrong : ChangeSpec := { name := "rowShows", fn := fun _ => fun
  | [d] => { results := [.lit (.bool false)], args := [d] }
  | _ => none }
def RowShowsWrongFalsely : Prop := rowShowsRow.holds Tryd.pinned (OpenSpec.ofChange rowShowsWrong)

/-- 'osierlaw02.RowProjects': WHATEVER THE INPUT: true; the input reads as it did. -/
def rowProjectsSpec : ChangeSpec := { name := "rowProjects", fn := fun _ => fun
  | [d1, d2] => { results := [.lit (.bool true)], args := [d1, d2] }
  | _ => none }
def rowProjectsRow : OpenClaim := { program := "ytoahckibhmoikaadoor", sum := "35ff6ac27dc7b9b4da987c3cf420e51a4beafffd9796ed2699ea00381f756862", func := "osier/osierlaw02.RowProjects", spec := "rowProjects", inPlace := ["internal/abi.NoEscape", "internal/bytealg.MakeNoZero"], unfollowed := true, recurses := true, named := ["internal/strconv.uint64pow10", "math/bits.deBruijn32tab", "math/bits.deBruijn64tab"], apart := false, laid := [("math/bits.deBruijn32tab", laid_math_bits_deBruijn32tab), ("math/bits.deBruijn64tab", laid_math_bits_deBruijn64tab), ("internal/strconv.uint64pow10", laid_internal_strconv_uint64pow10)] }
def RowProjectsSaid : Prop := rowProjectsRow.holds Tryd.pinned (OpenSpec.ofChange rowProjectsSpec)

/-- ITS FALSE NEIGHBOUR: 'it returns false'. Refute it at one input. -/
def rowProjectsWrong : ChangeSpec := { name := "rowProjects", fn := fun _ => fun
  | [d1, d2] => { results := [.lit (.bool false)], args := [d1, d2] }
  | _ => none }
def RowProjectsWrongFalsely : Prop := rowProjectsRow.holds Tryd.pinned (OpenSpec.ofChange rowProjectsWrong)

/-- 'osierlaw02.RowProjectsOn': WHATEVER THE INPUT: true; the input reads as it did. -/
def rowProjectsOnSpec : ChangeSpec := { name := "rowProjectsOn", fn := fun _ => fun
  | [d1, d2, d3] => { results := [.lit (.bool true)], args := [d1, d2, d3] }
  | _ => none }
def rowProjectsOnRow : OpenClaim := { program := "ytoahckibhmoikaadoor", sum := "35ff6ac27dc7b9b4da987c3cf420e51a4beafffd9796ed2699ea00381f756862", func := "osier/osierlaw02.RowProjectsOn", spec := "rowProjectsOn", inPlace := ["internal/abi.NoEscape", "internal/bytealg.MakeNoZero"], unfollowed := true, recurses := true, named := ["internal/strconv.uint64pow10", "math/bits.deBruijn32tab", "math/bits.deBruijn64tab"], apart := false, laid := [("math/bits.deBruijn32tab", laid_math_bits_deBruijn32tab), ("math/bits.deBruijn64tab", laid_math_bits_deBruijn64tab), ("internal/strconv.uint64pow10", laid_internal_strconv_uint64pow10)] }
def RowProjectsOnSaid : Prop := rowProjectsOnRow.holds Tryd.pinned (OpenSpec.ofChange rowProjectsOnSpec)

/-- ITS FALSE NEIGHBOUR: 'it returns false'. Refute it at one input. -/
def rowProjectsOnWrong : ChangeSpec := { name := "rowProjectsOn", fn := fun _ => fun
  | [d1, d2, d3] => { results := [.lit (.bool false)], args := [d1, d2, d3] }
  | _ => none }
def RowProjectsOnWrongFalsely : Prop := rowProjectsOnRow.holds Tryd.pinned (OpenSpec.ofChange rowProjectsOnWrong)

/-- 'osierlaw02.RowPacks': WHATEVER THE INPUT: true; the input reads as it did. -/
def rowPacksSpec : ChangeSpec := { name := "rowPacks", fn := fun _ => fun
  | [d] => { results := [.lit (.bool true)], args := [d] }
  | _ => none }
def rowPacksRow : OpenClaim := { program := "ytoahckibhmoikaadoor", sum := "35ff6ac27dc7b9b4da987c3cf420e51a4beafffd9796ed2699ea00381f756862", func := "osier/osierlaw02.RowPacks", spec := "rowPacks", inPlace := ["internal/abi.NoEscape", "internal/bytealg.MakeNoZero"], unfollowed := true, recurses := true, named := ["internal/strconv.uint64pow10", "math/bits.deBruijn32tab", "math/bits.deBruijn64tab"], apart := false, laid := [("math/bits.deBruijn32tab", laid_math_bits_deBruijn32tab), ("math/bits.deBruijn64tab", laid_math_bits_deBruijn64tab), ("internal/strconv.uint64pow10", laid_internal_strconv_uint64pow10)] }
def RowPacksSaid : Prop := rowPacksRow.holds Tryd.pinned (OpenSpec.ofChange rowPacksSpec)

/-- ITS FALSE NEIGHBOUR: 'it returns false'. Refute it at one input. -/
def rowPacksWrong : ChangeSpec := { name := "rowPacks", fn := fun _ => fun
  | [d] => { results := [.lit (.bool false)], args := [d] }
  | _ => none }
def RowPacksWrongFalsely : Prop := rowPacksRow.holds Tryd.pinned (OpenSpec.ofChange rowPacksWrong)

/-- 'osierlaw02.RowUnpacks': WHATEVER THE INPUT: true; the input reads as it did. -/
def rowUnpacksSpec : ChangeSpec := { name := "rowUnpacks", fn := fun _ => fun
  | [d] => { results := [.lit (.bool true)], args := [d] }
  | _ => none }
def rowUnpacksRow : OpenClaim := { program := "ytoahckibhmoikaadoor", sum := "35ff6ac27dc7b9b4da987c3cf420e51a4beafffd9796ed2699ea00381f756862", func := "osier/osierlaw02.RowUnpacks", spec := "rowUnpacks", inPlace := ["internal/abi.NoEscape", "internal/bytealg.MakeNoZero"], unfollowed := true, recurses := true, named := ["internal/strconv.uint64pow10", "math/bits.deBruijn32tab", "math/bits.deBruijn64tab"], apart := false, laid := [("math/bits.deBruijn32tab", laid_math_bits_deBruijn32tab), ("math/bits.deBruijn64tab", laid_math_bits_deBruijn64tab), ("internal/strconv.uint64pow10", laid_internal_strconv_uint64pow10)] }
def RowUnpacksSaid : Prop := rowUnpacksRow.holds Tryd.pinned (OpenSpec.ofChange rowUnpacksSpec)

/-- ITS FALSE NEIGHBOUR: 'it returns false'. Refute it at one input. -/
def rowUnpacksWrong : ChangeSpec := { name := "rowUnpacks", fn := fun _ => fun
  | [d] => { results := [.lit (.bool false)], args := [d] }
  | _ => none }
def RowUnpacksWrongFalsely : Prop := rowUnpacksRow.holds Tryd.pinned (OpenSpec.ofChange rowUnpacksWrong)

/-- 'osierlaw02.RowCompares': WHATEVER THE INPUT: true; the input reads as it did. -/
def rowComparesSpec : ChangeSpec := { name := "rowCompares", fn := fun _ => fun
  | [d1, d2] => { results := [.lit (.bool true)], args := [d1, d2] }
  | _ => none }
def rowComparesRow : OpenClaim := { program := "ytoahckibhmoikaadoor", sum := "35ff6ac27dc7b9b4da987c3cf420e51a4beafffd9796ed2699ea00381f756862", func := "osier/osierlaw02.RowCompares", spec := "rowCompares", inPlace := ["internal/abi.NoEscape", "internal/bytealg.MakeNoZero", "internal/bytealg.abigen_runtime_cmpstring"], unfollowed := true, recurses := true, named := ["internal/strconv.uint64pow10", "math/bits.deBruijn32tab", "math/bits.deBruijn64tab"], apart := false, laid := [("math/bits.deBruijn32tab", laid_math_bits_deBruijn32tab), ("math/bits.deBruijn64tab", laid_math_bits_deBruijn64tab), ("internal/strconv.uint64pow10", laid_internal_strconv_uint64pow10)] }
def RowComparesSaid : Prop := rowComparesRow.holds Tryd.pinned (OpenSpec.ofChange rowComparesSpec)

/-- ITS FALSE NEIGHBOUR: 'it returns false'. Refute it at one input. -/
def rowComparesWrong : ChangeSpec := { name := "rowCompares", fn := fun _ => fun
  | [d1, d2] => { results := [.lit (.bool false)], args := [d1, d2] }
  | _ => none }
def RowComparesWrongFalsely : Prop := rowComparesRow.holds Tryd.pinned (OpenSpec.ofChange rowComparesWrong)

/-- 'osierlaw02.RowBack': WHATEVER THE INPUT: true; the input reads as it did. -/
def rowBackSpec : ChangeSpec := { name := "rowBack", fn := fun _ => fun
  | [d] => { results := [.lit (.bool true)], args := [d] }
  | _ => none }
def rowBackRow : OpenClaim := { program := "ytoahckibhmoikaadoor", sum := "35ff6ac27dc7b9b4da987c3cf420e51a4beafffd9796ed2699ea00381f756862", func := "osier/osierlaw02.RowBack", spec := "rowBack", inPlace := ["internal/abi.NoEscape", "internal/bytealg.MakeNoZero"], unfollowed := true, recurses := true, named := ["internal/strconv.uint64pow10", "math/bits.deBruijn32tab", "math/bits.deBruijn64tab"], apart := false, laid := [("math/bits.deBruijn32tab", laid_math_bits_deBruijn32tab), ("math/bits.deBruijn64tab", laid_math_bits_deBruijn64tab), ("internal/strconv.uint64pow10", laid_internal_strconv_uint64pow10)] }
def RowBackSaid : Prop := rowBackRow.holds Tryd.pinned (OpenSpec.ofChange rowBackSpec)

/-- ITS FALSE NEIGHBOUR: 'it returns false'. Refute it at one input. -/
def rowBackWrong : ChangeSpec := { name := "rowBack", fn := fun _ => fun
  | [d] => { results := [.lit (.bool false)], args := [d] }
  | _ => none }
def RowBackWrongFalsely : Prop := rowBackRow.holds Tryd.pinned (OpenSpec.ofChange rowBackWrong)

/-- 'osierlaw02.RowOneForm': WHATEVER THE INPUT: true; the input reads as it did. -/
def rowOneFormSpec : ChangeSpec := { name := "rowOneForm", fn := fun _ => fun
  | [d] => { results := [.lit (.bool true)], args := [d] }
  | _ => none }
def rowOneFormRow : OpenClaim := { program := "ytoahckibhmoikaadoor", sum := "35ff6ac27dc7b9b4da987c3cf420e51a4beafffd9796ed2699ea00381f756862", func := "osier/osierlaw02.RowOneForm", spec := "rowOneForm", inPlace := ["internal/abi.NoEscape", "internal/bytealg.MakeNoZero"], unfollowed := true, recurses := true, named := ["internal/strconv.uint64pow10", "math/bits.deBruijn32tab", "math/bits.deBruijn64tab"], apart := false, laid := [("math/bits.deBruijn32tab", laid_math_bits_deBruijn32tab), ("math/bits.deBruijn64tab", laid_math_bits_deBruijn64tab), ("internal/strconv.uint64pow10", laid_internal_strconv_uint64pow10)] }
def RowOneFormSaid : Prop := rowOneFormRow.holds Tryd.pinned (OpenSpec.ofChange rowOneFormSpec)

/-- ITS FALSE NEIGHBOUR: 'it returns false'. Refute it at one input. -/
def rowOneFormWrong : ChangeSpec := { name := "rowOneForm", fn := fun _ => fun
  | [d] => { results := [.lit (.bool false)], args := [d] }
  | _ => none }
def RowOneFormWrongFalsely : Prop := rowOneFormRow.holds Tryd.pinned (OpenSpec.ofChange rowOneFormWrong)

/-- 'osierlaw02.RowKeepsOrder': WHATEVER THE INPUT: true; the input reads as it did. -/
def rowKeepsOrderSpec : ChangeSpec := { name := "rowKeepsOrder", fn := fun _ => fun
  | [d1, d2] => { results := [.lit (.bool true)], args := [d1, d2] }
  | _ => none }
def rowKeepsOrderRow : OpenClaim := { program := "ytoahckibhmoikaadoor", sum := "35ff6ac27dc7b9b4da987c3cf420e51a4beafffd9796ed2699ea00381f756862", func := "osier/osierlaw02.RowKeepsOrder", spec := "rowKeepsOrder", inPlace := ["internal/abi.NoEscape", "internal/bytealg.MakeNoZero", "internal/bytealg.abigen_runtime_cmpstring"], unfollowed := true, recurses := true, named := ["internal/strconv.uint64pow10", "math/bits.deBruijn32tab", "math/bits.deBruijn64tab"], apart := false, laid := [("math/bits.deBruijn32tab", laid_math_bits_deBruijn32tab), ("math/bits.deBruijn64tab", laid_math_bits_deBruijn64tab), ("internal/strconv.uint64pow10", laid_internal_strconv_uint64pow10)] }
def RowKeepsOrderSaid : Prop := rowKeepsOrderRow.holds Tryd.pinned (OpenSpec.ofChange rowKeepsOrderSpec)

/-- ITS FALSE NEIGHBOUR: 'it returns false'. Refute it at one input. -/
def rowKeepsOrderWrong : ChangeSpec := { name := "rowKeepsOrder", fn := fun _ => fun
  | [d1, d2] => { results := [.lit (.bool false)], args := [d1, d2] }
  | _ => none }
def RowKeepsOrderWrongFalsely : Prop := rowKeepsOrderRow.holds Tryd.pinned (OpenSpec.ofChange rowKeepsOrderWrong)

/-- 'osierlaw02.RowArranges': WHATEVER THE INPUT: true; the input reads as it did. -/
def rowArrangesSpec : ChangeSpec := { name := "rowArranges", fn := fun _ => fun
  | [d] => { results := [.lit (.bool true)], args := [d] }
  | _ => none }
def rowArrangesRow : OpenClaim := { program := "ytoahckibhmoikaadoor", sum := "35ff6ac27dc7b9b4da987c3cf420e51a4beafffd9796ed2699ea00381f756862", func := "osier/osierlaw02.RowArranges", spec := "rowArranges", inPlace := ["internal/bytealg.abigen_runtime_cmpstring", "internal/abi.NoEscape", "internal/bytealg.MakeNoZero"], unfollowed := true, recurses := true, named := ["internal/strconv.uint64pow10", "math/bits.deBruijn32tab", "math/bits.deBruijn64tab"], apart := false, laid := [("math/bits.deBruijn32tab", laid_math_bits_deBruijn32tab), ("math/bits.deBruijn64tab", laid_math_bits_deBruijn64tab), ("internal/strconv.uint64pow10", laid_internal_strconv_uint64pow10)] }
def RowArrangesSaid : Prop := rowArrangesRow.holds Tryd.pinned (OpenSpec.ofChange rowArrangesSpec)

/-- ITS FALSE NEIGHBOUR: 'it returns false'. Refute it at one input. -/
def rowArrangesWrong : ChangeSpec := { name := "rowArranges", fn := fun _ => fun
  | [d] => { results := [.lit (.bool false)], args := [d] }
  | _ => none }
def RowArrangesWrongFalsely : Prop := rowArrangesRow.holds Tryd.pinned (OpenSpec.ofChange rowArrangesWrong)

/-- 'osierlaw02.RowSets': WHATEVER THE INPUT: true; the input reads as it did. -/
def rowSetsSpec : ChangeSpec := { name := "rowSets", fn := fun _ => fun
  | [d] => { results := [.lit (.bool true)], args := [d] }
  | _ => none }
def rowSetsRow : OpenClaim := { program := "ytoahckibhmoikaadoor", sum := "35ff6ac27dc7b9b4da987c3cf420e51a4beafffd9796ed2699ea00381f756862", func := "osier/osierlaw02.RowSets", spec := "rowSets", inPlace := ["internal/bytealg.abigen_runtime_cmpstring", "internal/abi.NoEscape", "internal/bytealg.MakeNoZero"], unfollowed := true, recurses := true, named := ["internal/strconv.uint64pow10", "math/bits.deBruijn32tab", "math/bits.deBruijn64tab"], apart := false, laid := [("math/bits.deBruijn32tab", laid_math_bits_deBruijn32tab), ("math/bits.deBruijn64tab", laid_math_bits_deBruijn64tab), ("internal/strconv.uint64pow10", laid_internal_strconv_uint64pow10)] }
def RowSetsSaid : Prop := rowSetsRow.holds Tryd.pinned (OpenSpec.ofChange rowSetsSpec)

/-- ITS FALSE NEIGHBOUR: 'it returns false'. Refute it at one input. -/
def rowSetsWrong : ChangeSpec := { name := "rowSets", fn := fun _ => fun
  | [d] => { results := [.lit (.bool false)], args := [d] }
  | _ => none }
def RowSetsWrongFalsely : Prop := rowSetsRow.holds Tryd.pinned (OpenSpec.ofChange rowSetsWrong)

/-- 'osierlaw02.RowMemory': WHATEVER THE INPUT: true; the input reads as it did. -/
def rowMemorySpec : ChangeSpec := { name := "rowMemory", fn := fun _ => fun
  | [d1, d2, d3] => { results := [.lit (.bool true)], args := [d1, d2, d3] }
  | _ => none }
def rowMemoryRow : OpenClaim := { program := "ytoahckibhmoikaadoor", sum := "35ff6ac27dc7b9b4da987c3cf420e51a4beafffd9796ed2699ea00381f756862", func := "osier/osierlaw02.RowMemory", spec := "rowMemory", inPlace := ["internal/abi.NoEscape", "internal/bytealg.MakeNoZero", "internal/bytealg.abigen_runtime_cmpstring"], unfollowed := true, recurses := true, named := ["internal/strconv.uint64pow10", "math/bits.deBruijn32tab", "math/bits.deBruijn64tab"], apart := false, laid := [("math/bits.deBruijn32tab", laid_math_bits_deBruijn32tab), ("math/bits.deBruijn64tab", laid_math_bits_deBruijn64tab), ("internal/strconv.uint64pow10", laid_internal_strconv_uint64pow10)] }
def RowMemorySaid : Prop := rowMemoryRow.holds Tryd.pinned (OpenSpec.ofChange rowMemorySpec)

/-- ITS FALSE NEIGHBOUR: 'it returns false'. Refute it at one input. -/
def rowMemoryWrong : ChangeSpec := { name := "rowMemory", fn := fun _ => fun
  | [d1, d2, d3] => { results := [.lit (.bool false)], args := [d1, d2, d3] }
  | _ => none }
def RowMemoryWrongFalsely : Prop := rowMemoryRow.holds Tryd.pinned (OpenSpec.ofChange rowMemoryWrong)

/- THE SECOND FORM. 'bulk': how many values and letters a reading holds, each counted each time it is reached (what is shared counts as often as it is met; a slice's spare places count too). A statement '..UptoSaid' is the law's where the arguments, and the package variables that the reading takes, are together of bulk at most 1048576: NARROWER than '..Said'. Prove '..Said' where nothing that the law and all that it calls make is longer than what came in: it says more and counts as full. Else prove '..UptoSaid'. A law counts once. -/
mutual
def uptoBulk {H : Type} : DataW H → Nat
  | .lit (.string bytes) => bytes.length + 1
  | .lit _ => 1
  | .nil => 1
  | .ptr d => uptoBulk d + 1
  | .slice elems spare => uptoBulkAll elems + uptoBulkAll spare + 1
  | .agg parts => uptoBulkAll parts + 1
  | .iface _ d => uptoBulk d + 1
  | .map entries => uptoBulkEntries entries + 1
  | .held _ => 1
def uptoBulkAll {H : Type} : List (DataW H) → Nat
  | [] => 0
  | d :: r => uptoBulk d + uptoBulkAll r
def uptoBulkEntries {H : Type} : List (Lit × DataW H) → Nat
  | [] => 0
  | x :: r => uptoBulkEntry x + uptoBulkEntries r
def uptoBulkEntry {H : Type} : Lit × DataW H → Nat
  | (.string bytes, d) => bytes.length + uptoBulk d + 1
  | (_, d) => uptoBulk d + 1
 end
def uptoSmall : (H : Type) → List (DataW H) → Bool := fun _ ds => decide (uptoBulkAll ds ≤ 1048576)
def OpenSpec.upto (s : _root_.Go.ChangeSpec) : _root_.Go.OpenSpec := { _root_.Go.OpenSpec.ofChange s with cond := some uptoSmall }

/-- 'osierlaw02.RowValids', WHERE WHAT IT READS IS OF BULK AT MOST 1048576: true; the input reads as it did. -/
def rowValidsUptoRow : OpenClaim := { program := "ytoahckibhmoikaadoor", sum := "35ff6ac27dc7b9b4da987c3cf420e51a4beafffd9796ed2699ea00381f756862", func := "osier/osierlaw02.RowValids", spec := "rowValids", inPlace := ["internal/abi.NoEscape", "internal/bytealg.MakeNoZero"], unfollowed := true, recurses := true, named := ["internal/strconv.uint64pow10", "math/bits.deBruijn32tab", "math/bits.deBruijn64tab"], apart := false, laid := [("math/bits.deBruijn32tab", laid_math_bits_deBruijn32tab), ("math/bits.deBruijn64tab", laid_math_bits_deBruijn64tab), ("internal/strconv.uint64pow10", laid_internal_strconv_uint64pow10)], narrowed := true }
def RowValidsUptoSaid : Prop := rowValidsUptoRow.holds Tryd.pinned (OpenSpec.upto rowValidsSpec)

/-- 'osierlaw02.RowShows', WHERE WHAT IT READS IS OF BULK AT MOST 1048576: true; the input reads as it did. -/
def rowShowsUptoRow : OpenClaim := { program := "ytoahckibhmoikaadoor", sum := "35ff6ac27dc7b9b4da987c3cf420e51a4beafffd9796ed2699ea00381f756862", func := "osier/osierlaw02.RowShows", spec := "rowShows", inPlace := ["internal/abi.NoEscape", "internal/bytealg.MakeNoZero"], unfollowed := true, recurses := true, named := ["internal/strconv.uint64pow10", "math/bits.deBruijn32tab", "math/bits.deBruijn64tab"], apart := false, laid := [("math/bits.deBruijn32tab", laid_math_bits_deBruijn32tab), ("math/bits.deBruijn64tab", laid_math_bits_deBruijn64tab), ("internal/strconv.uint64pow10", laid_internal_strconv_uint64pow10)], narrowed := true }
def RowShowsUptoSaid : Prop := rowShowsUptoRow.holds Tryd.pinned (OpenSpec.upto rowShowsSpec)

/-- 'osierlaw02.RowProjects', WHERE WHAT IT READS IS OF BULK AT MOST 1048576: true; the input reads as it did. -/
def rowProjectsUptoRow : OpenClaim := { program := "ytoahckibhmoikaadoor", sum := "35ff6ac27dc7b9b4da987c3cf420e51a4beafffd9796ed2699ea00381f756862", func := "osier/osierlaw02.RowProjects", spec := "rowProjects", inPlace := ["internal/abi.NoEscape", "internal/bytealg.MakeNoZero"], unfollowed := true, recurses := true, named := ["internal/strconv.uint64pow10", "math/bits.deBruijn32tab", "math/bits.deBruijn64tab"], apart := false, laid := [("math/bits.deBruijn32tab", laid_math_bits_deBruijn32tab), ("math/bits.deBruijn64tab", laid_math_bits_deBruijn64tab), ("internal/strconv.uint64pow10", laid_internal_strconv_uint64pow10)], narrowed := true }
def RowProjectsUptoSaid : Prop := rowProjectsUptoRow.holds Tryd.pinned (OpenSpec.upto rowProjectsSpec)

/-- 'osierlaw02.RowProjectsOn', WHERE WHAT IT READS IS OF BULK AT MOST 1048576: true; the input reads as it did. -/
def rowProjectsOnUptoRow : OpenClaim := { program := "ytoahckibhmoikaadoor", sum := "35ff6ac27dc7b9b4da987c3cf420e51a4beafffd9796ed2699ea00381f756862", func := "osier/osierlaw02.RowProjectsOn", spec := "rowProjectsOn", inPlace := ["internal/abi.NoEscape", "internal/bytealg.MakeNoZero"], unfollowed := true, recurses := true, named := ["internal/strconv.uint64pow10", "math/bits.deBruijn32tab", "math/bits.deBruijn64tab"], apart := false, laid := [("math/bits.deBruijn32tab", laid_math_bits_deBruijn32tab), ("math/bits.deBruijn64tab", laid_math_bits_deBruijn64tab), ("internal/strconv.uint64pow10", laid_internal_strconv_uint64pow10)], narrowed := true }
def RowProjectsOnUptoSaid : Prop := rowProjectsOnUptoRow.holds Tryd.pinned (OpenSpec.upto rowProjectsOnSpec)

/-- 'osierlaw02.RowPacks', WHERE WHAT IT READS IS OF BULK AT MOST 1048576: true; the input reads as it did. -/
def rowPacksUptoRow : OpenClaim := { program := "ytoahckibhmoikaadoor", sum := "35ff6ac27dc7b9b4da987c3cf420e51a4beafffd9796ed2699ea00381f756862", func := "osier/osierlaw02.RowPacks", spec := "rowPacks", inPlace := ["internal/abi.NoEscape", "internal/bytealg.MakeNoZero"], unfollowed := true, recurses := true, named := ["internal/strconv.uint64pow10", "math/bits.deBruijn32tab", "math/bits.deBruijn64tab"], apart := false, laid := [("math/bits.deBruijn32tab", laid_math_bits_deBruijn32tab), ("math/bits.deBruijn64tab", laid_math_bits_deBruijn64tab), ("internal/strconv.uint64pow10", laid_internal_strconv_uint64pow10)], narrowed := true }
def RowPacksUptoSaid : Prop := rowPacksUptoRow.holds Tryd.pinned (OpenSpec.upto rowPacksSpec)

/-- 'osierlaw02.RowUnpacks', WHERE WHAT IT READS IS OF BULK AT MOST 1048576: true; the input reads as it did. -/
def rowUnpacksUptoRow : OpenClaim := { program := "ytoahckibhmoikaadoor", sum := "35ff6ac27dc7b9b4da987c3cf420e51a4beafffd9796ed2699ea00381f756862", func := "osier/osierlaw02.RowUnpacks", spec := "rowUnpacks", inPlace := ["internal/abi.NoEscape", "internal/bytealg.MakeNoZero"], unfollowed := true, recurses := true, named := ["internal/strconv.uint64pow10", "math/bits.deBruijn32tab", "math/bits.deBruijn64tab"], apart := false, laid := [("math/bits.deBruijn32tab", laid_math_bits_deBruijn32tab), ("math/bits.deBruijn64tab", laid_math_bits_deBruijn64tab), ("internal/strconv.uint64pow10", laid_internal_strconv_uint64pow10)], narrowed := true }
def RowUnpacksUptoSaid : Prop := rowUnpacksUptoRow.holds Tryd.pinned (OpenSpec.upto rowUnpacksSpec)

/-- 'osierlaw02.RowCompares', WHERE WHAT IT READS IS OF BULK AT MOST 1048576: true; the input reads as it did. -/
def rowComparesUptoRow : OpenClaim := { program := "ytoahckibhmoikaadoor", sum := "35ff6ac27dc7b9b4da987c3cf420e51a4beafffd9796ed2699ea00381f756862", func := "osier/osierlaw02.RowCompares", spec := "rowCompares", inPlace := ["internal/abi.NoEscape", "internal/bytealg.MakeNoZero", "internal/bytealg.abigen_runtime_cmpstring"], unfollowed := true, recurses := true, named := ["internal/strconv.uint64pow10", "math/bits.deBruijn32tab", "math/bits.deBruijn64tab"], apart := false, laid := [("math/bits.deBruijn32tab", laid_math_bits_deBruijn32tab), ("math/bits.deBruijn64tab", laid_math_bits_deBruijn64tab), ("internal/strconv.uint64pow10", laid_internal_strconv_uint64pow10)], narrowed := true }
def RowComparesUptoSaid : Prop := rowComparesUptoRow.holds Tryd.pinned (OpenSpec.upto rowComparesSpec)

/-- 'osierlaw02.RowBack', WHERE WHAT IT READS IS OF BULK AT MOST 1048576: true; the input reads as it did. -/
def rowBackUptoRow : OpenClaim := { program := "ytoahckibhmoikaadoor", sum := "35ff6ac27dc7b9b4da987c3cf420e51a4beafffd9796ed2699ea00381f756862", func := "osier/osierlaw02.RowBack", spec := "rowBack", inPlace := ["internal/abi.NoEscape", "internal/bytealg.MakeNoZero"], unfollowed := true, recurses := true, named := ["internal/strconv.uint64pow10", "math/bits.deBruijn32tab", "math/bits.deBruijn64tab"], apart := false, laid := [("math/bits.deBruijn32tab", laid_math_bits_deBruijn32tab), ("math/bits.deBruijn64tab", laid_math_bits_deBruijn64tab), ("internal/strconv.uint64pow10", laid_internal_strconv_uint64pow10)], narrowed := true }
def RowBackUptoSaid : Prop := rowBackUptoRow.holds Tryd.pinned (OpenSpec.upto rowBackSpec)

/-- 'osierlaw02.RowOneForm', WHERE WHAT IT READS IS OF BULK AT MOST 1048576: true; the input reads as it did. -/
def rowOneFormUptoRow : OpenClaim := { program := "ytoahckibhmoikaadoor", sum := "35ff6ac27dc7b9b4da987c3cf420e51a4beafffd9796ed2699ea00381f756862", func := "osier/osierlaw02.RowOneForm", spec := "rowOneForm", inPlace := ["internal/abi.NoEscape", "internal/bytealg.MakeNoZero"], unfollowed := true, recurses := true, named := ["internal/strconv.uint64pow10", "math/bits.deBruijn32tab", "math/bits.deBruijn64tab"], apart := false, laid := [("math/bits.deBruijn32tab", laid_math_bits_deBruijn32tab), ("math/bits.deBruijn64tab", laid_math_bits_deBruijn64tab), ("internal/strconv.uint64pow10", laid_internal_strconv_uint64pow10)], narrowed := true }
def RowOneFormUptoSaid : Prop := rowOneFormUptoRow.holds Tryd.pinned (OpenSpec.upto rowOneFormSpec)

/-- 'osierlaw02.RowKeepsOrder', WHERE WHAT IT READS IS OF BULK AT MOST 1048576: true; the input reads as it did. -/
def rowKeepsOrderUptoRow : OpenClaim := { program := "ytoahckibhmoikaadoor", sum := "35ff6ac27dc7b9b4da987c3cf420e51a4beafffd9796ed2699ea00381f756862", func := "osier/osierlaw02.RowKeepsOrder", spec := "rowKeepsOrder", inPlace := ["internal/abi.NoEscape", "internal/bytealg.MakeNoZero", "internal/bytealg.abigen_runtime_cmpstring"], unfollowed := true, recurses := true, named := ["internal/strconv.uint64pow10", "math/bits.deBruijn32tab", "math/bits.deBruijn64tab"], apart := false, laid := [("math/bits.deBruijn32tab", laid_math_bits_deBruijn32tab), ("math/bits.deBruijn64tab", laid_math_bits_deBruijn64tab), ("internal/strconv.uint64pow10", laid_internal_strconv_uint64pow10)], narrowed := true }
def RowKeepsOrderUptoSaid : Prop := rowKeepsOrderUptoRow.holds Tryd.pinned (OpenSpec.upto rowKeepsOrderSpec)

/-- 'osierlaw02.RowArranges', WHERE WHAT IT READS IS OF BULK AT MOST 1048576: true; the input reads as it did. -/
def rowArrangesUptoRow : OpenClaim := { program := "ytoahckibhmoikaadoor", sum := "35ff6ac27dc7b9b4da987c3cf420e51a4beafffd9796ed2699ea00381f756862", func := "osier/osierlaw02.RowArranges", spec := "rowArranges", inPlace := ["internal/bytealg.abigen_runtime_cmpstring", "internal/abi.NoEscape", "internal/bytealg.MakeNoZero"], unfollowed := true, recurses := true, named := ["internal/strconv.uint64pow10", "math/bits.deBruijn32tab", "math/bits.deBruijn64tab"], apart := false, laid := [("math/bits.deBruijn32tab", laid_math_bits_deBruijn32tab), ("math/bits.deBruijn64tab", laid_math_bits_deBruijn64tab), ("internal/strconv.uint64pow10", laid_internal_strconv_uint64pow10)], narrowed := true }
def RowArrangesUptoSaid : Prop := rowArrangesUptoRow.holds Tryd.pinned (OpenSpec.upto rowArrangesSpec)

/-- 'osierlaw02.RowSets', WHERE WHAT IT READS IS OF BULK AT MOST 1048576: true; the input reads as it did. -/
def rowSetsUptoRow : OpenClaim := { program := "ytoahckibhmoikaadoor", sum := "35ff6ac27dc7b9b4da987c3cf420e51a4beafffd9796ed2699ea00381f756862", func := "osier/osierlaw02.RowSets", spec := "rowSets", inPlace := ["internal/bytealg.abigen_runtime_cmpstring", "internal/abi.NoEscape", "internal/bytealg.MakeNoZero"], unfollowed := true, recurses := true, named := ["internal/strconv.uint64pow10", "math/bits.deBruijn32tab", "math/bits.deBruijn64tab"], apart := false, laid := [("math/bits.deBruijn32tab", laid_math_bits_deBruijn32tab), ("math/bits.deBruijn64tab", laid_math_bits_deBruijn64tab), ("internal/strconv.uint64pow10", laid_internal_strconv_uint64pow10)], narrowed := true }
def RowSetsUptoSaid : Prop := rowSetsUptoRow.holds Tryd.pinned (OpenSpec.upto rowSetsSpec)

/-- 'osierlaw02.RowMemory', WHERE WHAT IT READS IS OF BULK AT MOST 1048576: true; the input reads as it did. -/
def rowMemoryUptoRow : OpenClaim := { program := "ytoahckibhmoikaadoor", sum := "35ff6ac27dc7b9b4da987c3cf420e51a4beafffd9796ed2699ea00381f756862", func := "osier/osierlaw02.RowMemory", spec := "rowMemory", inPlace := ["internal/abi.NoEscape", "internal/bytealg.MakeNoZero", "internal/bytealg.abigen_runtime_cmpstring"], unfollowed := true, recurses := true, named := ["internal/strconv.uint64pow10", "math/bits.deBruijn32tab", "math/bits.deBruijn64tab"], apart := false, laid := [("math/bits.deBruijn32tab", laid_math_bits_deBruijn32tab), ("math/bits.deBruijn64tab", laid_math_bits_deBruijn64tab), ("internal/strconv.uint64pow10", laid_internal_strconv_uint64pow10)], narrowed := true }
def RowMemoryUptoSaid : Prop := rowMemoryUptoRow.holds Tryd.pinned (OpenSpec.upto rowMemorySpec)

end Rows
end Go.Proofs.YtoahckibhmoikaaDoor
