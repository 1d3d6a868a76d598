/-
  Does a row stand in a list?
-/
import Derived.Test.YtahdiiaadjdmcaaGreatGaD
namespace Go.Proofs.YtahdiiaadjdmcaaGreat
open Go.RowKit

/-- where it stands first, or -1 -/
def plcR (r : List V) : List (List V) → Nat → Int
  | [], _ => -1
  | s :: l, i => if sameR s r then i else plcR r l (i + 1)
end Go.Proofs.YtahdiiaadjdmcaaGreat
