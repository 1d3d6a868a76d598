/-
  store: Size, First, Next.
-/
import Derived.Test.YtahdiiaadjdmcaaGreatGbN
import Derived.Test.YtahdiiaadjdmcaaGreatGbD
namespace Go.Proofs.YtahdiiaadjdmcaaGreat
open Go.RowKit

/-- a row is told, of one's own, or none is -/
def OneSays (w : World) (B : Nat → Prop) (x : Nat) (S : SAbs) (N : Nat) (o : Option (List V)) (e : Ending) (w' : World) : Prop := match o with
  | none => e = .returned (.tuple #[.slice none 0 0, .bool false, .int .i64 0]) ∧ StS w B x S N w'
  | some r => ∃ A c M, e = .returned (.tuple #[.slice A r.length c, .bool true, .int .i64 0]) ∧ w'.ownsRow M 85 3 (.slice A r.length c) r.length (cellsR r) ∧ StSM w B x S N w' M
/-- what Next tells: r is the i-th of its group, and the next one is told -/
def NextSays (w : World) (B : Nat → Prop) (x : Nat) (S : SAbs) (N k : Nat) (g : List Nat) (r : List V) (e : Ending) (w' : World) : Prop :=
  (inB S.rows r = false ∧ e = .returned (.tuple #[.slice none 0 0, .bool false, .int .i64 62]) ∧ StS w B x S N w') ∨
  (inB S.rows r = true ∧ ∃ i, (grpS S k (keyR g r))[i]? = some r ∧ OneSays w B x S N (grpS S k (keyR g r))[i + 1]? e w')
end Go.Proofs.YtahdiiaadjdmcaaGreat
