/-
  store: Size, First, Next.
-/
import Derived.Test.YtahdiiaadjdmcaaGbN
import Derived.Test.YtahdiiaadjdmcaaGbD
namespace Go.Proofs.Ytahdiiaadjdmcaa
open Go.RowKit

theorem StR.refl' {w : World} {lab : Lab} {v : StV} (h : StM w lab v) : StR w lab w v := ⟨lab, h, fun _ hb => .inl hb, Chg.refl _ _⟩
/-- a row is told, of one's own, or none is -/
def OneSays (w : World) (B : Nat → Prop) (x : Nat) (S : SAbs) (N : Nat) (o : Option (List V)) (e : Ending) (w' : World) : Prop := match o with
  | none => e = .returned (.tuple #[.slice none 0 0, .bool false, .int .i64 0]) ∧ StS w B x S N w'
  | some r => ∃ A c M, e = .returned (.tuple #[.slice A r.length c, .bool true, .int .i64 0]) ∧ w'.ownsRow M 59 3 (.slice A r.length c) r.length (cellsR r) ∧ StSM w B x S N w' M
theorem StS.ext' {w w' w2 : World} {B : Nat → Prop} {x : Nat} {S : SAbs} {N : Nat} (h : StS w B x S N w') (hx : Ext w' w2) : StSM w B x S N w2 w'.heap.size := by
  obtain ⟨B', h1, h2, h3, h4⟩ := h
  exact ⟨B', h1.ext hx, h2, h3, h4.trans' (Chg.of hx), h4.size, hx.size⟩
theorem wrap_cell1 (s L k : Nat) (h : s * L + (k + 1) ≤ 4611686018427387904) : ∃ q1 q2 cl : Nat, Hid (cl = s * L + (k + 1)) ∧ IntKind.i64.wrap ((s : Int) * (L : Int)) = (q1 : Int) ∧ IntKind.i64.wrap ((q1 : Int) + (k : Int)) = (q2 : Int) ∧ IntKind.i64.wrap ((q2 : Int) + 1) = (cl : Int) :=
  ⟨s * L, s * L + k, s * L + (k + 1), rfl, by rw [Int.natCast_mul]; exact IntWalk.i64_in _ (by rw [← Int.natCast_mul]; omega), by rw [Int.natCast_add]; exact IntWalk.i64_in _ (by omega), by rw [show ((s * L + (k + 1) : Nat) : Int) = ((s * L + k : Nat) : Int) + 1 by omega]; exact IntWalk.i64_in _ (by omega)⟩
/-- what Next tells: r is the i-th of its group, and the next one is told -/
def NextSays (w : World) (B : Nat → Prop) (x : Nat) (S : SAbs) (N k : Nat) (g : List Nat) (r : List V) (e : Ending) (w' : World) : Prop :=
  (inB S.rows r = false ∧ e = .returned (.tuple #[.slice none 0 0, .bool false, .int .i64 62]) ∧ StS w B x S N w') ∨
  (inB S.rows r = true ∧ ∃ i, (grpS S k (keyR g r))[i]? = some r ∧ OneSays w B x S N (grpS S k (keyR g r))[i + 1]? e w')
end Go.Proofs.Ytahdiiaadjdmcaa
