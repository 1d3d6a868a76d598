/-
  A row of a call's own, read as a row.
-/
import Derived.Test.YtpfjkjmimmklcaaValidR
import Derived.Test.YtpfjkjmimmklcaaRefB
namespace Go.Proofs.Ytpfjkjmimmklcaa
open Go.RowKit
theorem RetOwn.row {w0 w' : World} {e : TypeId} {n : Nat} {r : List V} {en : Ending} (h : RetOwn w0 e 3 n (cellsR r) en w') : ∃ A c, en = .returned (.slice A n c) ∧ RowAt w' A n r ∧ Ext w0 w' := by
  obtain ⟨A, c, he, ho, hE⟩ := h
  exact ⟨A, c, he, RowAt.own ho, hE⟩

end Go.Proofs.Ytpfjkjmimmklcaa
