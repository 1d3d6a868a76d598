/-
  NodeTurns: the law's walk.
-/
import Derived.Test.YtahdiiaadjdmcaaGreatNgL
namespace Go.Proofs.YtahdiiaadjdmcaaGreat
open Go.RowKit

theorem Told.grownI {w w' : World} {P Q : Nat → Prop} {A : Option Addr} {n c : Nat} {rows : List (List V)} (h : Told w P A n c rows) {base : Nat} {v2 : Value} {n2 : Nat} {xs2 : List Value} (h2 : w.ownsRow base 3 1 v2 n2 xs2) (hg : w.grownBy w' v2.ownBlock) (hq : ∀ b, P b → Q b) : Told w' Q A n c rows := by
  obtain ⟨h1, cells, h3, h4⟩ := h
  refine ⟨h1, cells, (h3.grown h2 (by decide) hg).mono hq, h4.mono fun cs r hx => ?_⟩
  obtain ⟨A, n, c, e, ho⟩ := hx
  exact ⟨A, n, c, e, (ho.grown h2 (by decide) hg).mono hq⟩
/-- what the law holds: the node, the rows that were, the supports -/
structure TuI (w0 : World) (n l : Nat) (K : NK) (a : NAbs) (N : Nat) (P : Nat → Prop) (Aw : Option Addr) (nw cw : Nat) (R : List (List V)) (A : Option Addr) (m c : Nat) (xs : List Int) (w : World) : Prop where
  np : NP w0 w n l K a N P
  was : Told w P Aw nw cw R
  sup : OwnH w P 3 1 m (.slice A m c) (xs.map (Value.int .i64))
  new : ∀ b, P b → w0.heap.size ≤ b
section
variable {w0 w w' : World} {n l : Nat} {K : NK} {a : NAbs} {N : Nat} {P Q : Nat → Prop} {Aw : Option Addr} {nw cw : Nat} {R : List (List V)} {A : Option Addr} {m c : Nat} {xs : List Int}
end
def supsN (K : NK) (s : NSt) (ops : List OpS) (i : Nat) : List Int := (ops.take i).map fun o => (supN K s o.row : Int)
end Go.Proofs.YtahdiiaadjdmcaaGreat
