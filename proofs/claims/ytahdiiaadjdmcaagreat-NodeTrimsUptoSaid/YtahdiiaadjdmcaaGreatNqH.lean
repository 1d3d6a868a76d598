/-
  law of node: lists that are laid anew.
-/
import Derived.Test.YtahdiiaadjdmcaaGreatNgL
namespace Go.Proofs.YtahdiiaadjdmcaaGreat
open Go.RowKit

/-- a row that lies in the blocks P, as it is told -/
def RB (P : Nat → Prop) : World → List Value → List V → Prop := fun w cs r => ∃ A n c, cs = [.slice A n c] ∧ OwnH w P 85 3 n (.slice A n c) (cellsR r)
theorem rows_cells {w : World} {P : Nat → Prop} {A : Option Addr} {n c : Nat} {rows : List (List V)} (h : Told w P A n c rows) : ∃ xs, OwnH w P 28 1 n (.slice A n c) xs ∧ Els (RB P) 1 w xs rows := by
  obtain ⟨h1, xs, h2, h3⟩ := h
  exact ⟨xs, h2, h3⟩
theorem RB.grown {w w' : World} {P Q : Nat → Prop} {cs : List Value} {r : List V} (h : RB P w cs r) {base : Nat} {v2 : Value} {n2 : Nat} {xs2 : List Value} (h2 : w.ownsRow base 28 1 v2 n2 xs2) (hg : w.grownBy w' v2.ownBlock) (hq : ∀ b, P b → Q b) : RB Q w' cs r := by
  obtain ⟨A, n, c, e, ho⟩ := h
  exact ⟨A, n, c, e, (ho.grown h2 (by decide) hg).mono hq⟩
/-- rows behind rows of one's own -/
theorem Told.app {w w' : World} {P B : Nat → Prop} {A A' : Option Addr} {n m c c' : Nat} {rows rows2 : List (List V)} {xs news : List Value} (ho : OwnH w B 28 1 n (.slice A n c) xs) (he : Els (RB P) 1 w xs rows) (hn : Els (RB P) 1 w news rows2)
    (h8 : OwnH w' (fun b => B b ∨ b = w.heap.size) 28 1 (n + m) (.slice A' (n + m) c') (xs ++ news)) (G : w.grownBy w' (Value.slice A n c).ownBlock) (hB : ∀ b, B b → P b) : Told w' (And' P w.heap.size w'.heap.size) A' (n + m) c' (rows ++ rows2) := by
  have k1 := ho.own.1
  have k2 := h8.own.1
  have k3 := he.len
  have k4 := hn.len
  rw [List.length_append] at k2
  refine ⟨by rw [List.length_append]; omega, _, ⟨h8.own, fun g hg => (h8.inB g hg).elim (fun h => .inl (hB g h)) fun e => .inr ⟨by omega, h8.lt g hg⟩⟩, ?_⟩
  exact (he.append hn).mono fun cs r hr => hr.grown ho.own G fun b hb => .inl hb
theorem ArgR.rb {w : World} {A : Option Addr} {n c : Nat} {r : List V} {base : Nat} (h : w.ownsRow base 85 3 (.slice A n c) n (cellsR r)) : RB (fun b => base ≤ b ∧ b < w.heap.size) w [.slice A n c] r := ⟨A, n, c, rfl, own_base0 h (Nat.zero_le _), fun g hg => h.lt g hg⟩
theorem els_single {w : World} {P : Nat → Prop} {u : Value} {r : List V} (h : RB P w [u] r) : Els (RB P) 1 w [u] [r] := Els.single rfl (fun v hv => by
  obtain ⟨A, n, c, e, -⟩ := h
  obtain rfl := List.mem_singleton.1 hv
  injection e with e
  rw [e]; rfl) h
theorem RB.mono {P Q : Nat → Prop} {w : World} {cs : List Value} {r : List V} (h : RB P w cs r) (hq : ∀ b, P b → Q b) : RB Q w cs r := by
  obtain ⟨A, n, c, e, ho⟩ := h
  exact ⟨A, n, c, e, ho.mono hq⟩
/-- how many of the first rows have their side's row on -/
def liveM (K : NK) (s : NSt) (i : Nat) : Nat := ((s.ons.take i).filter fun r => inB s.sides (keyR K.side r)).length
end Go.Proofs.YtahdiiaadjdmcaaGreat
