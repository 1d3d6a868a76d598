/-
  StoreTurns: the law.
-/
import Derived.Test.YtifloafhpeeepaaGreatGbE
namespace Go.Proofs.YtifloafhpeeepaaGreat
open Go.RowKit

structure OpS where
  kind : Int
  k : Int
  row : List V
def ROp : World → List Value → OpS → Prop := fun w cs o => ∃ A n c, cs = [.int .i64 o.kind, .int .i64 o.k, .slice A n c] ∧ RowAt w A n o.row
theorem ROp.stab : Stab ROp := fun _ _ _ _ hw ⟨A, n, c, e, h⟩ => ⟨A, n, c, e, h.ext hw⟩
theorem LAt.op {w : World} {A : Option Addr} {n : Nat} {ops : List OpS} (h : LAt ROp 3 w A n ops) {i : Nat} (hi : i < n) : ∃ b off o A9 c9, A = some ⟨b, off, none⟩ ∧ ops[i]? = some o ∧ b < w.heap.size ∧ w.cell? ⟨b, off + i * 3, none⟩ = some (.int .i64 o.kind) ∧ w.cell? ⟨b, off + i * 3 + 1, none⟩ = some (.int .i64 o.k) ∧ w.cell? ⟨b, off + i * 3 + 2, none⟩ = some (.slice A9 o.row.length c9) ∧ RowAt w A9 o.row.length o.row := by
  obtain ⟨b, off, o, cs, rfl, ho, hbl, _, _, ⟨A9, n9, c9, rfl, hr⟩, hcell⟩ := LAt.get (by omega) h hi
  obtain rfl := hr.len
  exact ⟨b, off, o, A9, c9, rfl, ho, hbl, hcell 0 (by omega), hcell 1 (by omega), hcell 2 (by omega), hr⟩
theorem told_retrows {w w' : World} {rows : List (List V)} {e : Ending} (h : RetRows w rows e w') : ∃ A c, e = .returned (.slice A rows.length c) ∧ Ext w w' ∧ ∀ P : Nat → Prop, (∀ b, w.heap.size ≤ b → b < w'.heap.size → P b) → Told w' P A rows.length c rows := by
  obtain ⟨A, n, c, cells, rfl, rfl, h3, h4, h5⟩ := h
  exact ⟨A, c, rfl, h5, fun P hP => (show MineV w.heap.size w' A rows.length c rows from ⟨cells, rfl, h3, h4⟩).told hP⟩
/-- what the law holds: the store, the rows that were, the groups that were had -/
structure TrI (w0 : World) (x : Nat) (S : SAbs) (N : Nat) (R : List (List V)) (L : List (List (List V))) (Aw : Option Addr) (nw cw : Nat) (P : Nat → Prop) (A : Option Addr) (n c : Nat) (w : World) : Prop where
  fp : FP w0 w x S N P
  was : Told w P Aw nw cw R
  had : HadAt w P A n c L
  new : ∀ b, P b → w0.heap.size ≤ b
section
variable {w0 w w' : World} {x : Nat} {S : SAbs} {N : Nat} {R : List (List V)} {L : List (List (List V))} {Aw : Option Addr} {nw cw : Nat} {P : Nat → Prop} {A : Option Addr} {n c : Nat}
theorem TrI.ext (h : TrI w0 x S N R L Aw nw cw P A n c w) (hw : Ext w w') : TrI w0 x S N R L Aw nw cw (And' P w.heap.size w'.heap.size) A n c w' :=
  ⟨h.fp.ext hw, h.was.ext hw fun b hb => .inl hb, h.had.ext hw fun b hb => .inl hb, fun b hb => hb.elim (h.new b) fun h1 => by have := h.fp.size0; omega⟩
theorem TrI.step {S' : SAbs} {N' : Nat} {Q : Nat → Prop} (h : TrI w0 x S N R L Aw nw cw P A n c w) (hf : FP w0 w' x S' N' Q) (hk : Keeps P w w') (hq : ∀ b, P b → Q b) (hn : ∀ b, Q b → w0.heap.size ≤ b) : TrI w0 x S' N' R L Aw nw cw Q A n c w' :=
  ⟨hf, h.was.keep hk hq, h.had.keep hk hq, hn⟩
theorem TrI.keep {S' : SAbs} {N' : Nat} (h : TrI w0 x S N R L Aw nw cw P A n c w) (hf : FP w0 w' x S' N' P ∧ Keeps P w w') : TrI w0 x S' N' R L Aw nw cw P A n c w' := h.step hf.1 hf.2 (fun _ h => h) h.new
theorem TrI.push {A' : Option Addr} {c' : Nat} (h : TrI w0 x S N R L Aw nw cw P A n c w) {rows : List (List V)} {Ar : Option Addr} {cr : Nat} (hr : Told w P Ar rows.length cr rows) {xs : List Value}
    (ho : OwnH w P 22 1 n (.slice A n c) xs) (hx : ∀ (i : Nat) (rows : List (List V)), L[i]? = some rows → ∃ Ai ci, xs[i]? = some (.slice Ai rows.length ci) ∧ Told w P Ai rows.length ci rows)
    (o8 : OwnH w' (fun b => P b ∨ b = w.heap.size) 22 1 (n + 1) (.slice A' (n + 1) c') (xs ++ [.slice Ar rows.length cr])) (G8 : w.grownBy w' (Value.slice A n c).ownBlock) (C8 : Chg P w w') : TrI w0 x S N R (L ++ [rows]) Aw nw cw (And' P w.heap.size w'.heap.size) A' (n + 1) c' w' :=
  ⟨h.fp.chgP C8 (fun _ h => h) h.new, h.was.grown ho.own G8 fun b hb => .inl hb, h.had.push hr ho hx o8 G8, fun b hb => hb.elim (h.new b) fun h1 => by have := h.fp.size0; omega⟩
end
end Go.Proofs.YtifloafhpeeepaaGreat
