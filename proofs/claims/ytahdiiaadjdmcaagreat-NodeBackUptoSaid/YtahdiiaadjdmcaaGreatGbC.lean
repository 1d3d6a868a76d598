/-
  store: slices.Backward; Rollback.
  store: Rollback.
  store: Rollback's walk.
-/
import Derived.Test.YtahdiiaadjdmcaaGreatGbB
import Derived.Test.YtahdiiaadjdmcaaGreatGaD
import Derived.TacticsInMore
import Derived.OwnWalkIn
import Derived.Test.YtahdiiaadjdmcaaGreatGbN
namespace Go.Proofs.YtahdiiaadjdmcaaGreat
open Go.RowKit

def rollS (S : SAbs) : SAbs × Int := match S.old with
  | none => (S, 65)
  | some o => ({ S with rows := o, old := none }, 0)
end Go.Proofs.YtahdiiaadjdmcaaGreat

namespace Go.Proofs.YtahdiiaadjdmcaaGreat
open Go.RowKit

/-- what stood there and is none of the store's is as it was -/
def SameB (W0 : World) (lab : Lab) (W w' : World) : Prop := ∀ g, g < W0.heap.size → ¬ lab.dom g → w'.heap[g]? = W.heap[g]?
/-- the slots' generations when a rollback has come down to j: within a row of Puts they may all be at their bound -/
def RbG (U : List Und) (g j : Nat) (v' : StV) : Prop :=
  (∀ i, genA v'.sl i + (if lastP (U.take j) then 0 else if (thg v'.sl i).isSome then 0 else 1) ≤ g - runs (U.take j)) ∧
  (∀ i, genA v'.sL i + (if lastP (U.take j) then 0 else if (thg v'.sL i).isSome then 0 else 1) ≤ g - runs (U.take j))
/-- a rollback that has come down to j -/
structure RbI (W0 : World) (lab : Lab) (v : StV) (N : Nat) (P0 : List SRow) (F0 : List Nat) (l : Nat) (j : Nat) (w' : World) (lab' : Lab) (v' : StV) (D' : Nat → List (List V × Nat)) : Prop where
  m : StM w' lab' v'
  dm : ∀ b, lab'.dom b → lab.dom b ∨ W0.heap.size ≤ b
  ch : Chg (fun g => lab.dom g ∨ g = l) W0 w'
  kept : Kept v v'
  row : StRow v'
  lan : StLan v'.L v'.gs v'.G v'.cont v'.sL v'.lL v'.lrefs D' (fun _ => v'.P)
  gen : RbG v.U (gN N) j v'
  K : v'.K + 64 * j ≤ kBound N
  hist : Hist (RowsOk v.width v.most) v.gs P0 F0 (v.U.take j) v'.P (fsOf v'.most v'.sl v'.fr)
def Rb (W0 : World) (lab : Lab) (v : StV) (N : Nat) (P0 : List SRow) (F0 : List Nat) (l : Nat) (j : Nat) (w' : World) : Prop := ∃ lab' v' D', RbI W0 lab v N P0 F0 l j w' lab' v' D'
theorem RbI.on {W0 : World} {lab : Lab} {v : StV} {N j l : Nat} {P0 : List SRow} {F0 : List Nat} {W w' : World} {lab' lab2 : Lab} {v' : StV} {D' : Nat → List (List V × Nat)} (h : RbI W0 lab v N P0 F0 l j W lab' v' D') (d2 : ∀ b, lab2.dom b → lab'.dom b ∨ W.heap.size ≤ b) (c2 : Chg lab'.dom W w') : (∀ b, lab2.dom b → lab.dom b ∨ W0.heap.size ≤ b) ∧ Chg (fun g => lab.dom g ∨ g = l) W0 w' :=
  ⟨fun b hb => (d2 b hb).elim (h.dm b) fun h9 => .inr (Nat.le_trans h.ch.size h9), h.ch.trans c2 fun g hg hl => .inl ((h.dm g hg).resolve_right (by omega))⟩
theorem Rb.same {W0 : World} {lab : Lab} {v : StV} {N j l : Nat} {P0 : List SRow} {F0 : List Nat} {W w' : World} {lab' : Lab} {v' v'' : StV} {D' : Nat → List (List V × Nat)} (h : RbI W0 lab v N P0 F0 l j W lab' v' D') (hs : StR W lab' w' v'') : SameB W0 lab W w' := fun g h1 h2 => by
  obtain ⟨lab2, -, -, hc⟩ := hs
  exact hc.block g (Nat.lt_of_lt_of_le h1 h.ch.size) fun hd => (h.dm g hd).elim h2 fun h3 => by omega
/-- the rounds of Rollback -/
structure JRb (W0 : World) (lab : Lab) (v : StV) (N : Nat) (P0 : List SRow) (F0 : List Nat) (l D0 gb : Nat) (rec : Loop) (j : Nat) (W : World) : Prop where
  lp : W.heap[l]? = some (.loop rec)
  mark : W.heap[D0]? = some (.deferred (some []))
  box : Blk W gb 129 #[.slice v.uA v.un.length v.uC]
  rb : Rb W0 lab v N P0 F0 l j W
theorem JRb.read {W0 : World} {lab : Lab} {v : StV} {N : Nat} {P0 : List SRow} {F0 : List Nat} {l D0 gb : Nat} {rec : Loop} {j : Nat} {W : World} (h : JRb W0 lab v N P0 F0 l D0 gb rec j W) : W.cell? ⟨gb, 0, none⟩ = some (.slice v.uA v.un.length v.uC) ∧ ∀ (i : Nat) (u : Value), v.un[i]? = some u → ∃ g, v.uA = some ⟨g, 0, none⟩ ∧ W.cell? ⟨g, i, none⟩ = some u := by
  refine ⟨h.box.cell 0, fun i u hu => ?_⟩
  obtain ⟨lab', v', D', hi⟩ := h.rb
  have h1 := (hi.m.part 0).2.2.2
  rw [hi.kept.un, hi.kept.uA, hi.kept.uC] at h1
  have hl := (List.getElem?_eq_some_iff.1 hu).1
  obtain ⟨g, e, -, -, hc, -⟩ := h1.at_ (by omega)
  exact ⟨g, e, hc i u hu⟩
theorem Rb.put {W0 : World} {lab : Lab} {v : StV} {N j l : Nat} {P0 : List SRow} {F0 : List Nat} {W : World} (h : Rb W0 lab v N P0 F0 l j W) {o : Obj} (hl : l < W0.heap.size) (hd : ¬ lab.dom l) : Rb W0 lab v N P0 F0 l j (W.putObj l o) := by
  obtain ⟨lab', v', D', hi⟩ := h
  have hc : Chg (fun g => g = l) W (W.putObj l o) := ⟨rfl, rfl, rfl, by simp, fun k h1 h2 => World.putObj_heap_other fun e => h2 e⟩
  have hn : ∀ g, lab'.dom g → ¬ g = l := fun g hg e => by
    subst e
    exact (hi.dm g hg).elim hd fun h => by omega
  exact ⟨lab', v', D', hi.m.chg hc hn, hi.dm, hi.ch.trans hc fun g hg _ => .inr hg, hi.kept, hi.row, hi.lan, hi.gen, hi.K, hi.hist⟩
end Go.Proofs.YtahdiiaadjdmcaaGreat

namespace Go.Proofs.YtahdiiaadjdmcaaGreat
open Go.RowKit
attribute [local go_sem] Oper.semAt_some

end Go.Proofs.YtahdiiaadjdmcaaGreat
