/-
  store: slices.Backward; Rollback.
  store: Rollback.
  store: Rollback's walk.
-/
import Derived.Test.YtahdiiaadjdmcaaGreatGbB
import Derived.Test.YtahdiiaadjdmcaaGreatGaD
import Derived.TacticsInMore
import Derived.OwnWalkIn
import Derived.Test.YtahdiiaadjdmcaaGreatGbN
namespace Go.Proofs.YtahdiiaadjdmcaaGreat
open Go.RowKit

def rollS (S : SAbs) : SAbs × Int := match S.old with
  | none => (S, 65)
  | some o => ({ S with rows := o, old := none }, 0)
end Go.Proofs.YtahdiiaadjdmcaaGreat

namespace Go.Proofs.YtahdiiaadjdmcaaGreat
open Go.RowKit

/-- what stood there and is none of the store's is as it was -/
def SameB (W0 : World) (lab : Lab) (W w' : World) : Prop := ∀ g, g < W0.heap.size → ¬ lab.dom g → w'.heap[g]? = W.heap[g]?
/-- the slots' generations when a rollback has come down to j: within a row of Puts they may all be at their bound -/
def RbG (U : List Und) (g j : Nat) (v' : StV) : Prop :=
  (∀ i, genA v'.sl i + (if lastP (U.take j) then 0 else if (thg v'.sl i).isSome then 0 else 1) ≤ g - runs (U.take j)) ∧
  (∀ i, genA v'.sL i + (if lastP (U.take j) then 0 else if (thg v'.sL i).isSome then 0 else 1) ≤ g - runs (U.take j))
/-- a rollback that has come down to j -/
structure RbI (W0 : World) (lab : Lab) (v : StV) (N : Nat) (P0 : List SRow) (F0 : List Nat) (l : Nat) (j : Nat) (w' : World) (lab' : Lab) (v' : StV) (D' : Nat → List (List V × Nat)) : Prop where
  m : StM w' lab' v'
  dm : ∀ b, lab'.dom b → lab.dom b ∨ W0.heap.size ≤ b
  ch : Chg (fun g => lab.dom g ∨ g = l) W0 w'
  kept : Kept v v'
  row : StRow v'
  lan : StLan v'.L v'.gs v'.G v'.cont v'.sL v'.lL v'.lrefs D' (fun _ => v'.P)
  gen : RbG v.U (gN N) j v'
  K : v'.K + 64 * j ≤ kBound N
  hist : Hist (RowsOk v.width v.most) v.gs P0 F0 (v.U.take j) v'.P (fsOf v'.most v'.sl v'.fr)
def Rb (W0 : World) (lab : Lab) (v : StV) (N : Nat) (P0 : List SRow) (F0 : List Nat) (l : Nat) (j : Nat) (w' : World) : Prop := ∃ lab' v' D', RbI W0 lab v N P0 F0 l j w' lab' v' D'
/-- the rounds of Rollback -/
structure JRb (W0 : World) (lab : Lab) (v : StV) (N : Nat) (P0 : List SRow) (F0 : List Nat) (l D0 gb : Nat) (rec : Loop) (j : Nat) (W : World) : Prop where
  lp : W.heap[l]? = some (.loop rec)
  mark : W.heap[D0]? = some (.deferred (some []))
  box : Blk W gb 129 #[.slice v.uA v.un.length v.uC]
  rb : Rb W0 lab v N P0 F0 l j W
end Go.Proofs.YtahdiiaadjdmcaaGreat

namespace Go.Proofs.YtahdiiaadjdmcaaGreat
open Go.RowKit
attribute [local go_sem] Oper.semAt_some

end Go.Proofs.YtahdiiaadjdmcaaGreat
