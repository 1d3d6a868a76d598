/-
  node: its stores.
  node: one thing is done with all stores.
  node: the mark.
-/
import Derived.Test.YtahdiiaadjdmcaaGreatNgF
import Derived.ArgAppend
import Derived.Test.YtahdiiaadjdmcaaGreatStoZ
import Derived.MapKept
namespace Go.Proofs.YtahdiiaadjdmcaaGreat
open Go.RowKit

/-- but the live rows' -/
def othersN (K : NK) (v : NdV) : List Nat := if K.kind = 3 then [v.x2, v.x3] else []
def allN (K : NK) (v : NdV) : List Nat := othersN K v ++ [v.x1]
def StsIs (b : Nat) (xs : List Nat) (u : Value) (w : World) : Prop := (xs = [] ∧ u = .slice none 0 0) ∨ (xs ≠ [] ∧ ∃ g, b ≤ g ∧ u = .slice (some ⟨g, 0, none⟩) xs.length xs.length ∧ Blk w g 88 (ptrC xs).toArray)
section
variable {w : World} {lab : Lab} {K : NK} {v : NdV} {a : NAbs} {N : Nat}
def RowSt (b : Nat) (xs : List Nat) (u : Value) (w : World) : Prop := ∃ A c, u = .slice A xs.length c ∧ w.ownsRow b 88 1 (.slice A xs.length c) xs.length (ptrC xs)
end
end Go.Proofs.YtahdiiaadjdmcaaGreat

namespace Go.Proofs.YtahdiiaadjdmcaaGreat
open Go.RowKit

/-- a node whose stores may stand apart -/
structure NdO (w : World) (lab : Lab) (K : NK) (v : NdV) (a : NAbs) (T : Nat → SAbs) (N : Nat) : Prop where
  lt : ∀ b i, lab b = some i → b < w.heap.size
  p0 : npart w (lab.own 0) K v a N 0
  s1 : StI w (lab.own 1) v.x1 (T 1) N
  s2 : K.kind = 3 → StI w (lab.own 2) v.x2 (T 2) N
  s3 : K.kind = 3 → StI w (lab.own 3) v.x3 (T 3) N
  p4 : npart w (lab.own 4) K v a N 4
  p5 : npart w (lab.own 5) K v a N 5
def tof (K : NK) (a : NAbs) : Nat → SAbs := fun j => if j = 1 then S1 K a else if j = 2 then S2 K a else S3 K a
def updT (T : Nat → SAbs) (j : Nat) (S : SAbs) : Nat → SAbs := fun i => if i = j then S else T i
def ptrX (v : NdV) (j : Nat) : Nat := if j = 1 then v.x1 else if j = 2 then v.x2 else v.x3
/-- the stores' places in all() -/
def idxN (K : NK) (i : Nat) : Nat := if K.kind = 3 then if i = 0 then 2 else if i = 1 then 3 else 1 else 1
/-- so many stores are done -/
def doneT (K : NK) (f : SAbs → SAbs) (T : Nat → SAbs) : Nat → Nat → SAbs
  | 0 => T
  | i + 1 => updT (doneT K f T i) (idxN K i) (f (T (idxN K i)))
end Go.Proofs.YtahdiiaadjdmcaaGreat

namespace Go.Proofs.YtahdiiaadjdmcaaGreat
open Go.RowKit

def beginN (a : NAbs) : NAbs × Int := match a.old with
  | none => (⟨a.now, some a.now⟩, 0)
  | some _ => (a, 64)
def commitN (a : NAbs) : NAbs × Int := match a.old with
  | none => (a, 65)
  | some _ => (⟨a.now, none⟩, 0)
def rollN (a : NAbs) : NAbs × Int := match a.old with
  | none => (a, 65)
  | some o => (⟨o, none⟩, 0)
theorem ta_meet_trim (v : Value) (w : World) : (Instr.typeAssert (.iface 105 v) 46 91 true).run Tryz.prog w = .ok (.tuple #[.pointer none, .bool false]) w := by kernel_rfl
theorem ta_meet_leaf (v : Value) (w : World) : (Instr.typeAssert (.iface 117 v) 46 91 true).run Tryz.prog w = .ok (.tuple #[.pointer none, .bool false]) w := by kernel_rfl
theorem ta_meet_yes (v : Value) (w : World) : (Instr.typeAssert (.iface 91 v) 46 91 true).run Tryz.prog w = .ok (.tuple #[v, .bool true]) w := by kernel_rfl
theorem ta_meet {K : NK} (hK : NKOk K) (v : Value) (w : World) : (Instr.typeAssert (.iface (workT K) v) 46 91 true).run Tryz.prog w = .ok (.tuple #[if K.kind = 3 then v else .pointer none, .bool (decide (K.kind = 3))]) w := by
  unfold workT
  rcases hK.kind with hk | hk | hk
  · rw [if_neg (by omega), if_neg (by omega), if_neg (by omega), decide_eq_false (by omega)]; exact ta_meet_leaf v w
  · rw [if_pos hk, if_neg (by omega), decide_eq_false (by omega)]; exact ta_meet_trim v w
  · rw [if_neg (by omega), if_pos hk, if_pos hk, decide_eq_true hk]; exact ta_meet_yes v w
/-- one block is another part's -/
def relab (lab : Lab) (g j : Nat) : Lab := fun b => if b = g then some j else lab b
end Go.Proofs.YtahdiiaadjdmcaaGreat
