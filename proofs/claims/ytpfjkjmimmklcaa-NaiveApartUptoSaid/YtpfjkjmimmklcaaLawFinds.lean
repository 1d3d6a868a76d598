/-
  ContainFinds: the walk.
-/
import Derived.Test.YtpfjkjmimmklcaaCon
import Derived.Test.YtpfjkjmimmklcaaRefB
import Derived.Test.YtpfjkjmimmklcaaExt3
namespace Go.Proofs.Ytpfjkjmimmklcaa
open Go.RowKit

/-- a variable that was made: nothing in it yet -/
def VarQ (w0 : World) : Value → World → Prop := fun u w => ∃ g, u = .pointer (some ⟨g, 0, none⟩) ∧ w0.heap.size ≤ g ∧ Blk w g 25 #[.string .empty, .slice none 0 0, .slice none 0 0]
theorem VarQ.ext {w0 : World} {u : Value} {w w' : World} (hw : Ext w w') (h : VarQ w0 u w) : VarQ w0 u w' := by
  obtain ⟨g, h1, h2, h3⟩ := h
  exact ⟨g, h1, h2, h3.ext hw⟩

/-- a copy, wherever it begins -/
def IsC (q : Qy) : Value → World → Prop := fun u w => ∃ w0 L, u = qval q.name L ∧ Copied w0 w L q
theorem IsC.ext {q : Qy} {u : Value} {w w' : World} (hw : Ext w w') (h : IsC q u w) : IsC q u w' := by
  obtain ⟨w0, L, h1, h2⟩ := h
  exact ⟨w0, L, h1, h2.ext hw⟩
theorem copy_isc {q : Qy} {L : QLoc} {w : World} (hq : QAt w L q) (hM : smallM 1048576 q) :
    Calls Try.prog 14 #[.agg #[.string q.name, .slice L.A L.n L.c, .slice L.B L.m L.d]] w fun e w' => ∃ v, e = .returned v ∧ Ext w w' ∧ IsC q v w' :=
  (copy_query q L w hq hM).mono fun _ _ ⟨L', h1, h2, h3⟩ => ⟨_, h1, h3, w, L', rfl, h2⟩
theorem Copied.set {w0 w : World} {L : QLoc} {q : Qy} (h : Copied w0 w L q) {g : Nat} {cs : Array Value} (hb : Blk w g 25 cs) (i : Nat) (u : Value) : Copied w0 (w.setCell ⟨g, i, none⟩ u) L q := by
  obtain ⟨g1, h0, h1, h2, h3, h4⟩ := h.head
  obtain ⟨ps, cells, h5, h6, h7, h8, h9, h10⟩ := h.atoms
  refine ⟨⟨g1, h0, h1, h2, h3, h4.far (blk_ne h4 hb (by decide)) u⟩, ⟨ps, cells, h5, h6.mono (fun cs p ⟨e1, e2⟩ => ⟨e1, e2.far (blk_ne e2 hb (by decide)) u⟩), h7, own_set h8 hb (by decide) i u, h9, h10⟩⟩
theorem blk_set3 {w : World} {g : Nat} {t : TypeId} {c0 c1 c2 : Value} (h : Blk w g t #[c0, c1, c2]) (x0 x1 x2 : Value) : Blk (((w.setCell ⟨g, 0, none⟩ x0).setCell ⟨g, 1, none⟩ x1).setCell ⟨g, 2, none⟩ x2) g t #[x0, x1, x2] := by
  have := ((h.set_ 0 x0).set_ 1 x1).set_ 2 x2
  simpa using this
theorem Copied.set3 {w0 w : World} {L : QLoc} {q : Qy} (h : Copied w0 w L q) {g : Nat} {cs : Array Value} (hb : Blk w g 25 cs) (x0 x1 x2 : Value) : Copied w0 (((w.setCell ⟨g, 0, none⟩ x0).setCell ⟨g, 1, none⟩ x1).setCell ⟨g, 2, none⟩ x2) L q :=
  ((h.set hb 0 x0).set (hb.set_ 0 x0) 1 x1).set ((hb.set_ 0 x0).set_ 1 x1) 2 x2
theorem Blk.far3 {w : World} {g k : Nat} {t : TypeId} {cs : Array Value} (h : Blk w g t cs) (hne : g ≠ k) (x0 x1 x2 : Value) : Blk (((w.setCell ⟨k, 0, none⟩ x0).setCell ⟨k, 1, none⟩ x1).setCell ⟨k, 2, none⟩ x2) g t cs :=
  ((h.far (p := ⟨k, 0, none⟩) hne x0).far (p := ⟨k, 1, none⟩) hne x1).far (p := ⟨k, 2, none⟩) hne x2
theorem Ext.set3 {a w : World} (h : Ext a w) {g : Nat} (hg : a.heap.size ≤ g) (x0 x1 x2 : Value) : Ext a (((w.setCell ⟨g, 0, none⟩ x0).setCell ⟨g, 1, none⟩ x1).setCell ⟨g, 2, none⟩ x2) :=
  ((h.setCell (p := ⟨g, 0, none⟩) hg x0).setCell (p := ⟨g, 1, none⟩) hg x1).setCell (p := ⟨g, 2, none⟩) hg x2

theorem layP_len (tl : List Atm) : ∀ (as_ : List Atm) (σ : Env) (l : List Nat), layP tl as_ σ = some l → l.length = as_.length
  | [], σ, l, h => by
    have : l = [] := by simpa [layP] using h.symm
    rw [this]; rfl
  | a :: rest, σ, l, h => by
    simp only [layP] at h
    obtain ⟨bj, _, h2⟩ := List.exists_of_findSome?_eq_some h
    split at h2
    · simp only [Option.map_eq_some_iff] at h2
      obtain ⟨l', h3, h4⟩ := h2
      rw [← h4, List.length_cons, List.length_cons, layP_len tl rest _ l' h3]
    · cases h2
theorem findR_len (f t : Qy) : (findR f t).1.length ≤ f.atoms.length := by
  unfold findR
  split
  · simp
  · split
    · rename_i l h
      exact Nat.le_of_eq (layP_len _ _ _ _ h)
    · simp

end Go.Proofs.Ytpfjkjmimmklcaa
