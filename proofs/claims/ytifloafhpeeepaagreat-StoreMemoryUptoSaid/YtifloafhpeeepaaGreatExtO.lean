/-
  A region that draws its order, in whatever line one likes: operations that yield one value in every world that meets St may be taken ahead, as soon as they are ready; the others when they are the only ones.
-/
import Derived.Test.YtifloafhpeeepaaGreatGbD
namespace Go.Proofs.YtifloafhpeeepaaGreat
open Go.RowKit

def ordB (md : Region.Mode) (ops : Array Oper) : List (Nat × Bool) → Array Bool → Bool
  | [], listed => (Region.ready md ops listed).isEmpty
  | (k, true) :: ks, listed => (Region.ready md ops listed).contains k && Region.free md ops listed k && ordB md ops ks (listed.setIfInBounds k true)
  | (k, false) :: ks, listed => decide (Region.ready md ops listed = [k]) && ordB md ops ks (listed.setIfInBounds k true)
def ordA (ops : Array Oper) (ks : List (Nat × Bool)) : Bool := decide (ks.length = ops.size) && Region.noSelect ops && ordB .any ops ks (Array.replicate ops.size false)
def wpO (P : Program) (ops : Array Oper) (Q : Exit → Act → World → Prop) (St : World → Prop) : List (Nat × Bool) → Act → World → Prop
  | [], a, w => Q .normal a w
  | (k, true) :: ks, a, w => ∃ o, ops[k]? = some o ∧ ∃ v, YieldsIf P ops St o v a ∧ ∀ K : Act → Prop, (∀ a, wpO P ops Q St ks a w → K a) → K (a.put o.dst v)
  | (k, false) :: ks, a, w => ∃ o, ops[k]? = some o ∧ wpList P ops (exL Q St (wpO P ops Q St ks)) [o] a w
section
variable {P : Program} {ops : Array Oper} {md : Region.Mode} {Q : Exit → Act → World → Prop} {St : World → Prop}
theorem wpAnyH_of_O (hQ : ∀ c (d : Tmp) v (a : Act) w, Q (.panic c) (a.put (some d) v) w → Q (.panic c) a w) (hns : Region.noSelect ops = true) :
    ∀ (ks : List (Nat × Bool)) (listed : Array Bool) (a : Act) (w : World), ordB md ops ks listed = true → St w → wpO P ops Q St ks a w → wpAnyH P md ops Q St ks.length listed a w
  | [], listed, a, w, hB, hS, h => by
    simp only [ordB, List.isEmpty_iff] at hB
    exact ⟨hB, h⟩
  | (k, true) :: ks, listed, a, w, hB, hS, ⟨o, h0, v, hv, h⟩ => by
    simp only [ordB, Bool.and_eq_true] at hB
    obtain ⟨⟨hr, hf⟩, hB'⟩ := hB
    exact wpAnyH_take h0 hns hf hr (fun c a w => by cases o.dst with | none => exact id | some d => exact hQ c d v a w) hv hS (wpAnyH_of_O hQ hns ks _ _ w hB' hS (h (fun a => wpO P ops Q St ks a w) fun a h => h))
  | (k, false) :: ks, listed, a, w, hB, hS, ⟨o, h0, h⟩ => by
    simp only [ordB, Bool.and_eq_true, decide_eq_true_eq] at hB
    refine wpAnyH_all hB.1 (by simp) fun i hi => ?_
    obtain rfl := List.mem_singleton.1 hi
    refine wpOp_mono (fun a2 w2 h5 => ⟨h5.1, ?_⟩) (wp_exL h h0)
    exact wpAnyH_of_O hQ hns ks _ _ w2 hB.2 h5.1 h5.2
theorem wp_region_ord {id : Nat} {a : Act} {w : World} {l : List Oper} (ks : List (Nat × Bool)) (St : World → Prop) (hm : P.follows .mixedOrders = true) (hB : ordA l.toArray ks = true) (hQ : ∀ c (d : Tmp) v (a : Act) w, Q (.panic c) (a.put (some d) v) w → Q (.panic c) a w) (hSt : ∀ w', Ext w w' → St w')
    (h : ∀ w', Ext w w' → wpO P l.toArray Q St ks a w') : (Code.region id l.toArray true).wp P Q a w := by
  simp only [ordA, Bool.and_eq_true, decide_eq_true_eq] at hB
  obtain ⟨⟨hlen, hns⟩, hB⟩ := hB
  refine wp_region_held (S := St) hm ?_
  have hw1 : Ext w { w with drawn := w.drawn + 1 } := Ext.drew w
  have h1 := wpAnyH_of_O hQ hns ks _ a _ hB (hSt _ hw1) (h _ hw1)
  rw [hlen] at h1
  exact h1
end
end Go.Proofs.YtifloafhpeeepaaGreat
