/-
  A region that draws its order, in one line: each operation either yields one value in every world that meets St (and may be taken as soon as it is ready), or it is, when its turn comes, the only one that is ready.
-/
import Derived.Test.YtifloafhpeeepaaGreatExtZ
namespace Go.Proofs.YtifloafhpeeepaaGreat
open Go.RowKit

def exL (Q : Exit → Act → World → Prop) (St : World → Prop) (K : Act → World → Prop) : Exit → Act → World → Prop
  | .normal, a, w => St w ∧ K a w
  | .panic c, a, w => Q (.panic c) a w
  | e, a, w => Q e a w
def lineB (md : Region.Mode) (ops : Array Oper) : List Bool → Nat → Array Bool → Bool
  | [], _, listed => (Region.ready md ops listed).isEmpty
  | true :: ks, k, listed => (Region.ready md ops listed).contains k && Region.free md ops listed k && lineB md ops ks (k + 1) (listed.setIfInBounds k true)
  | false :: ks, k, listed => decide (Region.ready md ops listed = [k]) && lineB md ops ks (k + 1) (listed.setIfInBounds k true)
def lineA (ops : Array Oper) (ks : List Bool) : Bool := decide (ks.length = ops.size) && Region.noSelect ops && (ops.all fun o => o.guard.isNone) && lineB .any ops ks 0 (Array.replicate ops.size false)
def wpL (P : Program) (ops : Array Oper) (Q : Exit → Act → World → Prop) (St : World → Prop) : List Bool → List Oper → Act → World → Prop
  | [], [], a, w => Q .normal a w
  | true :: ks, o :: l, a, w => ∃ v, (∀ w, St w → (execOp a.eval o).run P w = .ok (.value v) w) ∧ ∀ K : Act → Prop, (∀ a, wpL P ops Q St ks l a w → K a) → K (a.put o.dst v)
  | false :: ks, o :: l, a, w => wpList P ops (exL Q St (wpL P ops Q St ks l)) [o] a w
  | _, _, _, _ => False
section
variable {P : Program} {ops : Array Oper} {md : Region.Mode} {Q : Exit → Act → World → Prop} {St : World → Prop}
theorem wp_exL {o : Oper} {a : Act} {w : World} {K : Act → World → Prop} (h : wpList P ops (exL Q St K) [o] a w) {i : Nat} (hi : ops[i]? = some o) : wpOp P ops Q i (fun a w => St w ∧ K a w) a w := by
  unfold wpOp
  simp only [hi]
  unfold wpList at h
  split
  · rename_i hw
    rw [if_pos hw] at h
    exact h
  · rename_i hw
    rw [if_neg hw] at h
    exact h
theorem wpAnyH_of_L (hQ : ∀ c (d : Tmp) v (a : Act) w, Q (.panic c) (a.put (some d) v) w → Q (.panic c) a w) (hns : Region.noSelect ops = true) (hgd : (ops.all fun o => o.guard.isNone) = true) :
    ∀ (ks : List Bool) (l : List Oper) (k : Nat) (listed : Array Bool) (a : Act) (w : World), (∀ j, l[j]? = ops[k + j]?) → lineB md ops ks k listed = true → St w → wpL P ops Q St ks l a w → wpAnyH P md ops Q St ks.length listed a w
  | [], [], k, listed, a, w, hl, hB, hS, h => by
    simp only [lineB, List.isEmpty_iff] at hB
    exact ⟨hB, h⟩
  | true :: ks, o :: l, k, listed, a, w, hl, hB, hS, ⟨v, hv, h⟩ => by
    have h0 : ops[k]? = some o := by simpa using (hl 0).symm
    simp only [lineB, Bool.and_eq_true] at hB
    obtain ⟨⟨hr, hf⟩, hB'⟩ := hB
    have hg : o.guard.isNone = true := Array.all_eq_true_iff_forall_mem.1 hgd o (Array.mem_of_getElem? h0)
    have hg' : o.guard = none := by cases h1 : o.guard with | none => rfl | some _ => rw [h1] at hg; cases hg
    exact wpAnyH_take h0 hns hf hr (fun c a w => by cases o.dst with | none => exact id | some d => exact hQ c d v a w) (.inl ⟨by simp [Region.wanted, hg'], fun w hw => hv w hw⟩) hS (wpAnyH_of_L hQ hns hgd ks l (k + 1) _ _ w (fun j => by have := hl (j + 1); simpa [Nat.add_assoc, Nat.add_comm 1 j] using this) hB' hS (h (fun a => wpL P ops Q St ks l a w) fun a h => h))
  | false :: ks, o :: l, k, listed, a, w, hl, hB, hS, h => by
    have h0 : ops[k]? = some o := by simpa using (hl 0).symm
    simp only [lineB, Bool.and_eq_true, decide_eq_true_eq] at hB
    refine wpAnyH_all hB.1 (by simp) fun i hi => ?_
    obtain rfl := List.mem_singleton.1 hi
    refine wpOp_mono (fun a2 w2 h5 => ⟨h5.1, ?_⟩) (wp_exL h h0)
    exact wpAnyH_of_L hQ hns hgd ks l (i + 1) _ _ w2 (fun j => by have := hl (j + 1); simpa [Nat.add_assoc, Nat.add_comm 1 j] using this) hB.2 h5.1 h5.2
  | [], _ :: _, _, _, _, _, _, _, _, h => h.elim
  | true :: _, [], _, _, _, _, _, _, _, h => h.elim
  | false :: _, [], _, _, _, _, _, _, _, h => h.elim
theorem wp_region_line {id : Nat} {a : Act} {w : World} {l : List Oper} (ks : List Bool) (St : World → Prop) (hm : P.follows .mixedOrders = true) (hB : lineA l.toArray ks = true) (hQ : ∀ c (d : Tmp) v (a : Act) w, Q (.panic c) (a.put (some d) v) w → Q (.panic c) a w) (hSt : ∀ w', Ext w w' → St w')
    (h : ∀ w', Ext w w' → wpL P l.toArray Q St ks l a w') : (Code.region id l.toArray true).wp P Q a w := by
  simp only [lineA, Bool.and_eq_true, decide_eq_true_eq] at hB
  obtain ⟨⟨⟨hlen, hns⟩, hgd⟩, hB⟩ := hB
  refine wp_region_held (S := St) hm ?_
  have hw1 : Ext w { w with drawn := w.drawn + 1 } := Ext.drew w
  have h1 := wpAnyH_of_L hQ hns hgd ks l 0 _ a _ (fun j => by simp) hB (hSt _ hw1) (h _ hw1)
  rw [hlen] at h1
  exact h1
end
end Go.Proofs.YtifloafhpeeepaaGreat
