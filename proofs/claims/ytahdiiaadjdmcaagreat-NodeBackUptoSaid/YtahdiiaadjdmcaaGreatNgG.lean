/-
  node: its stores.
  node: one thing is done with all stores.
  node: the mark.
-/
import Derived.Test.YtahdiiaadjdmcaaGreatNgF
import Derived.ArgAppend
import Derived.Test.YtahdiiaadjdmcaaGreatStoZ
import Derived.MapKept
namespace Go.Proofs.YtahdiiaadjdmcaaGreat
open Go.RowKit

/-- but the live rows' -/
def othersN (K : NK) (v : NdV) : List Nat := if K.kind = 3 then [v.x2, v.x3] else []
def allN (K : NK) (v : NdV) : List Nat := othersN K v ++ [v.x1]
def StsIs (b : Nat) (xs : List Nat) (u : Value) (w : World) : Prop := (xs = [] ∧ u = .slice none 0 0) ∨ (xs ≠ [] ∧ ∃ g, b ≤ g ∧ u = .slice (some ⟨g, 0, none⟩) xs.length xs.length ∧ Blk w g 88 (ptrC xs).toArray)
theorem StsIs.ext {b : Nat} {xs : List Nat} {u : Value} {w w' : World} (h : StsIs b xs u w) (hw : Ext w w') : StsIs b xs u w' := by
  rcases h with h | ⟨h, g, hg, e, hb⟩
  · exact .inl h
  · exact .inr ⟨h, g, hg, e, hb.ext hw⟩
theorem StsIs.base {b c : Nat} {xs : List Nat} {u : Value} {w : World} (h : StsIs c xs u w) (hb : b ≤ c) : StsIs b xs u w := by
  rcases h with h | ⟨h, g, hg, e, hb2⟩
  · exact .inl h
  · exact .inr ⟨h, g, by omega, e, hb2⟩
section
variable {w : World} {lab : Lab} {K : NK} {v : NdV} {a : NAbs} {N : Nat}
def RowSt (b : Nat) (xs : List Nat) (u : Value) (w : World) : Prop := ∃ A c, u = .slice A xs.length c ∧ w.ownsRow b 88 1 (.slice A xs.length c) xs.length (ptrC xs)
theorem RowSt.ext {b : Nat} {xs : List Nat} {u : Value} {w w' : World} (h : RowSt b xs u w) (hw : Ext w w') : RowSt b xs u w' := by
  obtain ⟨A, c, e, h⟩ := h
  exact ⟨A, c, e, mine_ext h hw⟩
end
end Go.Proofs.YtahdiiaadjdmcaaGreat

namespace Go.Proofs.YtahdiiaadjdmcaaGreat
open Go.RowKit

/-- a node whose stores may stand apart -/
structure NdO (w : World) (lab : Lab) (K : NK) (v : NdV) (a : NAbs) (T : Nat → SAbs) (N : Nat) : Prop where
  lt : ∀ b i, lab b = some i → b < w.heap.size
  p0 : npart w (lab.own 0) K v a N 0
  s1 : StI w (lab.own 1) v.x1 (T 1) N
  s2 : K.kind = 3 → StI w (lab.own 2) v.x2 (T 2) N
  s3 : K.kind = 3 → StI w (lab.own 3) v.x3 (T 3) N
  p4 : npart w (lab.own 4) K v a N 4
  p5 : npart w (lab.own 5) K v a N 5
def tof (K : NK) (a : NAbs) : Nat → SAbs := fun j => if j = 1 then S1 K a else if j = 2 then S2 K a else S3 K a
theorem NdO.shut {w : World} {lab : Lab} {K : NK} {v : NdV} {a a' : NAbs} {T : Nat → SAbs} {N : Nat} (h : NdO w lab K v a T N) (h1 : T 1 = S1 K a') (h2 : K.kind = 3 → T 2 = S2 K a') (h3 : K.kind = 3 → T 3 = S3 K a') (h4 : npart w (lab.own 4) K v a' N 4) (h5 : npart w (lab.own 5) K v a' N 5) : NdQ w lab K v a' (S1 K a') N := by
  refine ⟨⟨h.lt, fun i => ?_⟩, h1 ▸ h.s1⟩
  match i with
  | 0 => exact h.p0
  | 1 => exact trivial
  | 2 => exact fun hk => h2 hk ▸ h.s2 hk
  | 3 => exact fun hk => h3 hk ▸ h.s3 hk
  | 4 => exact h4
  | 5 => exact h5
  | _ + 6 => exact trivial
theorem NdO.chg {w w' : World} {C : Nat → Prop} {lab : Lab} {K : NK} {v : NdV} {a : NAbs} {T : Nat → SAbs} {N : Nat} (h : NdO w lab K v a T N) (hw : Chg C w w') (hC : ∀ g, lab.dom g → ¬ C g) : NdO w' lab K v a T N :=
  ⟨fun b i hb => Nat.lt_of_lt_of_le (h.lt b i hb) hw.size, npart_chg hw (fun g hg => hC g ⟨0, hg⟩) 0 h.p0, h.s1.chg hw fun g hg => hC g ⟨1, hg⟩, fun hk => (h.s2 hk).chg hw fun g hg => hC g ⟨2, hg⟩, fun hk => (h.s3 hk).chg hw fun g hg => hC g ⟨3, hg⟩, npart_chg hw (fun g hg => hC g ⟨4, hg⟩) 4 h.p4, npart_chg hw (fun g hg => hC g ⟨5, hg⟩) 5 h.p5⟩
theorem NdO.ext {w w' : World} {lab : Lab} {K : NK} {v : NdV} {a : NAbs} {T : Nat → SAbs} {N : Nat} (h : NdO w lab K v a T N) (hw : Ext w w') : NdO w' lab K v a T N := h.chg (C := fun _ => False) (Chg.of hw) fun _ _ x => x
theorem NdO.more {w : World} {lab : Lab} {K : NK} {v : NdV} {a : NAbs} {T : Nat → SAbs} {N M : Nat} (h : NdO w lab K v a T N) (hM : N ≤ M) : NdO w lab K v a T M :=
  ⟨h.lt, h.p0, h.s1.more hM, fun hk => (h.s2 hk).more hM, fun hk => (h.s3 hk).more hM, npart_mono (fun _ h => h) hM 4 h.p4, npart_mono (fun _ h => h) hM 5 h.p5⟩
def updT (T : Nat → SAbs) (j : Nat) (S : SAbs) : Nat → SAbs := fun i => if i = j then S else T i
theorem lab_turn {w w' : World} {lab : Lab} (hlt : ∀ b i, lab b = some i → b < w.heap.size) (j : Nat) {B' : Nat → Prop} (hB : ∀ b, B' b → lab.own j b ∨ w.heap.size ≤ b) (hl : ∀ b, B' b → b < w'.heap.size) (hC : Chg (lab.own j) w w') :
    ∃ lab' : Lab, (∀ b i, lab' b = some i → b < w'.heap.size) ∧ (∀ b, B' b → lab'.own j b) ∧ (∀ i, i ≠ j → lab'.own i = lab.own i) ∧ Step w lab w' lab' := by
  have hlt2 : ∀ b i, lab.grow w.heap.size j B' b = some i → b < w'.heap.size := fun b i hb => by
    unfold Lab.grow at hb
    split at hb
    · have := hC.size; omega
    · split at hb
      · exact hl b (by assumption)
      · cases hb
  refine ⟨lab.grow w.heap.size j B', hlt2, fun b hb => ?_, fun i hi => ?_, fun b hb => ?_, hC.mono fun g hg _ => ⟨j, hg⟩⟩
  · show lab.grow w.heap.size j B' b = some j
    unfold Lab.grow
    rcases hB b hb with h1 | h1
    · rw [if_pos (hlt b _ h1)]; exact h1
    · rw [if_neg (by omega), if_pos hb]
  · funext b
    unfold Lab.own Lab.grow
    apply propext
    split
    · exact Iff.rfl
    · split
      · constructor
        · intro h1; injection h1 with h1; exact absurd h1.symm hi
        · intro h1; have := hlt b _ h1; omega
      · constructor
        · intro h1; cases h1
        · intro h1; have := hlt b _ h1; omega
  · obtain ⟨i, hi⟩ := hb
    unfold Lab.grow at hi
    split at hi
    · exact .inl ⟨i, hi⟩
    · right; omega
def ptrX (v : NdV) (j : Nat) : Nat := if j = 1 then v.x1 else if j = 2 then v.x2 else v.x3
theorem NdO.sti {w : World} {lab : Lab} {K : NK} {v : NdV} {a : NAbs} {T : Nat → SAbs} {N : Nat} (h : NdO w lab K v a T N) {j : Nat} (hj : j = 1 ∨ (K.kind = 3 ∧ (j = 2 ∨ j = 3))) : StI w (lab.own j) (ptrX v j) (T j) N := by
  rcases hj with rfl | ⟨hk, rfl | rfl⟩
  · exact h.s1
  · exact h.s2 hk
  · exact h.s3 hk
/-- one store's call -/
theorem NdO.call {w w' : World} {lab : Lab} {K : NK} {v : NdV} {a : NAbs} {T : Nat → SAbs} {N M : Nat} (h : NdO w lab K v a T N) {j : Nat} (hj : j = 1 ∨ (K.kind = 3 ∧ (j = 2 ∨ j = 3))) (hM : N ≤ M) {S' : SAbs} (hs : StS w (lab.own j) (ptrX v j) S' M w') : ∃ lab', NdO w' lab' K v a (updT T j S') M ∧ Step w lab w' lab' := by
  obtain ⟨B', h1, h2, h3, h4⟩ := hs
  obtain ⟨lab', r1, r2, r3, r4⟩ := lab_turn h.lt j h2 h3 h4
  have hj0 : 0 ≠ j := by omega
  have hj4 : 4 ≠ j := by omega
  have hj5 : 5 ≠ j := by omega
  have hst : ∀ i, (i = 1 ∨ (K.kind = 3 ∧ (i = 2 ∨ i = 3))) → StI w' (lab'.own i) (ptrX v i) (updT T j S' i) M := fun i hi => by
    unfold updT
    by_cases e : i = j
    · subst e
      rw [if_pos rfl]
      exact h1.mono r2
    · rw [if_neg e, r3 i e]
      exact ((h.sti hi).chg h4 (own_apart e)).more hM
  refine ⟨lab', ⟨r1, ?_, hst 1 (.inl rfl), fun hk => hst 2 (.inr ⟨hk, .inl rfl⟩), fun hk => hst 3 (.inr ⟨hk, .inr rfl⟩), ?_, ?_⟩, r4⟩
  · rw [r3 0 hj0]; exact npart_chg h4 (own_apart hj0) 0 h.p0
  · rw [r3 4 hj4]; exact npart_mono (fun _ h => h) hM 4 (npart_chg h4 (own_apart hj4) 4 h.p4)
  · rw [r3 5 hj5]; exact npart_mono (fun _ h => h) hM 5 (npart_chg h4 (own_apart hj5) 5 h.p5)
/-- the stores' places in all() -/
def idxN (K : NK) (i : Nat) : Nat := if K.kind = 3 then if i = 0 then 2 else if i = 1 then 3 else 1 else 1
/-- so many stores are done -/
def doneT (K : NK) (f : SAbs → SAbs) (T : Nat → SAbs) : Nat → Nat → SAbs
  | 0 => T
  | i + 1 => updT (doneT K f T i) (idxN K i) (f (T (idxN K i)))
end Go.Proofs.YtahdiiaadjdmcaaGreat

namespace Go.Proofs.YtahdiiaadjdmcaaGreat
open Go.RowKit

def beginN (a : NAbs) : NAbs × Int := match a.old with
  | none => (⟨a.now, some a.now⟩, 0)
  | some _ => (a, 64)
def commitN (a : NAbs) : NAbs × Int := match a.old with
  | none => (a, 65)
  | some _ => (⟨a.now, none⟩, 0)
def rollN (a : NAbs) : NAbs × Int := match a.old with
  | none => (a, 65)
  | some o => (⟨o, none⟩, 0)
theorem ta_meet_trim (v : Value) (w : World) : (Instr.typeAssert (.iface 105 v) 46 91 true).run Tryz.prog w = .ok (.tuple #[.pointer none, .bool false]) w := by kernel_rfl
theorem ta_meet_leaf (v : Value) (w : World) : (Instr.typeAssert (.iface 117 v) 46 91 true).run Tryz.prog w = .ok (.tuple #[.pointer none, .bool false]) w := by kernel_rfl
theorem ta_meet_yes (v : Value) (w : World) : (Instr.typeAssert (.iface 91 v) 46 91 true).run Tryz.prog w = .ok (.tuple #[v, .bool true]) w := by kernel_rfl
theorem ta_meet {K : NK} (hK : NKOk K) (v : Value) (w : World) : (Instr.typeAssert (.iface (workT K) v) 46 91 true).run Tryz.prog w = .ok (.tuple #[if K.kind = 3 then v else .pointer none, .bool (decide (K.kind = 3))]) w := by
  unfold workT
  rcases hK.kind with hk | hk | hk
  · rw [if_neg (by omega), if_neg (by omega), if_neg (by omega), decide_eq_false (by omega)]; exact ta_meet_leaf v w
  · rw [if_pos hk, if_neg (by omega), decide_eq_false (by omega)]; exact ta_meet_trim v w
  · rw [if_neg (by omega), if_pos hk, if_pos hk, decide_eq_true hk]; exact ta_meet_yes v w
/-- one block is another part's -/
def relab (lab : Lab) (g j : Nat) : Lab := fun b => if b = g then some j else lab b
end Go.Proofs.YtahdiiaadjdmcaaGreat
