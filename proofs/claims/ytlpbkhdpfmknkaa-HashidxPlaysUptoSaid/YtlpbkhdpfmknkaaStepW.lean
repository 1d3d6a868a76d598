/-
  hashidx: one step of a play.
-/
import Derived.Test.YtlpbkhdpfmknkaaStepP
namespace Go.Proofs.Ytlpbkhdpfmknkaa
open Go.RowKit

/-- behind a step -/
def StepPost (w : World) (B R : Nat → Prop) (x d most p : Nat) (e : Ending) (w' : World) : Prop :=
  ∃ (B' R' : Nat → Prop) (p' : Nat), e = .returned (.bool true) ∧ p' ≤ p + 1 ∧ Two w' B' R' x d most p' ∧ (∀ g, B' g ∨ R' g → (B g ∨ R g) ∨ w.heap.size ≤ g) ∧ Chg (fun g => B g ∨ R g) w w'
/-- in the midst of a step: the calls are made -/
def StepMid (w : World) (B R : Nat → Prop) (x d most p kb : Nat) (key : ByteArray) (w' : World) : Prop :=
  ∃ (B' R' : Nat → Prop) (p' : Nat), p' ≤ p + 1 ∧ Two w' B' R' x d most p' ∧ (∀ g, B' g ∨ R' g → (B g ∨ R g) ∨ kb < g) ∧ Chg (fun g => B g ∨ R g) w w' ∧ ByAt w' kb (keyOf key) ∧ w.heap.size ≤ kb ∧ w'.cell? ⟨w.heap.size, 2, none⟩ = some (.string key) ∧ w.heap.size ≠ kb
theorem ByAt.far {w w' : World} {C : Nat → Prop} {g : Nat} {k : List UInt8} (h : ByAt w g k) (hc : Chg C w w') (hg : ¬ C g) : ByAt w' g k := by
  obtain ⟨cs, h1, h2, h3⟩ := h
  exact ⟨cs, (hc.block g (Array.getElem?_eq_some_iff.1 h1).1 hg).trans h1, h2, h3⟩
/-- some bytes lie there -/
def WrAt (w : World) (g n : Nat) : Prop := ∃ cs : Array Value, w.heap[g]? = some (.cells cs 5 (cs.size, cs.size + 1)) ∧ n ≤ cs.size ∧ ∀ j, j < n → ∃ z : Int, cs[j]? = some (.int .u8 z)
theorem ByAt.wr {w : World} {g : Nat} {k : List UInt8} (h : ByAt w g k) : WrAt w g k.length := by
  obtain ⟨cs, h1, h2, h3⟩ := h
  exact ⟨cs, h1, h2, fun j hj => ⟨_, h3 j (.int .u8 (k[j].toNat : Int)) (by simp [bytC, hj])⟩⟩
theorem WrAt.get {w : World} {g n : Nat} (h : WrAt w g n) {j : Nat} (hj : j < n) : ∃ z : Int, w.cell? ⟨g, j, none⟩ = some (.int .u8 z) ∧ w.frozen? ⟨g, j, none⟩ = false ∧ ∀ u : Int, WrAt (w.setCell ⟨g, j, none⟩ (.int .u8 u)) g n := by
  obtain ⟨cs, h1, h2, h3⟩ := h
  obtain ⟨z, hz⟩ := h3 j hj
  refine ⟨z, (cell_of_row w g j cs _ _ h1).trans hz, ?_, fun u => ⟨cs.setIfInBounds j (.int .u8 u), ?_, by simpa using h2, fun i hi => ?_⟩⟩
  · simp only [World.frozen?, h1]
    simp
    omega
  · simp [World.setCell, Array.getElem?_modify, h1]
  · by_cases hji : j = i
    · subst hji
      exact ⟨u, Array.getElem?_setIfInBounds_self_of_lt (by omega)⟩
    · obtain ⟨z, hz⟩ := h3 i hi
      exact ⟨z, by rw [Array.getElem?_setIfInBounds_ne hji]; exact hz⟩
theorem StepMid.done {w w5 w' : World} {B R : Nat → Prop} {x d most p kb : Nat} {key : ByteArray} (h : StepMid w B R x d most p kb key w5) (hold : ∀ g, B g ∨ R g → g < w.heap.size) (hc : Chg (fun g => g = kb) w5 w') : StepPost w B R x d most p (.returned (.bool true)) w' := by
  obtain ⟨B', R', p', h1, h2, h3, h4, _, h5, _⟩ := h
  refine ⟨B', R', p', rfl, h1, h2.far hc fun g hg e => ?_, fun g hg => (h3 g hg).imp id fun h => by omega, h4.trans hc fun g hg hl => ?_⟩
  · rcases h3 g hg with h6 | h6
    · have := hold g h6
      omega
    · omega
  · omega
theorem StepMid.start {w w1 w2 : World} {B R : Nat → Prop} {x d most p kb : Nat} {key : ByteArray} (h : Two w B R x d most p) (h1 : Ext w w1) (h2 : Ext w1 w2) (hk : ByAt w2 kb (keyOf key)) (hw : w.heap.size < kb) (hb : w1.cell? ⟨w.heap.size, 2, none⟩ = some (.string key)) : StepMid w B R x d most p kb key w2 :=
  ⟨B, R, p, by omega, h.ext (h1.trans h2), fun g hg => .inl hg, Chg.of (h1.trans h2), hk, by omega, h2.cell hb, by omega⟩
/-- Put at both -/
theorem StepMid.put {w w3 w4 w5 : World} {B R B' R' : Nat → Prop} {x d most p p' kb : Nat} {key : ByteArray} {E' : List (List UInt8 × Int)} {A' M' : Option Addr} {a' m' : Nat} {L' : List ByteArray} {N' : List Int} (hp : p' ≤ p + 1)
    (hold : ∀ g, B g ∨ R g → g < w.heap.size) (h0 : Ext w w3) (hx : HIx w4 B' x most p' E') (hB : ∀ b, B' b → B b ∨ w3.heap.size ≤ b) (hC : Chg B w3 w4)
    (hd : RIx w5 R' d most p' A' a' M' m' L' N') (hR : ∀ b, R' b → R b ∨ w4.heap.size ≤ b) (hC2 : Chg R w4 w5) (hg : Agree E' L' N') (hdis : ∀ g, B g → ¬ R g) (hk : ByAt w3 kb (keyOf key)) (hw : w.heap.size < kb) (hkl : kb < w3.heap.size) (hb : w3.cell? ⟨w.heap.size, 2, none⟩ = some (.string key)) : StepMid w B R x d most p kb key w5 := by
  have hnB : ∀ g, w.heap.size ≤ g → ¬ B g := fun g hg hb => by have := hold g (.inl hb); omega
  have hnR : ∀ g, w.heap.size ≤ g → ¬ R g := fun g hg hb => by have := hold g (.inr hb); omega
  have hsz := h0.size
  have hsz2 := hC.size
  refine ⟨B', R', p', hp, ⟨E', A', a', M', m', L', N', hx.far hC2 fun g hg hr => ?_, hd, hg, fun g hg hr => ?_⟩, fun g hg => ?_, ?_, (hk.far hC (hnB kb (by omega))).far hC2 (hnR kb (by omega)), by omega, hC2.cell (hC.cell hb (hnB _ (Nat.le_refl _))) (hnR _ (Nat.le_refl _)), by omega⟩
  · rcases hB g hg with h1 | h1
    · exact hdis g h1 hr
    · have := hold g (.inr hr); omega
  · rcases hB g hg with h1 | h1
    · rcases hR g hr with h2 | h2
      · exact hdis g h1 h2
      · have := hold g (.inl h1); omega
    · rcases hR g hr with h2 | h2
      · have := hold g (.inr h2); omega
      · have := hx.old g hg; omega
  · rcases hg with h1 | h1
    · exact (hB g h1).imp .inl fun h => by omega
    · exact (hR g h1).imp .inr fun h => by omega
  · exact ((Chg.of h0).trans (B := fun g => B g ∨ R g) hC fun g hg _ => .inl hg).trans hC2 fun g hg _ => .inr hg
end Go.Proofs.Ytlpbkhdpfmknkaa
