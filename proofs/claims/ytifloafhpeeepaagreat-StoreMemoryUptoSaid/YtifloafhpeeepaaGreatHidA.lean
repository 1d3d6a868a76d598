/-
  hashidx: awake.
-/
import Derived.Test.YtifloafhpeeepaaGreatGaI
import Derived.Lib.SlBytesConst
namespace Go.Proofs.YtifloafhpeeepaaGreat
open Go.RowKit

theorem HIx.ext {w w' : World} {B : Nat → Prop} {x most probes : Nat} {E : List (List UInt8 × Int)} (h : HIx w B x most probes E) (hw : Ext w w') : HIx w' B x most probes E := by
  obtain ⟨tb, T, Ks, hI, hr⟩ := h.at_
  exact ⟨⟨tb, T, Ks, hI.ext hw, hr⟩, h.most, fun b hb => Nat.lt_of_lt_of_le (h.old b hb) hw.size⟩
theorem HIx.aside {w : World} {B : Nat → Prop} {x most probes : Nat} {E : List (List UInt8 × Int)} (h : HIx w B x most probes E) {b off : Nat} (hb : w.heap.size ≤ b) : Aside B (some ⟨b, off, none⟩) := fun a ha hB => by
  injection ha with ha
  subst ha
  have := h.old _ hB
  dsimp only at this
  omega
def kObj : Obj := .cells #[.int .u8 107] 5 (1, 2)
end Go.Proofs.YtifloafhpeeepaaGreat
