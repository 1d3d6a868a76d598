/-
  hashidx: awake.
-/
import Derived.Test.YtifloafhpeeepaaGreatGaI
import Derived.Lib.SlBytesConst
namespace Go.Proofs.YtifloafhpeeepaaGreat
open Go.RowKit

theorem HIx.ext {w w' : World} {B : Nat → Prop} {x most probes : Nat} {E : List (List UInt8 × Int)} (h : HIx w B x most probes E) (hw : Ext w w') : HIx w' B x most probes E := by
  obtain ⟨tb, T, Ks, hI, hr⟩ := h.at_
  exact ⟨⟨tb, T, Ks, hI.ext hw, hr⟩, h.most, fun b hb => Nat.lt_of_lt_of_le (h.old b hb) hw.size⟩
theorem HIx.aside {w : World} {B : Nat → Prop} {x most probes : Nat} {E : List (List UInt8 × Int)} (h : HIx w B x most probes E) {b off : Nat} (hb : w.heap.size ≤ b) : Aside B (some ⟨b, off, none⟩) := fun a ha hB => by
  injection ha with ha
  subst ha
  have := h.old _ hB
  dsimp only at this
  omega
def kObj : Obj := .cells #[.int .u8 107] 5 (1, 2)
theorem k_at (w : World) : KeyAt (w.alloc kObj) (some ⟨w.heap.size, 0, none⟩) 1 [107] := by
  refine ⟨rfl, fun _ => ⟨w.heap.size, 0, rfl, fun j u hu => ?_⟩⟩
  have := cell_of_row (w.alloc kObj) w.heap.size j #[.int .u8 107] 5 (1, 2) (heap_alloc_new w _)
  rw [Nat.zero_add, this]
  simpa [bytC] using hu
theorem k_conv (w : World) : (convert 88 88 (.slice (some ⟨w.heap.size, 0, none⟩) 1 1)).run Tryz.prog (w.alloc (.cells #[.int .u8 107] 5)) = .ok (.slice (some ⟨w.heap.size, 0, none⟩) 1 1) (w.alloc kObj) :=
  Lib.run_convert_bytes_const w _ _ #[.int .u8 107] 1 1 Tryz.underlying88 Tryz.underlying5
end Go.Proofs.YtifloafhpeeepaaGreat
