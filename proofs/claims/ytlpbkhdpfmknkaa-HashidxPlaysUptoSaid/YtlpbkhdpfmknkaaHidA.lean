/-
  hashidx: awake.
-/
import Derived.Test.YtlpbkhdpfmknkaaHidV
import Derived.Lib.SlBytesConst
namespace Go.Proofs.Ytlpbkhdpfmknkaa
open Go.RowKit

theorem HIx.ext {w w' : World} {B : Nat → Prop} {x most probes : Nat} {E : List (List UInt8 × Int)} (h : HIx w B x most probes E) (hw : Ext w w') : HIx w' B x most probes E := by
  obtain ⟨tb, T, Ks, hI, hr⟩ := h.at_
  exact ⟨⟨tb, T, Ks, hI.ext hw, hr⟩, h.most, fun b hb => Nat.lt_of_lt_of_le (h.old b hb) hw.size⟩
theorem HIx.aside {w : World} {B : Nat → Prop} {x most probes : Nat} {E : List (List UInt8 × Int)} (h : HIx w B x most probes E) {b off : Nat} (hb : w.heap.size ≤ b) : Aside B (some ⟨b, off, none⟩) := fun a ha hB => by
  injection ha with ha
  subst ha
  have := h.old _ hB
  dsimp only at this
  omega
def kObj : Obj := .cells #[.int .u8 107] 5 (1, 2)
theorem k_at (w : World) : KeyAt (w.alloc kObj) (some ⟨w.heap.size, 0, none⟩) 1 [107] := by
  refine ⟨rfl, fun _ => ⟨w.heap.size, 0, rfl, fun j u hu => ?_⟩⟩
  have := cell_of_row (w.alloc kObj) w.heap.size j #[.int .u8 107] 5 (1, 2) (heap_alloc_new w _)
  rw [Nat.zero_add, this]
  simpa [bytC] using hu
theorem k_conv (w : World) : (convert 30 30 (.slice (some ⟨w.heap.size, 0, none⟩) 1 1)).run Try.prog (w.alloc (.cells #[.int .u8 107] 5)) = .ok (.slice (some ⟨w.heap.size, 0, none⟩) 1 1) (w.alloc kObj) :=
  Lib.run_convert_bytes_const w _ _ #[.int .u8 107] 1 1 Try.underlying30 Try.underlying5
set_option maxRecDepth 100000 in
theorem awake_hid (w : World) : Calls Try.prog 7 #[] w fun e w' => e = .returned (.bool true) ∧ Ext w w' := by
  have HN := hide (new_good 1 w (by omega) (by omega))
  go_enter Try.func7, Try.ntmps7
  go_wp2_with fail
  refine HN.out.mono ?_
  rintro e w1 ⟨x, rfl, h1, x1⟩
  have H1 := hide h1; have X1 := hide x1; clear h1 x1
  have hcv := k_conv w1
  have HK := hide (k_at w1)
  have HX4 := hide (Ext.alloc w1 kObj)
  have HP := hide (put_any (H1.out.ext HX4.out) (by omega) [107] 9 _ 1 1 (k_at w1) (H1.out.aside (Nat.le_refl _)) (by omega))
  go_wp2_with fail
  refine HP.out.mono ?_
  rintro e w2 ⟨old, had, err, E', B', rfl, hr, h2, hB, hC⟩
  obtain rfl : E' = [([107], 9)] := by
    rcases hr with ⟨h, _⟩ | ⟨_, _, _, R, h, _⟩ | ⟨_, _, h, _⟩ | ⟨_, _, _, _, _, _, h⟩
    · simp at h
    · have := h.length_eq
      simp at this
    · simp at h
    · exact h
  have hB2 : ∀ b, B' b → w.heap.size ≤ b := fun b hb => by
    rcases hB b hb with h | h
    · exact h.1
    · have := X1.out.size
      have := HX4.out.size
      omega
  have X2 := hide (hC.ext (X1.out.trans HX4.out) (fun g hg => hg.1))
  have H2 := hide h2; have HB2 := hide hB2
  clear hr h2 hB hC hB2 HP HK hcv
  have HX5 := hide (Ext.alloc w2 kObj)
  have HG := hide (get_any (H2.out.ext HX5.out) (by omega) [107] _ 1 1 (k_at w2) (H2.out.aside (Nat.le_refl _)) (by omega))
  have hcv := k_conv w2
  go_wp2_with fail
  refine HG.out.mono ?_
  rintro e w3 ⟨r, rfl, hr, h3, hC⟩
  obtain rfl : r = some 9 := by
    cases r with
    | none => exact absurd (List.mem_singleton.2 rfl) (hr.2 rfl 9)
    | some v =>
      have := List.mem_singleton.1 (hr.1 v rfl)
      injection this with _ h
      rw [h]
  have X3 := hide (hC.ext (X2.out.trans HX5.out) HB2.out)
  have H3 := hide h3
  clear hr h3 hC HG hcv
  have HL := hide (len_any H3.out)
  have HQ := hide (probes_any H3.out)
  go_wp2_with (first | ((with_reducible refine HL.out.mono ?_); rintro e w4 ⟨rfl, rfl⟩) | ((with_reducible refine HQ.out.mono ?_); rintro e w5 ⟨rfl, rfl⟩))
  go_ret
  exact ⟨rfl, X3.out⟩
end Go.Proofs.Ytlpbkhdpfmknkaa
