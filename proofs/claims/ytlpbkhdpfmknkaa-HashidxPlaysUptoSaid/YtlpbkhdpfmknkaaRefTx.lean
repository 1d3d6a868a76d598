/-
  The document's order of texts.
-/
import Derived.Test.YtlpbkhdpfmknkaaHidX
import Derived.Test.YtlpbkhdpfmknkaaOrd
namespace Go.Proofs.Ytlpbkhdpfmknkaa
open Go.RowKit

theorem cb_drop (a b : List UInt8) (i : Nat) (x y : UInt8) (hx : a[i]? = some x) (hy : b[i]? = some y) : Lib.compareBytes (a.drop i) (b.drop i) = if (x.toNat : Int) < (y.toNat : Int) then -1 else if (y.toNat : Int) < (x.toNat : Int) then 1 else Lib.compareBytes (a.drop (i + 1)) (b.drop (i + 1)) := by
  rw [List.getElem?_eq_some_iff] at hx hy
  obtain ⟨hx, ex⟩ := hx
  obtain ⟨hy, ey⟩ := hy
  rw [List.drop_eq_getElem_cons hx, List.drop_eq_getElem_cons hy, ex, ey]
  have h1 : (x < y) ↔ ((x.toNat : Int) < y.toNat) := by rw [UInt8.lt_iff_toNat_lt]; omega
  have h2 : (y < x) ↔ ((y.toNat : Int) < x.toNat) := by rw [UInt8.lt_iff_toNat_lt]; omega
  simp only [Lib.compareBytes, h1, h2]
theorem cb_end (a b : List UInt8) (i : Nat) (h : a.length ≤ i ∨ b.length ≤ i) (h2 : i ≤ a.length ∧ i ≤ b.length) : Lib.compareBytes (a.drop i) (b.drop i) = if a.length < b.length then -1 else if b.length < a.length then 1 else 0 := by
  rcases h with h | h
  · rw [List.drop_of_length_le h]
    by_cases h3 : i < b.length
    · rw [List.drop_eq_getElem_cons h3, if_pos (by omega)]; rfl
    · rw [List.drop_of_length_le (by omega), if_neg (by omega), if_neg (by omega)]; rfl
  · rw [List.drop_of_length_le h]
    by_cases h3 : i < a.length
    · rw [List.drop_eq_getElem_cons h3, if_neg (by omega), if_pos (by omega)]; rfl
    · rw [List.drop_of_length_le (by omega), if_neg (by omega), if_neg (by omega)]; rfl

theorem byte_get (s : ByteArray) (i : Nat) (h : i < s.size) : s.data.toList[i]? = some s[i] := by
  rw [List.getElem?_eq_getElem (by rw [Array.length_toList]; exact h)]; rfl
theorem len_data (s : ByteArray) : s.data.toList.length = s.size := Array.length_toList

set_option maxRecDepth 100000 in
theorem ref_texts (a b : ByteArray) (w : World) (ha : a.size ≤ 1048576) (hb : b.size ≤ 1048576) : Calls Try.prog 45 #[.string a, .string b] w fun e w' => e = .returned (.int .i64 (cmpB a b)) ∧ Ext w w' := by
  go_enter Try.func45, Try.ntmps45
  go_wp2
  go_loopw [4, 5] (fun _ k w' => ∃ i : Nat, i ≤ a.size ∧ i ≤ b.size ∧ k = .int .i64 i ∧ Hid (cmpB a b = Lib.compareBytes (a.data.toList.drop i) (b.data.toList.drop i)) ∧ Hid (Ext w w')) (fun _ k _ => a.size - (intOf k).toNat)
  case atStart => exact ⟨0, by omega, by omega, rfl, rfl, Ext.refl _⟩
  case round =>
    obtain ⟨i, hia, hib, rfl, ho, hw⟩ := hrel
    by_cases h1 : i < a.size
    · by_cases h2 : i < b.size
      · have hd := hide (cb_drop _ _ i _ _ (byte_get a i h1) (byte_get b i h2))
        by_cases h3 : (a[i].toNat : Int) < (b[i].toNat : Int)
        · go_wp2_with fail
          refine wp_region_ext 7 (by kernel_rfl) (by kernel_rfl) (by kernel_rfl) ?_
          iterate 7
            refine wpE_k (by kernel_rfl) (by kernel_rfl) ?_
            apply Exists.intro
            refine ⟨fun w1 hw1 => ?_, fun K hK => ?_⟩
            · go_simp; first | done | rfl
            go_simp; refine hK _ _ ?_; clear hK K
          refine wpE_nil ⟨rfl, by kernel_rfl, fun wq hwq => ?_⟩
          simp only [EndQ]
          refine wpList_nil ?_
          have E1 := hide (hw.out.trans hwq); clear hwq
          go_wp2_with fail
          go_ret
          exact ⟨ret_int (by rw [ho.out, hd.out, if_pos (by omega)]), E1.out⟩
        · by_cases h4 : (b[i].toNat : Int) < (a[i].toNat : Int)
          · go_wp2_with fail
            refine wp_region_ext 7 (by kernel_rfl) (by kernel_rfl) (by kernel_rfl) ?_
            iterate 7
              refine wpE_k (by kernel_rfl) (by kernel_rfl) ?_
              apply Exists.intro
              refine ⟨fun w1 hw1 => ?_, fun K hK => ?_⟩
              · go_simp; first | done | rfl
              go_simp; refine hK _ _ ?_; clear hK K
            refine wpE_nil ⟨rfl, by kernel_rfl, fun wq hwq => ?_⟩
            simp only [EndQ]
            refine wpList_nil ?_
            have E1 := hide (hw.out.trans hwq); clear hwq
            go_wp2_with fail
            refine wp_region_ext 7 (by kernel_rfl) (by kernel_rfl) (by kernel_rfl) ?_
            iterate 7
              refine wpE_k (by kernel_rfl) (by kernel_rfl) ?_
              apply Exists.intro
              refine ⟨fun w1 hw1 => ?_, fun K hK => ?_⟩
              · go_simp; first | done | rfl
              go_simp; refine hK _ _ ?_; clear hK K
            refine wpE_nil ⟨rfl, by kernel_rfl, fun wq hwq => ?_⟩
            simp only [EndQ]
            refine wpList_nil ?_
            have E2 := hide (E1.out.trans hwq); clear hwq
            go_wp2_with fail
            go_ret
            exact ⟨ret_int (by rw [ho.out, hd.out, if_neg (by omega), if_pos (by omega)]), E2.out⟩
          · go_wp2_with fail
            refine wp_region_ext 7 (by kernel_rfl) (by kernel_rfl) (by kernel_rfl) ?_
            iterate 7
              refine wpE_k (by kernel_rfl) (by kernel_rfl) ?_
              apply Exists.intro
              refine ⟨fun w1 hw1 => ?_, fun K hK => ?_⟩
              · go_simp; first | done | rfl
              go_simp; refine hK _ _ ?_; clear hK K
            refine wpE_nil ⟨rfl, by kernel_rfl, fun wq hwq => ?_⟩
            simp only [EndQ]
            refine wpList_nil ?_
            have E1 := hide (hw.out.trans hwq); clear hwq
            go_wp2_with fail
            refine wp_region_ext 7 (by kernel_rfl) (by kernel_rfl) (by kernel_rfl) ?_
            iterate 7
              refine wpE_k (by kernel_rfl) (by kernel_rfl) ?_
              apply Exists.intro
              refine ⟨fun w1 hw1 => ?_, fun K hK => ?_⟩
              · go_simp; first | done | rfl
              go_simp; refine hK _ _ ?_; clear hK K
            refine wpE_nil ⟨rfl, by kernel_rfl, fun wq hwq => ?_⟩
            simp only [EndQ]
            refine wpList_nil ?_
            have E2 := hide (E1.out.trans hwq); clear hwq
            go_wp2_with fail
            go_roundw
            case rel => exact ⟨i + 1, by omega, by omega, by go_num, by rw [Hid, ho.out, hd.out, if_neg (by omega), if_neg (by omega)], E2.out⟩
            case measure => simp [intOf]; omega
      · have hd := hide (cb_end a.data.toList b.data.toList i (.inr (by rw [len_data]; omega)) (by rw [len_data, len_data]; exact ⟨hia, hib⟩))
        have h3 : b.size < a.size := by omega
        have h4 : ¬ a.size < b.size := by omega
        go_wp2_with fail
        go_ret
        exact ⟨ret_int (by rw [ho.out, hd.out, len_data, len_data, if_neg (by omega), if_pos (by omega)]), hw.out⟩
    · have hd := hide (cb_end a.data.toList b.data.toList i (.inl (by rw [len_data]; omega)) (by rw [len_data, len_data]; exact ⟨hia, hib⟩))
      by_cases h3 : a.size < b.size
      · go_wp2_with fail
        go_ret
        exact ⟨ret_int (by rw [ho.out, hd.out, len_data, len_data, if_pos (by omega)]), hw.out⟩
      · have h4 : ¬ b.size < a.size := by omega
        go_wp2_with fail
        go_ret
        exact ⟨ret_int (by rw [ho.out, hd.out, len_data, len_data, if_neg (by omega), if_neg (by omega)]), hw.out⟩

end Go.Proofs.Ytlpbkhdpfmknkaa
