/-
  The document's Pack.
-/
import Derived.Test.YtoahckibhmoikaaDoorPack
namespace Go.Proofs.YtoahckibhmoikaaDoor
open Go.RowKit

theorem be_byte (N s dn : Nat) (d : Int) (h2 : 2 ^ s = dn) (h1 : (dn : Int) = d) : Value.int .u8 ((N : Int) / d % 256) = .int .u8 ((UInt8.ofNat (N / 2 ^ s)).toNat : Int) := by
  subst h1; rw [h2]
  have e : ((UInt8.ofNat (N / dn)).toNat : Int) = ((N / dn % 256 : Nat) : Int) := by rw [UInt8.toNat_ofNat']
  rw [e, Int.natCast_emod, Int.natCast_ediv]; rfl
set_option maxRecDepth 100000 in
theorem be_cells {i : Int} (h : -9223372036854775808 ≤ i ∧ i ≤ 9223372036854775807) : (#[.int .u8 1, .int .u8 (IntKind.u64.wrap (IntKind.u64.wrap i + 9223372036854775808) / 72057594037927936 % 256), .int .u8 (IntKind.u64.wrap (IntKind.u64.wrap i + 9223372036854775808) / 281474976710656 % 256), .int .u8 (IntKind.u64.wrap (IntKind.u64.wrap i + 9223372036854775808) / 1099511627776 % 256), .int .u8 (IntKind.u64.wrap (IntKind.u64.wrap i + 9223372036854775808) / 4294967296 % 256), .int .u8 (IntKind.u64.wrap (IntKind.u64.wrap i + 9223372036854775808) / 16777216 % 256), .int .u8 (IntKind.u64.wrap (IntKind.u64.wrap i + 9223372036854775808) / 65536 % 256), .int .u8 (IntKind.u64.wrap (IntKind.u64.wrap i + 9223372036854775808) / 256 % 256), .int .u8 (IntKind.u64.wrap (IntKind.u64.wrap i + 9223372036854775808) % 256)] : Array Value) = (bcells (1 :: be64 (bias i))).toArray := by
  have e : IntKind.u64.wrap (IntKind.u64.wrap i + 9223372036854775808) = (bias i : Int) := by rw [wrapN_eq i]; exact bias_add h
  have e0 := be_byte (bias i) 0 1 1 rfl rfl
  rw [Int.ediv_one] at e0
  rw [e, be_byte _ 56 72057594037927936 72057594037927936 (by decide) rfl, be_byte _ 48 281474976710656 281474976710656 (by decide) rfl, be_byte _ 40 1099511627776 1099511627776 (by decide) rfl, be_byte _ 32 4294967296 4294967296 (by decide) rfl, be_byte _ 24 16777216 16777216 (by decide) rfl, be_byte _ 16 65536 65536 (by decide) rfl, be_byte _ 8 256 256 (by decide) rfl, e0]
  rfl

set_option maxRecDepth 100000 in
set_option maxHeartbeats 1000000 in
theorem ref_pack (r : List V) (A : Option Addr) (n c : Nat) (w : World) (ha : RowAt w A n r) (hn : n ≤ 1048576) (hs : smallR r) (hw : wfR r) :
    Calls Tryd.prog 26 #[.slice A n c] w (RetBytesErr w (packRes r)) := by
  have Ha := hide ha; have hl := hide ha.len
  have HV := hide (ref_valid r A n c w ha hn hs)
  have Hw := hide hw
  clear ha hs hw
  by_cases h30 : n ≤ 30
  rotate_left
  · go_enter Tryd.func26, Tryd.ntmps26
    go_wp2_with fail
    go_ret2
    exact ⟨none, 0, by rw [packRes, if_pos (by have := hl.out; omega)]; rfl, by rw [packRes, if_pos (by have := hl.out; omega)]; exact ownsNilB _ _, Ext.refl _⟩
  by_cases hv : validR r = true
  rotate_left
  · have hv : validR r = false := by simpa using hv
    have Hv := hide hv; clear hv
    go_enter Tryd.func26, Tryd.ntmps26
    go_wp2_with fail
    refine HV.out.mono ?_
    rintro e w1 ⟨rfl, h1⟩
    have E1 := hide h1; clear h1
    rw [Hv.out]
    go_wp2_with fail
    go_ret2
    exact ⟨none, 0, by rw [packRes, if_neg (by have := hl.out; omega), if_neg (by rw [Hv.out]; simp)]; rfl, by rw [packRes, if_neg (by have := hl.out; omega), if_neg (by rw [Hv.out]; simp)]; exact ownsNilB _ _, E1.out⟩
  have Hv := hide hv
  have Hall := hide (show r.all validV = true by simp [validR] at hv; simpa using hv.2); clear hv
  go_enter Tryd.func26, Tryd.ntmps26
  go_wp2_with fail
  refine HV.out.mono ?_
  rintro e w1 ⟨rfl, h1⟩
  have E1 := hide h1; clear h1 HV
  rw [Hv.out]
  go_wp2_with fail
  go_loopw [4, 5, 6, 7] (fun b k _ _ w' => ∃ (i l : Nat) (A' : Option Addr) (c' : Nat), i ≤ n ∧ k = .int .i64 i ∧ b = .slice A' l c' ∧ l ≤ 131 * i ∧ Hid (OwnB w w' A' l c' (packR (r.take i))) ∧ Hid (Ext w w')) (fun _ k _ _ _ => n - (intOf k).toNat)
  case atStart => exact ⟨0, 0, none, 0, by omega, rfl, rfl, by omega, ⟨rfl, ownsNilB _ _⟩, E1.out⟩
  case round =>
    obtain ⟨i, l, A', c', hin, rfl, rfl, hll, ho, hw1⟩ := hrel
    by_cases h : i < n
    · obtain ⟨b0, off, v, rfl, hx, hb1, d0, d1, d2⟩ := Ha.out.get h
      have D1 := hide d1; have D2 := hide d2; clear d1 d2
      have hi0 : (0 : Int) ≤ (i : Int) := by omega
      have hi1 : (i : Int) < (n : Int) := by omega
      have hwfv := hide (Hw.out v (List.mem_of_getElem? hx))
      have hlen3 := hide (packR_len _ (take_all Hall.out (i + 1)))
      have hval := all_get Hall.out hx
      have hsn := hide (packR_snoc (r.take i) v)
      have htk := hide (take_snoc'' r i v hx); clear hx
      replace d0 := hw1.out.cell d0
      rcases packV_head v hval with ⟨hk, hp⟩ | ⟨hk, hp, ht⟩
      · have Hk := hide hk; have Hp := hide hp; clear hk hp hval
        obtain ⟨vk, vi, vt⟩ := v
        obtain rfl : vk = 1 := Hk.out
        have d1 := hw1.out.cell D1.out
        have hs1 := bytes_lit wr (1 :: be64 (bias vi)) 5 wr.heap.size rfl
        rw [← be_cells hwfv.out.2] at hs1
        have hs1 := hide hs1
        go_wp2_with (at_builtin; refine app_bytes rfl (.tmp 33) (.tmp 57) rfl w (hw1.out.trans (Ext.alloc _ _)) _ l _ (packR (r.take i)) rfl ⟨ho.out.1, ho.out.2.alloc _⟩ _ 9 9 (1 :: be64 (bias vi)) rfl hs1.out (by omega) ?_; intro A4 c4 w4 own4 E4 K4)
        go_roundw
        case rel =>
          have fin : packR (r.take (i + 1)) = packR (r.take i) ++ 1 :: be64 (bias vi) := by rw [htk.out, hsn.out, Hp.out]
          have h9 := own4.out; rw [← fin] at h9
          exact ⟨i + 1, l + 9, A4, c4, by omega, by go_num, rfl, by have := h9.1; have := hlen3.out; have := List.length_take_le (i + 1) r; omega, h9, E4.out⟩
        case measure => simp [intOf]; omega
      · have Hk := hide hk; have Hp := hide hp; have Ht := hide ht; clear hk hp ht hval
        have hs1 := hide (bytes_lit wr [2] 5 wr.heap.size rfl)
        obtain ⟨vk, vi, vt⟩ := v
        obtain rfl : vk = 2 := Hk.out
        go_wp2_with (at_builtin; refine app_bytes rfl (.tmp 59) (.tmp 60) rfl w (hw1.out.trans (Ext.alloc _ _)) _ l _ (packR (r.take i)) rfl ⟨ho.out.1, ho.out.2.alloc _⟩ _ 1 1 [2] rfl hs1.out (by omega) ?_; intro A8 c8 w8 own8 E8 K8; clear hs1 K8 d0)
        go_loopw [4, 7] (fun b k w' => ∃ (j l' : Nat) (A' : Option Addr) (c' : Nat), j ≤ vt.size ∧ k = .int .i64 j ∧ b = .slice A' l' c' ∧ l' ≤ l + 1 + 2 * j ∧ Hid (OwnB w w' A' l' c' (packR (r.take i) ++ 2 :: esc (vt.data.toList.take j))) ∧ Hid (Ext w w')) (fun _ k _ => vt.size - (intOf k).toNat)
        case atStart => exact ⟨0, l + 1, A8, c8, by omega, rfl, rfl, by omega, own8.out, E8.out⟩
        case round =>
          obtain ⟨j, l3, A3, c3, hj, rfl, rfl, hl3, ho3, hw3⟩ := hrel
          have e2 := hw3.out.cell D2.out
          have hts := hide Ht.out
          by_cases h2 : j < vt.size
          · have htj := hide (bytes_take vt j h2)
            have hs1 := hide (bytes_lit wr [vt[j]] 5 wr.heap.size rfl)
            have hts' := Ht.out
            have hj0 : (0 : Int) ≤ (j : Int) := by omega
            have hj1 : (j : Int) < (vt.size : Int) := by omega
            by_cases hz : (vt[j].toNat : Int) = 0
            · have hz' := hide hz
              have hs1 := hide (Sl.cast hs1.out (y := .int .u8 0) (congrArg (Value.int .u8) hz.symm))
              go_wp2_with (at_builtin; first
                | (refine app_bytes rfl (.tmp 72) (.tmp 80) rfl w (hw3.out.trans (Ext.alloc _ _)) _ l3 _ _ rfl ⟨ho3.out.1, ho3.out.2.alloc _⟩ _ 1 1 [_] rfl hs1.out (by have := hts.out; omega) ?_; intro A4 c4 w4 own4 E4 K4; clear K4; have e3 := E4.out.cell D2.out; have hs5 := hide (bytes_lit w4 [255] 5 w4.heap.size rfl))
                | (refine app_bytes rfl (.tmp 90) (.tmp 91) rfl w (E4.out.trans (Ext.alloc _ _)) _ (l3 + 1) _ _ rfl ⟨own4.out.1, own4.out.2.alloc _⟩ _ 1 1 [255] rfl hs5.out (by have := hts.out; omega) ?_; intro A6 c6 w6 own6 E6 K6; clear K6))
              go_roundw
              case rel =>
                have fin : packR (r.take i) ++ 2 :: esc (vt.data.toList.take (j + 1)) = packR (r.take i) ++ 2 :: esc (vt.data.toList.take j) ++ [vt[j]] ++ [255] := by
                  have h0 : vt[j] = 0 := UInt8.toNat_inj.1 (by have := hz'.out; show _ = 0; omega)
                  rw [htj.out, esc_append, h0]; simp [esc]
                have h9 := own6.out; rw [← fin] at h9
                exact ⟨j + 1, l3 + 1 + 1, A6, c6, by omega, by go_num, rfl, by omega, h9, E6.out⟩
              case measure => simp [intOf]; omega
            · have hz' := hide hz
              go_wp2_with (at_builtin; refine app_bytes rfl (.tmp 72) (.tmp 80) rfl w (hw3.out.trans (Ext.alloc _ _)) _ l3 _ _ rfl ⟨ho3.out.1, ho3.out.2.alloc _⟩ _ 1 1 [_] rfl hs1.out (by have := hts.out; omega) ?_; intro A4 c4 w4 own4 E4 K4; clear K4; have e3 := E4.out.cell D2.out)
              go_roundw
              case rel =>
                have fin : packR (r.take i) ++ 2 :: esc (vt.data.toList.take (j + 1)) = packR (r.take i) ++ 2 :: esc (vt.data.toList.take j) ++ [vt[j]] := by
                  have h0 : ¬ vt[j] = 0 := fun e => hz'.out (by rw [e]; rfl)
                  rw [htj.out, esc_append]; simp [esc, h0]
                have h9 := own4.out; rw [← fin] at h9
                exact ⟨j + 1, l3 + 1, A4, c4, by omega, by go_num, rfl, by omega, h9, E4.out⟩
              case measure => simp [intOf]; omega
          · have hs1 := hide (bytes_lit wr [0, 0] 5 wr.heap.size rfl)
            go_wp2_with (at_builtin; refine app_bytes rfl (.tmp 93) (.tmp 94) rfl w (hw3.out.trans (Ext.alloc _ _)) _ l3 _ _ rfl ⟨ho3.out.1, ho3.out.2.alloc _⟩ _ 2 2 [0, 0] rfl hs1.out (by have := hts.out; omega) ?_; intro A4 c4 w4 own4 E4 K4)
            go_roundw
            case rel =>
              have fin : packR (r.take (i + 1)) = packR (r.take i) ++ 2 :: esc (vt.data.toList.take j) ++ [0, 0] := by
                rw [htk.out, hsn.out, Hp.out, List.take_of_length_le (l := vt.data.toList) (by rw [len_data]; omega)]; simp
              have h9 := own4.out; rw [← fin] at h9
              exact ⟨i + 1, l3 + 2, A4, c4, by omega, by go_num, rfl, by have := h9.1; have := hlen3.out; have := List.length_take_le (i + 1) r; omega, h9, E4.out⟩
            case measure => simp [intOf]; omega
    · go_wp2_with fail
      go_ret2
      have e : packR (r.take i) = packR r := by rw [List.take_of_length_le (by have := hl.out; omega)]
      have h9 := ho.out; rw [e] at h9
      have ep : packRes r = (packR r, 0) := by rw [packRes, if_neg (by have := hl.out; omega), if_pos Hv.out]
      rw [ep]
      obtain ⟨h10, h11⟩ := h9
      subst h10
      exact ⟨A', c', rfl, h11, hw1.out⟩
end Go.Proofs.YtoahckibhmoikaaDoor
