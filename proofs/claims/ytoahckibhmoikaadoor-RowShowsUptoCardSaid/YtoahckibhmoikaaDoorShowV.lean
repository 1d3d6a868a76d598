/-
  value.Show: what it writes of every valid value.
-/
import Derived.Test.YtoahckibhmoikaaDoorShowB
import Derived.Test.YtoahckibhmoikaaDoorRefCmp
import Derived.Lib.AppendIntMem
namespace Go.Proofs.YtoahckibhmoikaaDoor
open Go.RowKit

theorem ext_grown (w : World) (k : Nat) (os : Array Obj) : Ext w (Go.Sort.grow (w.drewN k) os) :=
  ⟨rfl, rfl, rfl, by simp [Go.Sort.grow, World.drewN], fun g hg => by simp only [Go.Sort.grow, World.drewN]; rw [Array.getElem?_append_left hg]⟩
abbrev TabW (w : World) : Prop := Lib.TabIs Tryd.prog w "internal/strconv.uint64pow10" .u64 Lib.pow10Tab
theorem TabW.ext {w w' : World} (h : TabW w) (hw : Ext w w') : TabW w' := Lib.tabBelow_of_tabIs h w' hw

def textOut (t : List UInt8) : List UInt8 := 34 :: (t.flatMap byteOut ++ [34])
def valOut (v : V) : List UInt8 := if v.k = 1 then Lib.itoa v.i else textOut v.t.data.toList
theorem flat_take (t : List UInt8) (i : Nat) (c : UInt8) (h : t[i]? = some c) : (t.take (i + 1)).flatMap byteOut = (t.take i).flatMap byteOut ++ byteOut c := by
  rw [List.take_add_one, h]; simp
theorem flat_len (t : List UInt8) : (t.flatMap byteOut).length ≤ 4 * t.length := by
  induction t with
  | nil => simp
  | cons a t ih => have := byteOut_len a; simp only [List.flatMap_cons, List.length_append, List.length_cons]; omega
theorem flat_take_len (t : List UInt8) (i : Nat) (h : i ≤ 64) : ((t.take i).flatMap byteOut).length ≤ 256 := by
  have := flat_len (t.take i); rw [List.length_take] at this; omega

theorem validV_text {v : V} (h : validV v = true) (hk : v.k ≠ 1) : v.t.size ≤ 64 := by
  unfold validV at h
  rw [if_neg hk] at h
  split at h
  · split at h
    · have := of_decide_eq_true h; omega
    · cases h
  · cases h

set_option maxHeartbeats 1000000 in
set_option maxRecDepth 100000 in
theorem val_show (v : V) (w : World) (hs : v.t.size ≤ 1048576) (hv : validV v = true) (hi : -9223372036854775808 ≤ v.i ∧ v.i ≤ 9223372036854775807) (ht : TabW w) :
    Calls Tryd.prog 42 #[v.val] w fun e w' => e = .returned (.string ⟨(valOut v).toArray⟩) ∧ Ext w w' := by
  obtain ⟨vk, vi, vt⟩ := v
  have H := hide (val_valid ⟨vk, vi, vt⟩ (w.alloc (.cells #[.int .i64 vk, .int .i64 vi, .string vt] 54)) hs)
  have HE := hide (Ext.alloc w (.cells #[.int .i64 vk, .int .i64 vi, .string vt] 54))
  have hc := CellsAt.new w [.int .i64 vk, .int .i64 vi, .string vt] 54 (0, 0)
  have HT := hide ht
  have HV := hide hv
  obtain ⟨hi0, hi1⟩ := hi
  dsimp only at hi0 hi1 hs
  simp only [V.val] at *
  clear ht
  go_enter Tryd.func42, Tryd.ntmps42
  go_wp2_with fail
  refine H.out.mono ?_
  rintro e w1 ⟨rfl, h1⟩
  have c0 := h1.cell (hc 0 _ rfl)
  have c1 := h1.cell (hc 1 _ rfl)
  have c2 := h1.cell (hc 2 _ rfl)
  have E1 := hide (HE.out.trans h1); clear h1 hc H
  have HT1 := hide (HT.out.ext E1.out)
  rw [hv]
  by_cases hk : vk = 1
  · have hVO := hide (show valOut ⟨vk, vi, vt⟩ = Lib.itoa vi by rw [valOut, if_pos hk])
    clear hv
    go_wp2_with fail
    refine (Tryd.strconv_FormatInt_10 vi hi0 hi1 _ HT1.out).mono ?_
    rintro e w2 ⟨rfl, k, os, h2⟩
    have E2 : Hid (Ext w w2) := hide (E1.out.trans (by rw [h2]; exact ext_grown w1 k os)); clear h2
    go_wp2_with fail
    go_ret
    exact ⟨by rw [hVO.out]; rfl, E2.out⟩
  · have h64 : vt.size ≤ 64 := validV_text HV.out hk
    have gk : (vk == 1) = false := by simpa using hk
    have hVO := hide (show valOut ⟨vk, vi, vt⟩ = textOut vt.data.toList by rw [valOut, if_neg hk])
    have HF := hide (Lib.fresh_isBuilder 75 5 w1)
    have HX := hide (Ext.alloc w1 (.cells #[.pointer none, .slice none 0 0] 75))
    clear hv
    go_wp2_with fail
    refine (write_at w1 w1.heap.size [] 34 34 _ k34 HF.out (by simp) HX.out).mono ?_
    rintro e w2 ⟨rfl, h2, x2⟩
    have B2 := hide h2; have X2 := hide x2
    have d2 := x2.cell c2
    clear h2 x2
    go_wp2_with fail
    have B2 : Hid (BAt w1 w1.heap.size (Lib.byteCells (34 :: (vt.data.toList.take 0).flatMap byteOut)) w2) := B2
    have hz := hide (len_data vt)
    go_loopw [4, 18] (fun _ k w' => ∃ i : Nat, i ≤ vt.size ∧ k = .int .i64 i ∧ Hid (BAt w1 w1.heap.size (Lib.byteCells (34 :: (vt.data.toList.take i).flatMap byteOut)) w') ∧ Hid (Ext w1 w')) (fun _ k _ => vt.size - (intOf k).toNat)
    case atStart => exact ⟨0, by omega, rfl, B2, X2⟩
    case round =>
      obtain ⟨i, hin, rfl, hb, hx⟩ := hrel
      by_cases h : i < vt.size
      · have hg := hide (byte_get vt i h)
        have d3 := hx.out.cell c2
        go_wp2_with fail
        refine (show_byte w1 w1.heap.size _ vt[i] _ hb.out ?_ hx.out).mono ?_
        · have := flat_take_len vt.data.toList i (by omega); rw [List.length_cons]; omega
        rintro e w3 ⟨rfl, h3, x3⟩
        have B3 := hide h3; have X3 := hide x3; clear h3 x3
        go_wp2_with fail
        go_roundw
        case rel => exact ⟨i + 1, by omega, by go_num, by rw [Hid, flat_take _ i _ hg.out]; exact B3.out, X3.out⟩
        case measure => simp [intOf]; omega
      · have hie : i = vt.size := by omega
        subst hie
        have B4 : Hid (BAt w1 w1.heap.size (Lib.byteCells (34 :: vt.data.toList.flatMap byteOut)) wr) := by
          have := hb.out; rw [← hz.out, List.take_length] at this; exact this
        go_wp2_with fail
        refine (write_at w1 w1.heap.size _ 34 34 _ k34 B4.out ?_ hx.out).mono ?_
        · have := flat_len vt.data.toList; rw [List.length_cons]; have := hz.out; omega
        rintro e w3 ⟨rfl, h3, x3⟩
        have B3 := hide h3; have X3 := hide x3; clear h3 x3
        go_wp2_with fail
        refine (Tryd.Builder_String_any w1.heap.size w1.heap.size _ _ B3.out X3.out.size).mono ?_
        rintro e w4 ⟨rfl, h4⟩
        have E4 := hide (E1.out.trans (below_trans X3.out h4)); clear h4
        go_wp2_with fail
        go_ret
        exact ⟨by rw [hVO.out]; rfl, E4.out⟩
end Go.Proofs.YtoahckibhmoikaaDoor
