/-
  The document's Number and Show of a value.
-/
import Derived.Test.YtoahckibhmoikaaDoorShowR
namespace Go.Proofs.YtoahckibhmoikaaDoor
open Go.RowKit

theorem dec_len (n : Nat) (h : n < 18446744073709551616) : (Lib.decDigits n).length ≤ 20 := by rw [Lib.decDigits_length]; exact nDigits_le 19 n (by omega)
theorem itoa_len (n : Int) (h0 : -9223372036854775808 ≤ n) (h1 : n ≤ 9223372036854775807) : (Lib.itoa n).length ≤ 21 := by
  unfold Lib.itoa
  split
  · have := dec_len n.natAbs (by omega); rw [List.length_cons]; omega
  · have := dec_len n.toNat (by omega); omega

set_option maxHeartbeats 1000000 in
set_option maxRecDepth 100000 in
theorem ref_number (n : Int) (h0 : -9223372036854775808 ≤ n) (h1 : n ≤ 9223372036854775807) (w : World) : Calls Tryd.prog 61 #[.int .i64 n] w fun e w' => e = .returned (.string ⟨(Lib.itoa n).toArray⟩) ∧ Ext w w' := by
  go_enter Tryd.func61, Tryd.ntmps61
  by_cases h : n < 0
  · have hi := hide (show Lib.itoa n = 45 :: Lib.decDigits n.natAbs by rw [Lib.itoa, if_pos h])
    have HD := hide (ref_digits n.natAbs (by omega) w)
    have hl := dec_len n.natAbs (by omega)
    generalize Lib.decDigits n.natAbs = D at *
    obtain ⟨m, hm⟩ : ∃ m : Nat, m = n.natAbs := ⟨_, rfl⟩
    have hw1 : IntKind.u64.wrap n = n + 18446744073709551616 := by rw [IntKind.wrap_u64]; omega
    have hw2 : IntKind.u64.wrap (-(n + 18446744073709551616)) = (m : Int) := by rw [IntKind.wrap_u64]; omega
    have hw3 : IntKind.u64.wrap (-n) = (m : Int) := by rw [IntKind.wrap_u64]; omega
    rw [← hm] at HD
    have hszD : (⟨D.toArray⟩ : ByteArray).size ≤ 20 := by show D.toArray.size ≤ 20; rw [List.size_toArray]; omega
    clear hm
    go_wp2_with fail
    refine HD.out.mono ?_
    rintro e w1 ⟨rfl, x1⟩
    have X1 := hide x1; clear x1
    go_wp2_with fail
    go_ret
    exact ⟨by rw [hi.out]; exact congrArg (fun s => Ending.returned (.string s)) (bytes_append [45] D), X1.out⟩
  · have hi := hide (show Lib.itoa n = Lib.decDigits n.toNat by rw [Lib.itoa, if_neg h])
    have HD := hide (ref_digits n.toNat (by omega) w)
    obtain ⟨m, hm⟩ : ∃ m : Nat, m = n.toNat := ⟨_, rfl⟩
    have hw1 : IntKind.u64.wrap n = (m : Int) := by rw [IntKind.wrap_u64]; omega
    rw [← hm] at HD hi
    clear hm
    go_wp2_with fail
    refine HD.out.mono ?_
    rintro e w1 ⟨rfl, x1⟩
    have X1 := hide x1; clear x1
    go_wp2_with fail
    go_ret
    exact ⟨by rw [hi.out]; rfl, X1.out⟩

set_option maxHeartbeats 1000000 in
set_option maxRecDepth 100000 in
theorem ref_show (v : V) (w : World) (hs : v.t.size ≤ 1048576) (hv : validV v = true) (hi : -9223372036854775808 ≤ v.i ∧ v.i ≤ 9223372036854775807) :
    Calls Tryd.prog 44 #[v.val] w fun e w' => e = .returned (.string ⟨(valOut v).toArray⟩) ∧ Ext w w' := by
  obtain ⟨vk, vi, vt⟩ := v
  have H := hide (ref_val_valid ⟨vk, vi, vt⟩ (w.alloc (.cells #[.int .i64 vk, .int .i64 vi, .string vt] 54)) hs)
  have HE := hide (Ext.alloc w (.cells #[.int .i64 vk, .int .i64 vi, .string vt] 54))
  have hc := CellsAt.new w [.int .i64 vk, .int .i64 vi, .string vt] 54 (0, 0)
  have HV := hide hv
  obtain ⟨hi0, hi1⟩ := hi
  dsimp only at hi0 hi1 hs
  simp only [V.val] at *
  go_enter Tryd.func44, Tryd.ntmps44
  go_wp2_with fail
  refine H.out.mono ?_
  rintro e w1 ⟨rfl, h1⟩
  have c0 := h1.cell (hc 0 _ rfl)
  have c1 := h1.cell (hc 1 _ rfl)
  have c2 := h1.cell (hc 2 _ rfl)
  have E1 := hide (HE.out.trans h1); clear h1 hc H
  rw [hv]
  by_cases hk : vk = 1
  · have hVO := hide (show valOut ⟨vk, vi, vt⟩ = Lib.itoa vi by rw [valOut, if_pos hk])
    clear hv
    go_wp2_with fail
    refine (ref_number vi hi0 hi1 _).mono ?_
    rintro e w2 ⟨rfl, h2⟩
    have E2 := hide (E1.out.trans h2); clear h2
    go_wp2_with fail
    go_ret
    exact ⟨by rw [hVO.out]; rfl, E2.out⟩
  · have h64 : vt.size ≤ 64 := validV_text HV.out hk
    have gk : (vk == 1) = false := by simpa using hk
    have hVO := hide (show valOut ⟨vk, vi, vt⟩ = textOut vt.data.toList by rw [valOut, if_neg hk])
    have hz := hide (len_data vt)
    clear hv
    go_wp2_with fail
    go_loopw [3, 4] (fun s k w' => ∃ (i : Nat) (S : ByteArray), i ≤ vt.size ∧ k = .int .i64 i ∧ s = .string S ∧ S.size ≤ 1000 ∧ Hid (S = ⟨(34 :: (vt.data.toList.take i).flatMap byteOut).toArray⟩) ∧ Hid (Ext w1 w')) (fun _ k _ => vt.size - (intOf k).toNat)
    case atStart => exact ⟨0, _, by omega, rfl, rfl, by decide, rfl, Ext.refl _⟩
    case round =>
      obtain ⟨i, S, hin, rfl, rfl, hS, hs, hx⟩ := hrel
      have d2 := hx.out.cell c2
      by_cases h : i < vt.size
      · have hg := hide (byte_get vt i h)
        have hb4 := byteOut_len vt[i]
        have hcat := hide (show (S ++ ⟨(byteOut vt[i]).toArray⟩ : ByteArray) = ⟨(34 :: (vt.data.toList.take (i + 1)).flatMap byteOut).toArray⟩ by
          rw [hs.out, bytes_append, flat_take _ i _ hg.out]; rfl)
        have hsz : (S ++ ⟨(byteOut vt[i]).toArray⟩ : ByteArray).size ≤ 1000 := by
          rw [hcat.out]; show (34 :: (vt.data.toList.take (i + 1)).flatMap byteOut).toArray.size ≤ 1000
          rw [List.size_toArray, List.length_cons]; have := flat_take_len vt.data.toList (i + 1) (by omega); omega
        have hszB : (⟨(byteOut vt[i]).toArray⟩ : ByteArray).size ≤ 4 := by show (byteOut vt[i]).toArray.size ≤ 4; rw [List.size_toArray]; exact hb4
        have HB := hide (ref_byte vt[i] wr)
        generalize (⟨(byteOut vt[i]).toArray⟩ : ByteArray) = T at *
        go_wp2_with fail
        refine HB.out.mono ?_
        rintro e w3 ⟨rfl, x3⟩
        have X3 := hide (hx.out.trans x3); clear x3
        go_wp2_with fail
        go_roundw
        case rel => exact ⟨i + 1, _, by omega, by go_num, rfl, hsz, hcat.out, X3.out⟩
        case measure => simp [intOf]; omega
      · have hie : i = vt.size := by omega
        subst hie
        have hcat := hide (show (S ++ ⟨#[34]⟩ : ByteArray) = ⟨(textOut vt.data.toList).toArray⟩ by
          have h1 := hs.out; rw [← hz.out, List.take_length] at h1
          rw [h1]; exact bytes_append (34 :: vt.data.toList.flatMap byteOut) [34])
        go_wp2_with fail
        go_ret
        exact ⟨by rw [hVO.out, ← hcat.out]; rfl, E1.out.trans hx.out⟩
end Go.Proofs.YtoahckibhmoikaaDoor
