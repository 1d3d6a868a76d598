/-
  The document's Byte, Digits, Number and Show of a value.
-/
import Derived.Test.YtoahckibhmoikaaDoorShowV
import Derived.StillTailTactics
import Derived.IntWalk
import Derived.Laws.IdiomStrings
namespace Go.Proofs.YtoahckibhmoikaaDoor
open Go.RowKit

theorem bytes_strA (w : World) (T : TypeId) (l : List UInt8) (c : Nat) : (convert 38 9 (.slice (some ⟨w.heap.size, 0, none⟩) l.length c)).run Tryd.prog (w.alloc (.cells (Lib.byteCells l).toArray T)) = .ok (.string ⟨l.toArray⟩) (w.alloc (.cells (Lib.byteCells l).toArray T)) := by
  refine run_convert_bytes_back _ _ _ 5 ⟨w.heap.size, 0, none⟩ c l Tryd.underlying38 Tryd.underlying5 Tryd.underlying9 fun j hj => ?_
  rw [add_flat, Nat.zero_add]
  have := (Blk.new w T (Lib.byteCells l).toArray).cell j
  rw [this]
  simp [Lib.byteCells, List.getElem?_eq_getElem hj]

theorem bytes_str1 (w : World) (c : UInt8) : (convert 38 9 (.slice (some ⟨w.heap.size, 0, none⟩) 1 1)).run Tryd.prog (w.alloc (.cells #[.int .u8 (c.toNat : Int)] 5)) = .ok (.string ⟨#[c]⟩) (w.alloc (.cells #[.int .u8 (c.toNat : Int)] 5)) := bytes_strA w 5 [c] 1
theorem bytes_str2 (w : World) (c d : UInt8) : (convert 38 9 (.slice (some ⟨w.heap.size, 0, none⟩) 2 2)).run Tryd.prog (w.alloc (.cells #[.int .u8 (c.toNat : Int), .int .u8 (d.toNat : Int)] 5)) = .ok (.string ⟨#[c, d]⟩) (w.alloc (.cells #[.int .u8 (c.toNat : Int), .int .u8 (d.toNat : Int)] 5)) := bytes_strA w 5 [c, d] 2

set_option maxHeartbeats 1000000 in
set_option maxRecDepth 100000 in
theorem ref_byte (c : UInt8) (w : World) : Calls Tryd.prog 62 #[.int .u8 (c.toNat : Int)] w fun e w' => e = .returned (.string ⟨(byteOut c).toArray⟩) ∧ Ext w w' := by
  have hc : c.toNat < 256 := c.toNat_lt
  go_enter Tryd.func62, Tryd.ntmps62
  by_cases h1 : (c.toNat : Int) = 34
  · have he : byteOut c = [92, 34] := by rw [byteOut, if_pos h1]
    go_wp2_with fail
    go_ret
    exact ⟨by rw [he]; rfl, Ext.refl _⟩
  · have g1 : ((c.toNat : Int) == 34) = false := by simpa using h1
    by_cases h2 : (c.toNat : Int) = 92
    · have he : byteOut c = [92, 92] := by rw [byteOut, if_neg h1, if_pos h2]
      go_wp2_with fail
      go_ret
      exact ⟨by rw [he]; rfl, Ext.refl _⟩
    · have g2 : ((c.toNat : Int) == 92) = false := by simpa using h2
      by_cases h3 : (c.toNat : Int) = 10
      · have he : byteOut c = [92, 110] := by rw [byteOut, if_neg h1, if_neg h2, if_pos h3]
        go_wp2_with fail
        go_ret
        exact ⟨by rw [he]; rfl, Ext.refl _⟩
      · have g3 : ((c.toNat : Int) == 10) = false := by simpa using h3
        by_cases h4 : (c.toNat : Int) = 9
        · have he : byteOut c = [92, 116] := by rw [byteOut, if_neg h1, if_neg h2, if_neg h3, if_pos h4]
          go_wp2_with fail
          go_ret
          exact ⟨by rw [he]; rfl, Ext.refl _⟩
        · have g4 : ((c.toNat : Int) == 9) = false := by simpa using h4
          by_cases h5 : (32 : Int) ≤ c.toNat ∧ (c.toNat : Int) ≤ 126
          · have he : byteOut c = [c] := by rw [byteOut, if_neg h1, if_neg h2, if_neg h3, if_neg h4, if_pos h5]
            obtain ⟨h6, h7⟩ := h5
            go_wp2_with fail
            rw [bytes_str1 w c]
            simp only [Result.andThen]
            rw [Oper.upon_value]
            go_wp2
            go_ret
            exact ⟨by rw [he]; rfl, Ext.alloc w _⟩
          · have he : byteOut c = [92, 120, hexd (c.toNat / 16), hexd (c.toNat % 16)] := by rw [byteOut, if_neg h1, if_neg h2, if_neg h3, if_neg h4, if_neg h5]
            by_cases h6 : (32 : Int) ≤ c.toNat
            · have h7 : (126 : Int) < c.toNat := by omega
              go_wp2_with fail
              obtain ⟨q, hq⟩ : ∃ q, q = c.toNat / 16 := ⟨_, rfl⟩
              obtain ⟨r, hr⟩ : ∃ r, r = c.toNat % 16 := ⟨_, rfl⟩
              have q1 : q < 16 := by omega
              have r1 : r < 16 := by omega
              have q2 : (q : Int) < 16 := by omega
              have r2 : (r : Int) < 16 := by omega
              have q0 : (0 : Int) ≤ q := by omega
              have r0 : (0 : Int) ≤ r := by omega
              have hw1 : IntKind.u8.wrap ((c.toNat : Int) / 16) = (q : Int) := by rw [show (c.toNat : Int) / 16 = (q : Int) by omega]; exact IntWalk.u8_in _ (by omega)
              have hw2 : (c.toNat : Int).tmod 16 = (r : Int) := by rw [IntWalk.rem_in _ _ (by omega)]; omega
              rw [← hq, ← hr] at he
              clear hq hr
              go_still_tail 6, (by kernel_rfl)
              change wpList _ _ _ _ _ w.drew
              obtain ⟨w2, hw2', E2⟩ : ∃ w2, w2 = w.drew ∧ Hid (Ext w w2) := ⟨_, rfl, Ext.drew w⟩
              rw [← hw2']; clear hw2'
              go_wp2
              rw [bytes_str2 w2 _ _]
              simp only [Result.andThen]
              rw [Oper.upon_value]
              go_wp2
              go_ret
              refine ⟨?_, E2.out.trans (Ext.alloc w2 _)⟩
              rw [he, ← hexd_get q (by rw [hexs_size]; exact q1), ← hexd_get r (by rw [hexs_size]; exact r1)]
              rfl
            · have h7 : (c.toNat : Int) < 32 := by omega
              go_wp2_with fail
              obtain ⟨q, hq⟩ : ∃ q, q = c.toNat / 16 := ⟨_, rfl⟩
              obtain ⟨r, hr⟩ : ∃ r, r = c.toNat % 16 := ⟨_, rfl⟩
              have q1 : q < 16 := by omega
              have r1 : r < 16 := by omega
              have q2 : (q : Int) < 16 := by omega
              have r2 : (r : Int) < 16 := by omega
              have q0 : (0 : Int) ≤ q := by omega
              have r0 : (0 : Int) ≤ r := by omega
              have hw1 : IntKind.u8.wrap ((c.toNat : Int) / 16) = (q : Int) := by rw [show (c.toNat : Int) / 16 = (q : Int) by omega]; exact IntWalk.u8_in _ (by omega)
              have hw2 : (c.toNat : Int).tmod 16 = (r : Int) := by rw [IntWalk.rem_in _ _ (by omega)]; omega
              rw [← hq, ← hr] at he
              clear hq hr
              go_still_tail 6, (by kernel_rfl)
              change wpList _ _ _ _ _ w.drew
              obtain ⟨w2, hw2', E2⟩ : ∃ w2, w2 = w.drew ∧ Hid (Ext w w2) := ⟨_, rfl, Ext.drew w⟩
              rw [← hw2']; clear hw2'
              go_wp2
              rw [bytes_str2 w2 _ _]
              simp only [Result.andThen]
              rw [Oper.upon_value]
              go_wp2
              go_ret
              refine ⟨?_, E2.out.trans (Ext.alloc w2 _)⟩
              rw [he, ← hexd_get q (by rw [hexs_size]; exact q1), ← hexd_get r (by rw [hexs_size]; exact r1)]
              rfl

theorem nDigits_le (k : Nat) : ∀ u, u < 10 ^ (k + 1) → Lib.nDigits u ≤ k + 1 := by
  induction k with
  | zero => intro u h; rw [Lib.nDigits_small (by simpa using h)]; omega
  | succ k ih =>
    intro u h
    by_cases h1 : u < 10
    · rw [Lib.nDigits_small h1]; omega
    · rw [Lib.nDigits_big h1]
      have := ih (u / 10) (by rw [Nat.div_lt_iff_lt_mul (by omega), ← Nat.pow_succ]; exact h)
      omega
theorem digit_byte (k : Nat) : (48 : Int) + (k : Int) % 10 = ((UInt8.ofNat (48 + k % 10)).toNat : Int) := by
  rw [UInt8.toNat_ofNat']; omega
theorem dec_step (k : Nat) (ds : List UInt8) : Lib.decDigits k ++ ds = if k < 10 then UInt8.ofNat (48 + k % 10) :: ds else Lib.decDigits (k / 10) ++ (UInt8.ofNat (48 + k % 10) :: ds) := by
  split
  · rename_i h; rw [Lib.decDigits, dif_pos h, Nat.mod_eq_of_lt h]; rfl
  · rename_i h; rw [Lib.decDigits, dif_neg h, List.append_assoc]; rfl

set_option maxHeartbeats 1000000 in
set_option maxRecDepth 100000 in
theorem ref_digits (n : Nat) (hn : n < 18446744073709551616) (w : World) : Calls Tryd.prog 73 #[.int .u64 n] w fun e w' => e = .returned (.string ⟨(Lib.decDigits n).toArray⟩) ∧ Ext w w' := by
  have HL := hide (show (Lib.decDigits n).length ≤ 20 by rw [Lib.decDigits_length]; exact nDigits_le 19 n (by omega))
  go_enter Tryd.func73, Tryd.ntmps73
  go_wp2_with fail
  go_loopw [0, 3] (fun x s w' => ∃ (k : Nat) (S : ByteArray) (ds : List UInt8), x = .int .u64 k ∧ k ≤ n ∧ s = .string S ∧ S.size ≤ 20 ∧ Hid (S = ⟨ds.toArray⟩) ∧ Hid (Lib.decDigits n = Lib.decDigits k ++ ds) ∧ Hid (Ext w w')) (fun x _ _ => (intOf x).toNat)
  case atStart => exact ⟨n, _, [], rfl, by omega, rfl, by decide, rfl, by rw [Hid, List.append_nil], Ext.refl _⟩
  case round =>
    obtain ⟨k, S, ds, rfl, hk, rfl, hS, hs, hd, hx⟩ := hrel
    have hst := hide (dec_step k ds)
    have hdb := digit_byte k
    obtain ⟨b, hb⟩ : ∃ b, b = UInt8.ofNat (48 + k % 10) := ⟨_, rfl⟩
    rw [← hb] at hdb
    have hst := hst.out
    rw [← hb] at hst
    have hst := hide hst
    have hb' := hide hb; clear hb
    have HC : (convert 38 9 (.slice (some ⟨wr.heap.size, 0, none⟩) 1 1)).run Tryd.prog (wr.alloc (.cells #[.int .u8 (48 + (k : Int) % 10)] 5)) = .ok (.string ⟨#[b]⟩) (wr.alloc (.cells #[.int .u8 (48 + (k : Int) % 10)] 5)) := by
      rw [hdb]; exact bytes_str1 wr b
    have hcat := hide (show (⟨#[b]⟩ ++ S : ByteArray) = ⟨(b :: ds).toArray⟩ by rw [hs.out]; exact bytes_append [b] ds)
    have hX := hide (hx.out.trans (Ext.alloc wr (.cells #[.int .u8 (48 + (k : Int) % 10)] 5)))
    clear hdb
    by_cases h : k < 10
    · have hz : (k : Int) / 10 = 0 := by omega
      have hfin := hide (show Lib.decDigits n = b :: ds by rw [hd.out, hst.out, if_pos h])
      go_wp2_with fail
      go_ret
      exact ⟨by rw [hfin.out, ← hcat.out]; rfl, hX.out⟩
    · have hz : ((k : Int) / 10 == 0) = false := by
        have : ¬ (k : Int) / 10 = 0 := by omega
        simpa using this
      have hfin := hide (show Lib.decDigits n = Lib.decDigits (k / 10) ++ (b :: ds) by rw [hd.out, hst.out, if_neg h])
      have hsz : (⟨#[b]⟩ ++ S : ByteArray).size ≤ 20 := by
        have h1 := HL.out; rw [hfin.out, List.length_append] at h1
        rw [hcat.out]; show (b :: ds).toArray.size ≤ 20; rw [List.size_toArray]; omega
      obtain ⟨S2, hS2⟩ : ∃ S2, S2 = (⟨#[b]⟩ ++ S : ByteArray) := ⟨_, rfl⟩
      go_wp2_with fail
      go_roundw
      case rel => exact ⟨k / 10, _, b :: ds, by go_num, by omega, rfl, hsz, hcat.out, hfin.out, hX.out⟩
      case measure => simp [intOf]; omega
end Go.Proofs.YtoahckibhmoikaaDoor
