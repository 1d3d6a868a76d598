/-
  value.showByte: one byte of a text as it is written; the document's Byte.
-/
import Derived.Test.YtoahckibhmoikaaDoorBld
import Derived.Test.YtoahckibhmoikaaDoorLawValids
namespace Go.Proofs.YtoahckibhmoikaaDoor
open Go.RowKit

def hexs : ByteArray := ⟨#[48, 49, 50, 51, 52, 53, 54, 55, 56, 57, 97, 98, 99, 100, 101, 102]⟩
theorem hexs_size : hexs.size = 16 := rfl
def hexd (n : Nat) : UInt8 := hexs.data.getD n 0
theorem hexd_get (n : Nat) (h : n < hexs.size) : hexs[n]'h = hexd n := by
  unfold hexd
  rw [Array.getD_eq_getD_getElem?, Array.getElem?_eq_getElem (by exact h)]; rfl
def byteOut (c : UInt8) : List UInt8 :=
  if (c.toNat : Int) = 34 then [92, 34] else if (c.toNat : Int) = 92 then [92, 92] else if (c.toNat : Int) = 10 then [92, 110] else if (c.toNat : Int) = 9 then [92, 116]
  else if (32 : Int) ≤ c.toNat ∧ (c.toNat : Int) ≤ 126 then [c] else [92, 120, hexd (c.toNat / 16), hexd (c.toNat % 16)]
theorem byteOut_len (c : UInt8) : (byteOut c).length ≤ 4 := by
  unfold byteOut
  repeat' split
  all_goals simp
theorem byte_of (c k : UInt8) (h : (c.toNat : Int) = (k.toNat : Int)) : c = k := UInt8.toNat_inj.1 (by omega)

theorem k92 : ((92 : UInt8).toNat : Int) = 92 := by decide
theorem k34 : ((34 : UInt8).toNat : Int) = 34 := by decide
theorem write_at (w0 : World) (b : Nat) (l : List UInt8) (c : UInt8) (z : Int) (w : World) (hz : (c.toNat : Int) = z) (h : BAt w0 b (Lib.byteCells l) w) (hlen : l.length ≤ 16777216) (hE : Ext w0 w) :
    Calls Tryd.prog 56 #[.pointer (some ⟨b, 0, none⟩), .int .u8 z] w fun e w' => e = .returned .nilIface ∧ BAt w0 b (Lib.byteCells (l ++ [c])) w' ∧ Ext w0 w' := by
  subst hz; exact write_byte w0 b l c w h hlen hE
set_option maxHeartbeats 400000 in
set_option maxRecDepth 100000 in
theorem show_byte (w0 : World) (b : Nat) (l : List UInt8) (c : UInt8) (w : World) (h : BAt w0 b (Lib.byteCells l) w) (hlen : l.length ≤ 16777000) (hE : Ext w0 w) :
    Calls Tryd.prog 57 #[.pointer (some ⟨b, 0, none⟩), .int .u8 (c.toNat : Int)] w fun e w' => e = .returned (.tuple #[]) ∧ BAt w0 b (Lib.byteCells (l ++ byteOut c)) w' ∧ Ext w0 w' := by
  have HB := hide h; have HE := hide hE; clear h hE
  have hc : c.toNat < 256 := c.toNat_lt
  go_enter Tryd.func57, Tryd.ntmps57
  by_cases h1 : (c.toNat : Int) = 34
  · have he : byteOut c = [92, 34] := by rw [byteOut, if_pos h1]
    go_wp2_with fail
    have W := hide (write_at w0 b l 92 92 _ k92 HB.out (by omega) HE.out)
    refine W.out.mono ?_
    rintro e w1 ⟨rfl, k1, x1⟩
    have B1 := hide k1; have E1 := hide x1; clear k1 x1
    go_wp2_with fail
    have W := hide (write_at w0 b (l ++ [92]) 34 34 _ k34 B1.out (by rw [List.length_append]; simp; omega) E1.out)
    refine W.out.mono ?_
    rintro e w2 ⟨rfl, k1, x1⟩
    have B2 := hide k1; have E2 := hide x1; clear k1 x1
    go_wp2_with fail
    go_end0
    exact ⟨rfl, by rw [he]; have := B2.out; rw [List.append_assoc] at this; exact this, E2.out⟩
  · have g1 : ((c.toNat : Int) == 34) = false := by simpa using h1
    by_cases h2 : (c.toNat : Int) = 92
    · have he : byteOut c = [92, 92] := by rw [byteOut, if_neg h1, if_pos h2]
      go_wp2_with fail
      have W := hide (write_at w0 b l 92 92 _ k92 HB.out (by omega) HE.out)
      refine W.out.mono ?_
      rintro e w1 ⟨rfl, k1, x1⟩
      have B1 := hide k1; have E1 := hide x1; clear k1 x1
      go_wp2_with fail
      have W := hide (write_at w0 b (l ++ [92]) 92 92 _ k92 B1.out (by rw [List.length_append]; simp; omega) E1.out)
      refine W.out.mono ?_
      rintro e w2 ⟨rfl, k1, x1⟩
      have B2 := hide k1; have E2 := hide x1; clear k1 x1
      go_wp2_with fail
      go_end0
      exact ⟨rfl, by rw [he]; have := B2.out; rw [List.append_assoc] at this; exact this, E2.out⟩
    · have g2 : ((c.toNat : Int) == 92) = false := by simpa using h2
      by_cases h3 : (c.toNat : Int) = 10
      · have he : byteOut c = [92, 110] := by rw [byteOut, if_neg h1, if_neg h2, if_pos h3]
        go_wp2_with fail
        have W := hide (write_text w0 b l ⟨#[92, 110]⟩ _ HB.out (by omega) (by exact Nat.le_of_ble_eq_true rfl) HE.out)
        refine W.out.mono ?_
        rintro e w1 ⟨rfl, k1, x1⟩
        have B1 := hide k1; have E1 := hide x1; clear k1 x1
        go_wp2_with fail
        go_end0
        exact ⟨rfl, by rw [he]; exact B1.out, E1.out⟩
      · have g3 : ((c.toNat : Int) == 10) = false := by simpa using h3
        by_cases h4 : (c.toNat : Int) = 9
        · have he : byteOut c = [92, 116] := by rw [byteOut, if_neg h1, if_neg h2, if_neg h3, if_pos h4]
          go_wp2_with fail
          have W := hide (write_text w0 b l ⟨#[92, 116]⟩ _ HB.out (by omega) (by exact Nat.le_of_ble_eq_true rfl) HE.out)
          refine W.out.mono ?_
          rintro e w1 ⟨rfl, k1, x1⟩
          have B1 := hide k1; have E1 := hide x1; clear k1 x1
          go_wp2_with fail
          go_end0
          exact ⟨rfl, by rw [he]; exact B1.out, E1.out⟩
        · have g4 : ((c.toNat : Int) == 9) = false := by simpa using h4
          by_cases h5 : (32 : Int) ≤ c.toNat ∧ (c.toNat : Int) ≤ 126
          · have he : byteOut c = [c] := by rw [byteOut, if_neg h1, if_neg h2, if_neg h3, if_neg h4, if_pos h5]
            obtain ⟨h6, h7⟩ := h5
            go_wp2_with fail
            have W := hide (write_byte w0 b l c _ HB.out (by omega) HE.out)
            refine W.out.mono ?_
            rintro e w1 ⟨rfl, k1, x1⟩
            have B1 := hide k1; have E1 := hide x1; clear k1 x1
            go_wp2_with fail
            go_end0
            exact ⟨rfl, by rw [he]; exact B1.out, E1.out⟩
          · have he : byteOut c = [92, 120, hexd (c.toNat / 16), hexd (c.toNat % 16)] := by rw [byteOut, if_neg h1, if_neg h2, if_neg h3, if_neg h4, if_neg h5]
            by_cases h6 : (32 : Int) ≤ c.toNat
            · have h7 : (126 : Int) < c.toNat := by omega
              go_wp2_with fail
              have W := hide (write_text w0 b l ⟨#[92, 120]⟩ _ HB.out (by omega) (by exact Nat.le_of_ble_eq_true rfl) HE.out)
              refine W.out.mono ?_
              rintro e w1 ⟨rfl, k1, x1⟩
              have B1 : Hid (BAt w0 b (Lib.byteCells (l ++ [92, 120])) w1) := hide k1
              have E1 := hide x1; clear k1 x1
              go_wp2_with fail
              refine (write_at w0 b (l ++ [92, 120]) (hexd (c.toNat / 16)) _ _ (by rw [← hexd_get _ (by rw [hexs_size]; omega)]; rfl) B1.out (by rw [List.length_append]; exact Nat.le_trans (Nat.add_le_add_right hlen 2) (by decide)) E1.out).mono ?_
              rintro e w2 ⟨rfl, k1, x1⟩
              have B2 := hide k1; have E2 := hide x1; clear k1 x1
              go_wp2_with fail
              refine (write_at w0 b (l ++ [92, 120] ++ [hexd (c.toNat / 16)]) (hexd (c.toNat % 16)) _ _ (by rw [← hexd_get _ (by rw [hexs_size]; omega)]; rfl) B2.out (by rw [List.length_append, List.length_append]; exact Nat.le_trans (Nat.add_le_add_right hlen 3) (by decide)) E2.out).mono ?_
              rintro e w3 ⟨rfl, k1, x1⟩
              have B3 := hide k1; have E3 := hide x1; clear k1 x1
              go_wp2_with fail
              go_end0
              exact ⟨rfl, by rw [he]; have := B3.out; rw [List.append_assoc, List.append_assoc] at this; exact this, E3.out⟩
            · have h7 : (c.toNat : Int) < 32 := by omega
              go_wp2_with fail
              have W := hide (write_text w0 b l ⟨#[92, 120]⟩ _ HB.out (by omega) (by exact Nat.le_of_ble_eq_true rfl) HE.out)
              refine W.out.mono ?_
              rintro e w1 ⟨rfl, k1, x1⟩
              have B1 : Hid (BAt w0 b (Lib.byteCells (l ++ [92, 120])) w1) := hide k1
              have E1 := hide x1; clear k1 x1
              go_wp2_with fail
              refine (write_at w0 b (l ++ [92, 120]) (hexd (c.toNat / 16)) _ _ (by rw [← hexd_get _ (by rw [hexs_size]; omega)]; rfl) B1.out (by rw [List.length_append]; exact Nat.le_trans (Nat.add_le_add_right hlen 2) (by decide)) E1.out).mono ?_
              rintro e w2 ⟨rfl, k1, x1⟩
              have B2 := hide k1; have E2 := hide x1; clear k1 x1
              go_wp2_with fail
              refine (write_at w0 b (l ++ [92, 120] ++ [hexd (c.toNat / 16)]) (hexd (c.toNat % 16)) _ _ (by rw [← hexd_get _ (by rw [hexs_size]; omega)]; rfl) B2.out (by rw [List.length_append, List.length_append]; exact Nat.le_trans (Nat.add_le_add_right hlen 3) (by decide)) E2.out).mono ?_
              rintro e w3 ⟨rfl, k1, x1⟩
              have B3 := hide k1; have E3 := hide x1; clear k1 x1
              go_wp2_with fail
              go_end0
              exact ⟨rfl, by rw [he]; have := B3.out; rw [List.append_assoc, List.append_assoc] at this; exact this, E3.out⟩
end Go.Proofs.YtoahckibhmoikaaDoor
