/-
  HashidxFull: the law's walk.
-/
import Derived.Test.YtlpbkhdpfmknkaaHidL
namespace Go.Proofs.Ytlpbkhdpfmknkaa
open Go.RowKit

theorem bytes_toList (a b : ByteArray) : a.toList = b.toList ↔ a = b :=
  ⟨fun h => keyOf_inj.1 (by simpa [keyOf, ByteArray.toList_eq] using h), fun h => by rw [h]⟩
/-- texts that came in -/
def TextsAt (w : World) (A : Option Addr) (n : Nat) (S : List ByteArray) : Prop := Sl w A n 1 (S.map Value.string)
theorem TextsAt.len {w : World} {A : Option Addr} {n : Nat} {S : List ByteArray} (h : TextsAt w A n S) : n = S.length := by
  have := h.1
  simp at this
  omega
theorem TextsAt.get {w : World} {A : Option Addr} {n : Nat} {S : List ByteArray} (h : TextsAt w A n S) {i : Nat} (hi : i < n) : ∃ b off s, A = some ⟨b, off, none⟩ ∧ S[i]? = some s ∧ b < w.heap.size ∧ w.cell? ⟨b, off + i, none⟩ = some (.string s) := by
  obtain ⟨b, off, hA, hc⟩ := h.2 (by omega)
  have hl : i < S.length := by have := h.len; omega
  have hg : S[i]? = some S[i] := List.getElem?_eq_getElem hl
  have h1 := hc i (.string S[i]) (by rw [List.getElem?_map, hg]; rfl)
  exact ⟨b, off, S[i], hA, hg, World.block_lt_of_cell? w _ h1, h1⟩
theorem TextsAt.ext {w w' : World} {A : Option Addr} {n : Nat} {S : List ByteArray} (h : TextsAt w A n S) (hw : Ext w w') : TextsAt w' A n S := Sl.ext h hw
/-- put_any at the bytes of a text -/
theorem put_text {w w1 : World} {B : Nat → Prop} {x most probes : Nat} {E : List (List UInt8 × Int)} (h : HIx w B x most probes E) (hp : probes ≤ 4611686018427387904) (s : ByteArray) (v : Int) (c : Nat) (hE : Ext w w1) (hk : ByAt w1 w.heap.size (keyOf s)) (hs : s.size ≤ 4611686018427387904) :
    Calls Try.prog 9 #[.pointer (some ⟨x, 0, none⟩), .slice (some ⟨w.heap.size, 0, none⟩) s.size c, .int .i64 v] w1 (PutPost w1 B x most probes E (keyOf s) v) :=
  put_any (h.ext hE) hp (keyOf s) v _ _ c (hk.key (keyOf_len s).symm) (h.aside (Nat.le_refl _)) hs

set_option maxHeartbeats 4000000 in
set_option maxRecDepth 100000 in
theorem law_full (most : Int) (S : List ByteArray) (A : Option Addr) (n c : Nat) (w : World) (_hx : -9223372036854775808 ≤ most ∧ most ≤ 9223372036854775807) (hS : TextsAt w A n S) (hn : n ≤ 1048576) (hsz : ∀ s ∈ S, s.size ≤ 1048576) :
    Calls Try.prog 3 #[.int .i64 most, .slice A n c] w fun e w' => e = .returned (.bool true) ∧ Ext w w' := by
  by_cases hg : 1 ≤ most ∧ most ≤ 1000
  · obtain ⟨m, rfl⟩ : ∃ m : Nat, most = (m : Int) := ⟨most.toNat, by omega⟩
    have hm1 : 1 ≤ m := by omega
    have hm2 : m ≤ 1000 := by omega
    have hg1 : ¬ (m : Int) < 1 := by omega
    have hg2 : ¬ (1000 : Int) < (m : Int) := by omega
    have HN := hide (new_good m w (by omega) (by omega))
    have HS := hide hS; have HZ := hide hsz
    clear hS hsz
    go_enter Try.func3, Try.ntmps3
    go_wp2_with fail
    refine HN.out.mono ?_
    rintro e w1 ⟨x, rfl, h1, x1⟩
    have HF := hide (FInv.start h1 (fun b hb => hb.1) x1); clear h1 x1
    go_wp2_with fail
    go_loopw [7, 41] (fun s7 s41 w' => ∃ (i probes c' : Nat) (A' : Option Addr) (B : Nat → Prop) (L : List ByteArray) (E : List (List UInt8 × Int)), i ≤ n ∧ s41 = .int .i64 i ∧ s7 = .slice A' L.length c' ∧ probes ≤ 3 * i ∧ L.length ≤ m ∧ Hid (FInv w w' x m probes B A' c' L E)) (fun _ s41 _ => n - (intOf s41).toNat)
    case atStart => exact ⟨0, 0, 0, none, _, [], [], by omega, rfl, rfl, by omega, Nat.zero_le _, HF.out⟩
    case round =>
      obtain ⟨i, probes, c', A', B, L, E, hin, rfl, rfl, hpr, hLm, hF⟩ := hrel
      clear HF
      by_cases h : i < n
      · obtain ⟨b, off, s, rfl, hs, hb1, c0⟩ := (HS.out.ext hF.out.ext).get h
        have hss := HZ.out s (List.mem_of_getElem? hs)
        clear hs
        obtain ⟨wo, rfl⟩ : ∃ wo : World, wo = wr := ⟨_, rfl⟩
        go_wp2_with fail
        go_loop [10, 12, 48] (fun s10 _ s48 => ∃ (j : Nat) (b : Bool), j ≤ L.length ∧ s48 = .int .i64 j ∧ s10 = .bool b ∧ Hid (b = true ↔ s ∈ L.take j)) (fun _ _ s48 => L.length - (intOf s48).toNat)
        case atStart => exact ⟨0, false, by omega, rfl, rfl, by simp [Hid]⟩
        case round =>
          obtain ⟨j, b, hj, rfl, rfl, hb⟩ := hrel
          by_cases hjl : j < L.length
          · obtain ⟨g1, o1, rfl, c1⟩ := hF.out.tx.cell (List.getElem?_eq_getElem hjl)
            have htk := hide (show L.take (j + 1) = L.take j ++ [L[j]] from List.take_succ_eq_append_getElem hjl)
            generalize L[j] = t at *
            cases b with
            | true =>
              go_wp2_with fail
              go_round
              case rel => exact ⟨j + 1, true, by omega, by go_num, rfl, by have := hb.out.1 rfl; rw [Hid, htk.out]; simp [this]⟩
              case measure => simp [intOf]; omega
            | false =>
              have hno := hb.out
              by_cases he : t = s
              · subst he
                go_wp2_with fail
                go_round
                case rel => exact ⟨j + 1, true, by omega, by go_num, rfl, by rw [Hid, htk.out]; simp⟩
                case measure => simp [intOf]; omega
              · have he2 : (t.toList == s.toList) = false := by simpa using fun e => he ((bytes_toList t s).1 e)
                have HT := hide (show (false = true ↔ s ∈ L.take j ++ [t]) by simp at hno ⊢; exact ⟨hno, fun e => he e.symm⟩)
                clear hno
                go_wp2_with fail
                go_round
                case rel => exact ⟨j + 1, false, by omega, by go_num, rfl, by rw [Hid, htk.out]; exact HT.out⟩
                case measure => simp [intOf]; omega
          · have hjj : L.take j = L := List.take_of_length_le (by omega)
            rw [hjj] at hb
            clear hjj
            obtain ⟨cc, w2, hcv, hX2, hz2, hB2⟩ := conv_str wo s
            have HP := hide (put_text hF.out.ix (by omega) s (i : Int) cc hX2 hB2 (by omega))
            have HF2 := hide (hF.out.go hX2)
            clear hX2 hz2 hB2
            by_cases hlong : 4096 < s.size
            · clear hb
              go_wp2_with fail
              refine HP.out.mono ?_
              rintro e w3 ⟨old, had, err, E', B', rfl, hr, h3, hB3, hC3⟩
              obtain ⟨rfl, rfl, hF3⟩ := HF2.out.long h3 hB3 hC3 hlong hr
              have HF3 := hide hF3
              clear hr h3 hB3 hC3 hF3 hcv HP
              go_wp2_with fail
              go_roundw
              case rel => exact ⟨i + 1, probes + 1, c', A', B', L, E', by omega, by go_num, rfl, by omega, hLm, HF3.out⟩
              case measure => simp [intOf]; omega
            · cases b with
              | true =>
                have HSL := hide (hb.out.1 rfl)
                clear hb
                go_wp2_with fail
                refine HP.out.mono ?_
                rintro e w3 ⟨old, had, err, E', B', rfl, hr, h3, hB3, hC3⟩
                obtain ⟨rfl, rfl, hF3⟩ := HF2.out.again h3 hB3 hC3 HSL.out (by omega) (by omega) hr
                have HF3 := hide hF3
                clear hr h3 hB3 hC3 hF3 hcv HP
                go_wp2_with fail
                go_roundw
                case rel => exact ⟨i + 1, probes + 1, c', A', B', L, E', by omega, by go_num, rfl, by omega, hLm, HF3.out⟩
                case measure => simp [intOf]; omega
              | false =>
                have HSL := hide (show s ∉ L from fun hs => by have := hb.out.2 hs; cases this)
                clear hb
                by_cases hroom : L.length < m
                · go_wp2_with fail
                  refine HP.out.mono ?_
                  rintro e w3 ⟨old, had, err, E', B', rfl, hr, h3, hB3, hC3⟩
                  obtain ⟨rfl, rfl, rfl⟩ := HF2.out.laid h3 hB3 hC3 HSL.out (by omega) hroom (by omega) hr
                  have HI3 := hide h3; have HB3 := hide hB3; have HC3 := hide hC3
                  clear hr h3 hB3 hC3 hcv HP
                  have HT3 := hide ((HF2.out.tx.far HC3.out HF2.out.apart).ext (Ext.alloc w3 (.cells #[.string s] 9)))
                  have HN3 := hide ((Blk.new w3 9 #[.string s]).cell 0)
                  have HL3 := hide (show w.heap.size ≤ (w3.alloc (.cells #[.string s] 9)).heap.size from Nat.le_trans (Nat.le_trans HF2.out.ext.size HC3.out.size) (Ext.alloc _ _).size)
                  go_wp2_with (at_builtin; refine wpList_append_tx rfl (.tmp 94) (.tmp 96) rfl w.heap.size A' L.length c' L rfl rfl HT3.out HL3.out (by omega) ⟨w3.heap.size, 0, none⟩ s 1 rfl HN3.out ?_; intro A7 c7 w7 t7 k7 g7)
                  go_roundw
                  case rel => exact ⟨i + 1, probes + 1, c7, A7, B', L ++ [s], _, by omega, by go_num, by rw [List.length_append]; rfl, by omega, by rw [List.length_append]; exact hroom, HF2.out.snoc HI3.out HB3.out HC3.out (by omega) (by omega) (Ext.alloc _ _) t7.out k7.out g7.out⟩
                  case measure => simp [intOf]; omega
                · go_wp2_with fail
                  refine HP.out.mono ?_
                  rintro e w3 ⟨old, had, err, E', B', rfl, hr, h3, hB3, hC3⟩
                  obtain ⟨rfl, rfl, hF3⟩ := HF2.out.full h3 hB3 hC3 HSL.out (by omega) hroom hr
                  have HF3 := hide hF3
                  clear hr h3 hB3 hC3 hF3 hcv HP
                  have HLE := hide (len_any HF3.out.ix)
                  have hlm : L.length = m := by omega
                  rw [HF3.out.len, hlm] at HLE
                  have HLM := hide hlm
                  cases L with
                  | nil => exact absurd HLM.out (by simp; omega)
                  | cons s0 L =>
                  obtain ⟨g1, o1, rfl, c1⟩ := HF3.out.tx.cell (j := 0) (s := s0) rfl
                  have c1 : w3.cell? ⟨g1, o1, none⟩ = some (.string s0) := c1
                  go_wp2_with fail
                  refine HLE.out.mono ?_
                  rintro e w4 ⟨rfl, rfl⟩
                  obtain ⟨cc4, w5, hcv5, hX5, hz5, hB5⟩ := conv_str w4 s0
                  have hs0 := HF3.out.small s0 (List.mem_cons_self ..)
                  have HD := hide (delete_any (HF3.out.ix.ext hX5) (by omega) (keyOf s0) _ s0.size cc4 (hB5.key (keyOf_len s0).symm) (HF3.out.ix.aside (Nat.le_refl _)) (by omega))
                  have HF5 := hide (HF3.out.go hX5)
                  clear hX5 hz5 hB5 HF3
                  go_wp2_with fail
                  refine HD.out.mono ?_
                  rintro e w6 ⟨r, rfl, hr, ⟨E6, hE6, h6⟩, hC6⟩
                  have hcap := HF5.out.tx.cap rfl
                  have HPOP := hide (fun off' ho ho' => HF5.out.pop (off' := off') hr (fun v hv => by subst hv; exact hE6) h6 hC6 ho ho')
                  obtain ⟨v, rfl, hv⟩ := (HPOP.out (if c' = 1 then o1 else o1 + 1) (fun h => by rw [if_neg (by omega)]) (fun h => by rw [if_pos h])).1
                  have HI6 := hide h6
                  have HX6 := hide (hC6.ext HF5.out.ext HF5.out.new)
                  clear hr hE6 h6 hC6 HD hcv5
                  obtain ⟨cc7, w7, hcv7, hX7, hz7, hB7⟩ := conv_str w6 s
                  have HP7 := hide (put_text HI6.out (by omega) s (i : Int) cc7 hX7 hB7 (by omega))
                  have HX7 := hide hX7
                  clear hX7 hz7 hB7
                  simp only [Option.getD_some, Option.isSome_some]
                  have hv0 : ¬ v < 0 := by omega
                  go_wp2_with fail
                  refine HP7.out.mono ?_
                  rintro e w8 ⟨old, had, err, E8, B8, rfl, hr8, h8, hB8, hC8⟩
                  have hlt : L.length < m := by have := HLM.out; simp at this; omega
                  have hsl : s ∉ L := fun hs => HSL.out (List.mem_cons_of_mem _ hs)
                  rcases Nat.lt_or_ge 1 c' with hc1 | hc1
                  · have hF6 := (HPOP.out (o1 + 1) (fun _ => rfl) (fun h => by omega)).2
                    have hF7 := hF6.go HX7.out
                    obtain ⟨rfl, rfl, rfl⟩ := hF7.laid h8 hB8 hC8 hsl (by omega) hlt (by omega) hr8
                    have HF7 := hide hF7; have HI8 := hide h8; have HB8 := hide hB8; have HC8 := hide hC8
                    clear hr8 h8 hB8 hC8 hF6 hF7 hcv7 HP7 HPOP hsl
                    have HT8 := hide ((HF7.out.tx.far HC8.out HF7.out.apart).ext (Ext.alloc w8 (.cells #[.string s] 9)))
                    have HN8 := hide ((Blk.new w8 9 #[.string s]).cell 0)
                    have HL8 := hide (show w.heap.size ≤ (w8.alloc (.cells #[.string s] 9)).heap.size from Nat.le_trans (Nat.le_trans HF7.out.ext.size HC8.out.size) (Ext.alloc _ _).size)
                    have hm1L := hide (show m - 1 = L.length by have := HLM.out; simp at this; omega)
                    go_wp2_with (at_builtin; refine wpList_append_tx rfl (.tmp 140) (.tmp 142) rfl w.heap.size (some ⟨g1, o1 + 1, none⟩) (m - 1) (c' - 1) L rfl hm1L.out HT8.out HL8.out (by omega) ⟨w8.heap.size, 0, none⟩ s 1 rfl HN8.out ?_; intro A7 c7 w9 t7 k7 g7)
                    go_roundw
                    case rel => exact ⟨i + 1, probes + 3, c7, A7, B8, L ++ [s], _, by omega, by go_num, by rw [List.length_append, ← HLM.out]; rfl, by omega, by rw [List.length_append]; exact hlt, HF7.out.snoc HI8.out HB8.out HC8.out (by omega) (by omega) (Ext.alloc _ _) t7.out k7.out g7.out⟩
                    case measure => simp [intOf]; omega
                  · have hF6 := (HPOP.out o1 (fun h => by omega) (fun _ => rfl)).2
                    have hF7 := hF6.go HX7.out
                    obtain ⟨rfl, rfl, rfl⟩ := hF7.laid h8 hB8 hC8 hsl (by omega) hlt (by omega) hr8
                    have HF7 := hide hF7; have HI8 := hide h8; have HB8 := hide hB8; have HC8 := hide hC8
                    clear hr8 h8 hB8 hC8 hF6 hF7 hcv7 HP7 HPOP hsl
                    have HT8 := hide ((HF7.out.tx.far HC8.out HF7.out.apart).ext (Ext.alloc w8 (.cells #[.string s] 9)))
                    have HN8 := hide ((Blk.new w8 9 #[.string s]).cell 0)
                    have HL8 := hide (show w.heap.size ≤ (w8.alloc (.cells #[.string s] 9)).heap.size from Nat.le_trans (Nat.le_trans HF7.out.ext.size HC8.out.size) (Ext.alloc _ _).size)
                    have hc2 : c' = 1 := by omega
                    subst hc2
                    have hm1L := hide (show m - 1 = L.length by have := HLM.out; simp at this; omega)
                    go_wp2_with (at_builtin; refine wpList_append_tx rfl (.tmp 140) (.tmp 142) rfl w.heap.size (some ⟨g1, o1, none⟩) (m - 1) (1 - 1) L rfl hm1L.out HT8.out HL8.out (by omega) ⟨w8.heap.size, 0, none⟩ s 1 rfl HN8.out ?_; intro A7 c7 w9 t7 k7 g7)
                    go_roundw
                    case rel => exact ⟨i + 1, probes + 3, c7, A7, B8, L ++ [s], _, by omega, by go_num, by rw [List.length_append, ← HLM.out]; rfl, by omega, by rw [List.length_append]; exact hlt, HF7.out.snoc HI8.out HB8.out HC8.out (by omega) (by omega) (Ext.alloc _ _) t7.out k7.out g7.out⟩
                    case measure => simp [intOf]; omega
      · have HLE := hide (len_any hF.out.ix)
        rw [hF.out.len] at HLE
        go_wp2_with fail
        refine HLE.out.mono ?_
        rintro e w4 ⟨rfl, rfl⟩
        have HA := hide (awake_hid w4)
        go_wp2_with fail
        refine HA.out.mono ?_
        rintro e w5 ⟨rfl, x5⟩
        have X5 := hide (hF.out.ext.trans x5)
        clear x5
        go_wp2_with fail
        go_ret
        exact ⟨rfl, X5.out⟩
  · have hne : most < 1 ∨ ¬ most < 1 ∧ 1000 < most := by omega
    clear hg
    rcases hne with h1 | ⟨h1, h2⟩
    · go_enter Try.func3, Try.ntmps3
      go_wp2_with fail
      refine (awake_hid _).mono ?_
      rintro e w6 ⟨rfl, x6⟩
      have X6 := hide x6; clear x6
      go_wp2_with fail
      go_ret
      exact ⟨rfl, X6.out⟩
    · go_enter Try.func3, Try.ntmps3
      go_wp2_with fail
      refine (awake_hid _).mono ?_
      rintro e w6 ⟨rfl, x6⟩
      have X6 := hide x6; clear x6
      go_wp2_with fail
      go_ret
      exact ⟨rfl, X6.out⟩
end Go.Proofs.Ytlpbkhdpfmknkaa
