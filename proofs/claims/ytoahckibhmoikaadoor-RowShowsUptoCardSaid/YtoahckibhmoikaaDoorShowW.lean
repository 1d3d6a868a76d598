/-
  Show of a row, the document's and the program's, whatever the row; the law RowShows.
-/
import Derived.Test.YtoahckibhmoikaaDoorShowN
namespace Go.Proofs.YtoahckibhmoikaaDoor
open Go.RowKit

theorem join_snoc (L : List (List UInt8)) (x sep : List UInt8) (h : L ≠ []) : Lib.join (L ++ [x]) sep = Lib.join L sep ++ (sep ++ x) := by
  cases L with
  | nil => exact absurd rfl h
  | cons y t =>
    rw [List.cons_append, Lib.join_cons, Lib.join_cons, Lib.joinTail, Lib.joinTail]
    simp
def prefOut (L : List (List UInt8)) (i : Nat) : List UInt8 := 40 :: Lib.join (L.take i) [44, 32]
theorem pref_zero (L : List (List UInt8)) (x : List UInt8) (h : L[0]? = some x) : prefOut L 1 = prefOut L 0 ++ x := by
  cases L with
  | nil => cases h
  | cons y t =>
    have e : y = x := by simpa using h
    subst e
    rw [prefOut, prefOut, List.take_succ_cons, List.take_zero, List.take_zero, Lib.join_one, Lib.join_nil]; rfl
theorem pref_succ (L : List (List UInt8)) (i : Nat) (x : List UInt8) (h : L[i]? = some x) (hi : 0 < i) : prefOut L (i + 1) = (prefOut L i ++ [44, 32]) ++ x := by
  have hl : i < L.length := (List.getElem?_eq_some_iff.1 h).1
  rw [prefOut, prefOut, List.take_add_one, h, Option.toList_some, join_snoc _ _ _ (by
    intro e; have := congrArg List.length e; rw [List.length_take, List.length_nil] at this; omega)]
  simp
theorem showR_pref (r : List V) (sv : V → List UInt8) : showR sv r = prefOut (r.map sv) r.length ++ [41] := by
  rw [showR, prefOut, List.take_of_length_le (by rw [List.length_map]; exact Nat.le_refl _)]; rfl
theorem textOut_len (t : List UInt8) (h : t.length ≤ 64) : (textOut t).length ≤ 258 := by
  have := flat_len t
  unfold textOut; simp only [List.length_cons, List.length_append, List.length_nil]; omega
theorem valOut_len (v : V) (hv : validV v = true) (hi : -9223372036854775808 ≤ v.i ∧ v.i ≤ 9223372036854775807) : (valOut v).length ≤ 258 := by
  unfold valOut
  split
  · have := itoa_len v.i hi.1 hi.2; omega
  · rename_i h; exact textOut_len _ (by rw [len_data]; exact validV_text hv h)
theorem pref_len (L : List (List UInt8)) (h : ∀ x ∈ L, x.length ≤ 258) : ∀ i, i ≤ L.length → (prefOut L i).length ≤ 260 * i + 1
  | 0, _ => by rw [prefOut, List.take_zero, Lib.join_nil]; simp
  | i + 1, hi => by
    have hx : L[i]? = some L[i] := List.getElem?_eq_getElem (by omega)
    have h1 := h L[i] (List.getElem_mem _)
    have ih := pref_len L h i (by omega)
    rcases Nat.eq_zero_or_pos i with h0 | h0
    · subst h0
      rw [pref_zero L _ hx, List.length_append]; omega
    · rw [pref_succ L i _ hx h0, List.length_append, List.length_append]; simp only [List.length_cons, List.length_nil]; omega
theorem all_valid {r : List V} (h : validR r = true) : ∀ v ∈ r, validV v = true := by
  simp [validR] at h; exact h.2
theorem valid_30 {r : List V} (h : validR r = true) : r.length ≤ 30 := by
  simp [validR] at h; exact h.1

def rowOut (r : List V) : List UInt8 := if validR r then showR valOut r else []

set_option maxHeartbeats 1000000 in
set_option maxRecDepth 100000 in
theorem row_show_any (r : List V) (A : Option Addr) (n c : Nat) (w : World) (ha : RowAt w A n r) (hn : n ≤ 1048576) (hs : smallR r) (hw : wfR r) (ht : TabW w) :
    Calls Tryd.prog 20 #[.slice A n c] w fun e w' => e = .returned (.string ⟨(rowOut r).toArray⟩) ∧ Ext w w' := by
  cases hv : validR r with
  | true =>
    rw [rowOut, if_pos hv]
    refine row_show valOut r A n c w ha hn hs hv (fun v hm w' hE => val_show v w' (hs v hm) (all_valid hv v hm) (hw v hm).2 (ht.ext hE)) ?_
    have h := pref_len (r.map valOut) (fun x hx => by obtain ⟨v, hm, rfl⟩ := List.mem_map.1 hx; exact valOut_len v (all_valid hv v hm) (hw v hm).2) r.length (by rw [List.length_map]; exact Nat.le_refl _)
    rw [prefOut, List.take_of_length_le (by rw [List.length_map]; exact Nat.le_refl _), List.length_cons] at h
    have := valid_30 hv
    omega
  | false =>
    have hO := hide (show rowOut r = [] by rw [rowOut, hv]; rfl)
    have HV := hide (row_valid r A n c w ha hn hs)
    have Hv := hide hv
    clear ha hs hw ht
    go_enter Tryd.func20, Tryd.ntmps20
    go_wp2_with fail
    refine HV.out.mono ?_
    rintro e w1 ⟨rfl, h1⟩
    rw [hv]
    have E1 := hide h1; clear h1 HV
    go_wp2_with fail
    go_ret
    exact ⟨by rw [hO.out]; rfl, E1.out⟩

set_option maxHeartbeats 1000000 in
set_option maxRecDepth 100000 in
theorem ref_row_show (r : List V) (A : Option Addr) (n c : Nat) (w : World) (ha : RowAt w A n r) (hn : n ≤ 1048576) (hs : smallR r) (hw : wfR r) :
    Calls Tryd.prog 21 #[.slice A n c] w fun e w' => e = .returned (.string ⟨(rowOut r).toArray⟩) ∧ Ext w w' := by
  have HV := hide (ref_valid r A n c w ha hn hs)
  have Ha := hide ha; have hl := hide ha.len
  have HS := hide (fun (v : V) (hm : v ∈ r) (hv : validV v = true) w' => ref_show v w' (hs v hm) hv (hw v hm).2)
  have HLn := hide (fun (v : V) (hm : v ∈ r) (hv : validV v = true) => valOut_len v hv (hw v hm).2)
  clear ha hs hw
  go_enter Tryd.func21, Tryd.ntmps21
  go_wp2_with fail
  refine HV.out.mono ?_
  rintro e w1 ⟨rfl, h1⟩
  have E1 := hide h1; clear h1 HV
  cases hv : validR r with
  | false =>
    have hO := hide (show rowOut r = [] by rw [rowOut, hv]; rfl)
    go_wp2_with fail
    go_ret
    exact ⟨by rw [hO.out]; rfl, E1.out⟩
  | true =>
    have hO := hide (show rowOut r = prefOut (r.map valOut) r.length ++ [41] by rw [rowOut, if_pos hv, showR_pref])
    have h30 : n ≤ 30 := by have := valid_30 hv; have := hl.out; omega
    have HA := hide (all_valid hv)
    have HP := hide (pref_len (r.map valOut) (fun x hx => by obtain ⟨v, hm, rfl⟩ := List.mem_map.1 hx; exact HLn.out v hm (HA.out v hm)))
    clear hv
    go_wp2_with fail
    go_loopw [3, 4] (fun s k w' => ∃ (i : Nat) (S : ByteArray), i ≤ n ∧ k = .int .i64 i ∧ s = .string S ∧ S.size ≤ 10000 ∧ Hid (S = ⟨(prefOut (r.map valOut) i).toArray⟩) ∧ Hid (Ext w w')) (fun _ k _ => n - (intOf k).toNat)
    case atStart => exact ⟨0, _, by omega, rfl, rfl, by decide, rfl, E1.out⟩
    case round =>
      obtain ⟨i, S, hin, rfl, rfl, hS, hS', hx⟩ := hrel
      by_cases h : i < n
      · obtain ⟨b, off, x, rfl, hx2, hb1, c0, c1, c2⟩ := (Ha.out.ext hx.out).get h
        have hm := List.mem_of_getElem? hx2
        have HC := hide (HS.out x hm (HA.out x hm) wr)
        have hlx := HLn.out x hm (HA.out x hm)
        have hxm : (r.map valOut)[i]? = some (valOut x) := by rw [List.getElem?_map, hx2]; rfl
        have hxm := hide hxm
        have hlen := hide (show (prefOut (r.map valOut) (i + 1)).length ≤ 8000 by
          have h1 := HP.out (i + 1) (by rw [List.length_map]; have := hl.out; omega)
          omega)
        have hszT : (⟨(valOut x).toArray⟩ : ByteArray).size ≤ 258 := by show (valOut x).toArray.size ≤ 258; rw [List.size_toArray]; exact hlx
        clear hx2 hm hlx
        rcases Nat.eq_zero_or_pos i with h0 | h0
        · subst h0
          simp only [Nat.zero_mul, Nat.add_zero] at c0 c1 c2
          have hcat := hide (show (S ++ ⟨(valOut x).toArray⟩ : ByteArray) = ⟨(prefOut (r.map valOut) (0 + 1)).toArray⟩ by
            rw [hS'.out, bytes_append, Nat.zero_add, pref_zero _ _ hxm.out])
          have hsz : (S ++ ⟨(valOut x).toArray⟩ : ByteArray).size ≤ 10000 := by
            rw [hcat.out]; show (prefOut (r.map valOut) (0 + 1)).toArray.size ≤ 10000; rw [List.size_toArray]; have := hlen.out; omega
          generalize (⟨(valOut x).toArray⟩ : ByteArray) = T at *
          go_wp2_with fail
          refine HC.out.mono ?_
          rintro e w3 ⟨rfl, x3⟩
          have X3 := hide (hx.out.trans x3); clear x3
          go_wp2_with fail
          go_roundw
          case rel => exact ⟨0 + 1, _, by omega, by go_num, rfl, hsz, hcat.out, X3.out⟩
          case measure => simp [intOf]; omega
        · have hcat := hide (show (S ++ ⟨#[44, 32]⟩ ++ ⟨(valOut x).toArray⟩ : ByteArray) = ⟨(prefOut (r.map valOut) (i + 1)).toArray⟩ by
            rw [hS'.out, show (⟨#[44, 32]⟩ : ByteArray) = ⟨([44, 32] : List UInt8).toArray⟩ from rfl, bytes_append, bytes_append, pref_succ _ i _ hxm.out h0])
          have hsz : (S ++ ⟨#[44, 32]⟩ ++ ⟨(valOut x).toArray⟩ : ByteArray).size ≤ 10000 := by
            rw [hcat.out]; show (prefOut (r.map valOut) (i + 1)).toArray.size ≤ 10000; rw [List.size_toArray]; have := hlen.out; omega
          generalize (⟨(valOut x).toArray⟩ : ByteArray) = T at *
          have h00 : (0 : Int) < (i : Int) := by omega
          go_wp2_with fail
          refine HC.out.mono ?_
          rintro e w3 ⟨rfl, x3⟩
          have X3 := hide (hx.out.trans x3); clear x3
          go_wp2_with fail
          go_roundw
          case rel => exact ⟨i + 1, _, by omega, by go_num, rfl, hsz, hcat.out, X3.out⟩
          case measure => simp [intOf]; omega
      · have hie : i = n := by omega
        have hcat := hide (show (S ++ ⟨#[41]⟩ : ByteArray) = ⟨(rowOut r).toArray⟩ by
          rw [hS'.out, hO.out, hie, hl.out]; exact bytes_append _ [41])
        go_wp2_with fail
        go_ret
        exact ⟨by rw [← hcat.out]; rfl, hx.out⟩

set_option maxRecDepth 100000 in
theorem law_shows (r : List V) (A : Option Addr) (n c : Nat) (w : World) (ha : RowAt w A n r) (hn : n ≤ 1048576) (hs : smallR r) (hw : wfR r) (ht : TabW w) :
    Calls Tryd.prog 4 #[.slice A n c] w fun e w' => e = .returned (.bool true) ∧ Ext w w' := by
  have Ha := hide ha; have Hs := hide hs; have Hw := hide hw; have Ht := hide ht; clear ha hs hw ht
  go_enter Tryd.func4, Tryd.ntmps4
  go_wp2_with fail
  refine (awake_any _).mono ?_
  rintro e w1 ⟨rfl, h1⟩
  have E1 := hide h1; clear h1
  go_wp2_with fail
  refine (copy_any r A n c _ (Ha.out.ext E1.out) (by omega)).mono ?_
  intro e w2 h2
  obtain ⟨A2, c2, rfl, h2, h3⟩ := h2.row
  have R2 := hide h2
  have E2 := hide (E1.out.trans h3); clear h2 h3
  go_wp2_with fail
  refine (row_show_any r A2 n c2 _ R2.out (by omega) Hs.out Hw.out (Ht.out.ext E2.out)).mono ?_
  rintro e w3 ⟨rfl, h1⟩
  have E3 := hide (E2.out.trans h1); clear h1
  go_wp2_with fail
  refine (ref_row_show r A n c _ (Ha.out.ext E3.out) (by omega) Hs.out Hw.out).mono ?_
  rintro e w4 ⟨rfl, h1⟩
  have E4 := hide (E3.out.trans h1); clear h1
  go_wp2_with fail
  go_ret
  exact ⟨by simp, E4.out⟩
end Go.Proofs.YtoahckibhmoikaaDoor
