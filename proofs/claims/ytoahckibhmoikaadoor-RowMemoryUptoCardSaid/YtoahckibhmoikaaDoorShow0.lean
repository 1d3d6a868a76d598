/-
  Show of a row, its values' texts being known; the laws' own awake().
-/
import Derived.Test.YtoahckibhmoikaaDoorValidR
import Derived.Test.YtoahckibhmoikaaDoorShelf
import Derived.Deep.Draws
namespace Go.Proofs.YtoahckibhmoikaaDoor
open Go.RowKit

theorem infoS : (Tryd.prog.info? 9).map (fun i => (i.zero, i.size, i.bytes)) = some (some (Value.string .empty), 1, 16) := by kernel_rfl

theorem val_show_small (i : Nat) (hi : i < 100) (w : World) : Calls Tryd.prog 42 #[V.val ⟨1, i, ⟨#[]⟩⟩] w fun e w' => e = .returned (.string ⟨(Lib.decDigits i).toArray⟩) ∧ Ext w w' := by
  have H := hide (val_valid ⟨1, i, ⟨#[]⟩⟩ (w.alloc (.cells #[.int .i64 1, .int .i64 i, .string ⟨#[]⟩] 54)) (Nat.zero_le _))
  have HE := hide (Ext.alloc w (.cells #[.int .i64 1, .int .i64 i, .string ⟨#[]⟩] 54))
  have hc := CellsAt.new w [.int .i64 1, .int .i64 i, .string ⟨#[]⟩] 54 (0, 0)
  simp only [V.val] at *
  go_enter Tryd.func42, Tryd.ntmps42
  go_wp2_with fail
  refine H.out.mono ?_
  rintro e w1 ⟨rfl, h1⟩
  have c0 := h1.cell (hc 0 _ rfl)
  have c1 := h1.cell (hc 1 _ rfl)
  have E1 := hide (HE.out.trans h1); clear h1 hc
  rw [show validV ⟨1, (i : Int), ⟨#[]⟩⟩ = true by simp [validV]]
  go_wp2_with fail
  refine (Tryd.strconv_FormatInt_10_small i hi _).mono ?_
  rintro e w2 ⟨rfl, rfl⟩
  go_wp2_with fail
  go_ret
  exact ⟨rfl, E1.out⟩

theorem bytes_append (a b : List UInt8) : (⟨a.toArray⟩ ++ ⟨b.toArray⟩ : ByteArray) = ⟨(a ++ b).toArray⟩ := by
  apply ByteArray.ext
  rw [ByteArray.data_append]; simp

def showR (sv : V → List UInt8) (r : List V) : List UInt8 := 40 :: (Lib.join (r.map sv) [44, 32] ++ [41])
def wordsAt (sv : V → List UInt8) (r : List V) (i : Nat) : Array Value := ((r.take i).map (fun v => Value.string ⟨(sv v).toArray⟩) ++ List.replicate (r.length - i) (Value.string .empty)).toArray
theorem wordsAt_size (sv : V → List UInt8) (r : List V) (i : Nat) (h : i ≤ r.length) : (wordsAt sv r i).size = r.length := by simp [wordsAt]; omega
theorem wordsAt_get (sv : V → List UInt8) (r : List V) (i : Nat) (h : i < r.length) : (wordsAt sv r i)[i]? = some (Value.string .empty) := by
  simp only [wordsAt, List.getElem?_toArray]
  rw [List.getElem?_append_right (by simp; omega)]
  simp only [List.length_map, List.length_take]
  rw [List.getElem?_replicate]
  simp; omega
theorem wordsAt_set (sv : V → List UInt8) (r : List V) (i : Nat) (v : V) (h : r[i]? = some v) : (wordsAt sv r i).setIfInBounds i (.string ⟨(sv v).toArray⟩) = wordsAt sv r (i + 1) := by
  have hl : i < r.length := (List.getElem?_eq_some_iff.1 h).1
  have ht : r.take (i + 1) = r.take i ++ [v] := by rw [List.take_add_one, h]; rfl
  have hr : List.replicate (r.length - i) (Value.string .empty) = .string .empty :: List.replicate (r.length - (i + 1)) (Value.string .empty) := by
    rw [show r.length - i = (r.length - (i + 1)) + 1 by omega, List.replicate_succ]
  unfold wordsAt
  rw [ht, hr, List.setIfInBounds_toArray]
  congr 1
  rw [List.set_append_right _ _ (by simp; omega)]
  simp [Nat.min_eq_left (Nat.le_of_lt hl)]
theorem wordsAt_end (sv : V → List UInt8) (r : List V) : wordsAt sv r r.length = ((r.map fun v => (⟨(sv v).toArray⟩ : ByteArray)).map Value.string).toArray := by
  simp [wordsAt]
theorem wordsAt_zero (sv : V → List UInt8) (r : List V) : madeCells #[.string .empty] r.length = wordsAt sv r 0 := by
  have := toList_madeCells_one (Value.string .empty) r.length
  apply Array.toList_inj.1
  rw [this]; simp [wordsAt]

set_option maxRecDepth 100000 in
theorem row_show (sv : V → List UInt8) (r : List V) (A : Option Addr) (n c : Nat) (w : World) (ha : RowAt w A n r) (hn : n ≤ 1048576) (hs : smallR r) (hv : validR r = true)
    (H : ∀ v ∈ r, ∀ w', Ext w w' → Calls Tryd.prog 42 #[v.val] w' fun e w'' => e = .returned (.string ⟨(sv v).toArray⟩) ∧ Ext w' w'')
    (hj : (Lib.join (r.map sv) [44, 32]).length ≤ 1048576) :
    Calls Tryd.prog 20 #[.slice A n c] w fun e w' => e = .returned (.string ⟨(showR sv r).toArray⟩) ∧ Ext w w' := by
  have Ha := hide ha; have HV := hide (row_valid r A n c w ha hn hs)
  have hl := hide ha.len
  have h30 : n ≤ 30 := by have := ha.len; simp [validR] at hv; omega
  have HH := hide H; have Hj := hide hj; have Hv := hide hv
  obtain ⟨i0, hi0, hz0, hz1, hz2⟩ := info_parts infoS
  have hmk := run_make_n (P := Tryd.prog) 59 9 i0 _ Tryd.underlying59 hi0 hz0 (by omega) .i64 .i64 n (by omega)
  simp only [hz1, Nat.mul_one, Value.cells] at hmk
  clear ha H hj hv hs hz0 hz1 hz2 hi0
  go_enter Tryd.func20, Tryd.ntmps20
  go_wp2_with fail
  refine HV.out.mono ?_
  rintro e w1 ⟨rfl, h1⟩
  rw [Hv.out]
  have E1 := hide h1; clear h1 HV
  go_wp2_with fail
  have E2 := hide (E1.out.trans (Ext.alloc w1 (.cells (madeCells #[.string .empty] n) 9)))
  have B2 := hide (Blk.new w1 9 (madeCells #[.string .empty] n))
  clear hmk
  go_loopw [4, 5, 14] (fun _ _ k w' => ∃ i : Nat, i ≤ n ∧ k = .int .i64 i ∧ Hid (Blk w' w1.heap.size 9 (wordsAt sv r i)) ∧ Hid (Ext w w') ∧ Hid (w1.heap.size < w'.heap.size)) (fun _ _ k _ => n - (intOf k).toNat)
  case atStart => exact ⟨0, by omega, rfl, by have e := wordsAt_zero sv r; rw [← hl.out] at e; rw [Hid, ← e]; exact B2.out, E2.out, B2.out.lt⟩
  case round =>
    obtain ⟨i, hin, rfl, hb, hw, hlt⟩ := hrel
    by_cases h : i < n
    · obtain ⟨b, off, x, rfl, hx, hb1, c0, c1, c2⟩ := (Ha.out.ext hw.out).get h
      have Hx := hide hx
      have hmem := hide (List.mem_of_getElem? hx); clear hx
      go_wp2_with fail
      refine (HH.out x hmem.out _ ?_).mono ?_
      · exact hw.out.trans (Ext.alloc _ _)
      rintro e w2 ⟨rfl, h2⟩
      have E3 := hide ((hw.out.trans (Ext.alloc _ _)).trans h2)
      have b3 := (hb.out.ext (Ext.alloc _ _)).ext h2
      have hcell := b3.cell i
      rw [wordsAt_get sv r i (by have := hl.out; omega)] at hcell
      have hfr := b3.frozen i
      have B3 := hide (b3.set_ i (.string ⟨(sv x).toArray⟩))
      have hlt2 := hide b3.lt
      have hi0 : (0 : Int) ≤ (i : Int) := by omega
      have hi1 : (i : Int) < (n : Int) := by omega
      clear h2 b3 c0 c1 c2 hb1
      go_wp2_with fail
      go_roundw
      case rel => exact ⟨i + 1, by omega, by go_num, by have := B3.out; rw [wordsAt_set sv r i x Hx.out] at this; exact this, E3.out.setCell E1.out.size _, by simpa [Hid, World.setCell] using hlt2.out⟩
      case measure => simp [intOf]; omega
    · have hin' : i = n := by omega
      have hbb := hb.out
      rw [hin', hl.out, wordsAt_end] at hbb
      have hlen : (r.map fun v => (⟨(sv v).toArray⟩ : ByteArray)).length = n := by rw [List.length_map]; exact hl.out.symm
      obtain ⟨J, hJe⟩ : ∃ J, J = Lib.join (r.map sv) [44, 32] := ⟨_, rfl⟩
      have hJl : J.length ≤ 1048576 := by rw [hJe]; exact Hj.out
      have hJ := Tryd.strings_Join w1.heap.size 0 n (r.map fun v => (⟨(sv v).toArray⟩ : ByteArray)) ⟨#[44, 32]⟩ wr (fun j x hx => by rw [Nat.zero_add, hbb.cell]; simpa using hx) hlt.out (by omega) (by omega) (by
        rw [List.map_map]; exact Nat.le_trans Hj.out (by omega))
      rw [hlen, List.map_map] at hJ
      have hJ : Hid (Calls Tryd.prog 43 #[.slice (some ⟨w1.heap.size, 0, none⟩) n n, .string ⟨#[44, 32]⟩] wr fun e w' => e = .returned (.string ⟨J.toArray⟩) ∧ Below wr.heap.size wr w') := by rw [hJe]; exact hJ
      have HJe := hide hJe
      clear hbb hin' hlen hJe
      go_wp2_with fail
      refine hJ.out.mono ?_
      rintro e w2 ⟨rfl, h2⟩
      have E3 := hide (hw.out.trans h2); clear h2 hJ
      go_wp2_with fail
      go_ret
      refine ⟨?_, E3.out⟩
      have e : (⟨#[40]⟩ ++ ⟨J.toArray⟩ ++ ⟨#[41]⟩ : ByteArray) = ⟨(showR sv r).toArray⟩ := by
        rw [showR, ← HJe.out, show (⟨#[40]⟩ : ByteArray) = ⟨([40] : List UInt8).toArray⟩ from rfl, show (⟨#[41]⟩ : ByteArray) = ⟨([41] : List UInt8).toArray⟩ from rfl, bytes_append, bytes_append]; rfl
      exact congrArg (fun s => Ending.returned (.string s)) e

theorem dec5 : Lib.decDigits 5 = [53] := by kernel_rfl

theorem awake_any (w : World) : Calls Tryd.prog 16 #[] w fun e w' => e = .returned (.bool true) ∧ Ext w w' := by
  have ha := RowAt.lit w [⟨1, 5, ⟨#[]⟩⟩] 54
  have E0 := hide (Ext.alloc w (.cells (cellsR [⟨1, 5, ⟨#[]⟩⟩]).toArray 54))
  have hsm : smallR [⟨1, 5, ⟨#[]⟩⟩] := fun v hv => by
    obtain rfl : v = ⟨1, 5, ⟨#[]⟩⟩ := by simpa using hv
    exact Nat.zero_le _
  have HS := hide (row_show (fun _ => [53]) [⟨1, 5, ⟨#[]⟩⟩] _ 1 1 _ ha (by omega) hsm (by simp [validR, validV]) (fun v hv w' _ => by
    obtain rfl : v = ⟨1, 5, ⟨#[]⟩⟩ := by simpa using hv
    have := val_show_small 5 (by omega) w'
    rw [dec5] at this
    exact this) (by decide))
  have HV := hide (fun w' => row_valid [] none 0 0 w' (RowAt.nil _ _) (by omega) (by simp [smallR]))
  rw [show showR (fun _ => [53]) [⟨1, 5, ⟨#[]⟩⟩] = [40, 53, 41] by decide] at HS
  clear ha
  simp only [cellsR, V.cells, List.append_nil] at HS E0
  go_enter Tryd.func16, Tryd.ntmps16
  go_wp2_with fail
  refine HS.out.mono ?_
  rintro e w1 ⟨rfl, h1⟩
  have E1 := hide (E0.out.trans h1); clear h1 HS
  go_wp2_with fail
  refine (HV.out _).mono ?_
  rintro e w2 ⟨rfl, h1⟩
  have E2 := hide (E1.out.trans h1); clear h1 HV
  rw [show validR [] = true from rfl]
  go_wp2_with fail
  go_ret
  exact ⟨rfl, E2.out⟩
end Go.Proofs.YtoahckibhmoikaaDoor
