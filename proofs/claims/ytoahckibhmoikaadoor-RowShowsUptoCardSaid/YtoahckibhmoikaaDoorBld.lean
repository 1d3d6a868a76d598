/-
  strings.Builder: copyCheck, WriteByte, WriteString at a builder that the call has made.
-/
import Derived.Test.YtoahckibhmoikaaDoorValidR
import Derived.Test.YtoahckibhmoikaaDoorShelf
import Derived.Lib.Builder
import Derived.Lib.AppendStr
import Derived.Laws.Externs
import Derived.Maps.AppendAt
namespace Go.Proofs.YtoahckibhmoikaaDoor
open Go.RowKit

/-- a builder that the call has made, holding these bytes -/
def BAt (w0 : World) (b : Nat) (bs : List Value) (w : World) : Prop := Lib.IsBuilder 75 5 w0.heap.size b bs w
theorem infoBy : (Tryd.prog.info? 5).map (fun i => (i.zero, i.size, i.bytes)) = some (some (.int .u8 0), 1, 1) := by kernel_rfl
theorem sizeBuilder : (Tryd.prog.info? 75).map (·.size) = some 2 := by kernel_rfl
theorem liesBuilder : liesAt Tryd.prog Tryd.prog.depth 75 (2 / Tryd.prog.cellsOf 75) 0 75 1 = true := by kernel_rfl
theorem neBuilder : (75 : TypeId) ≠ 5 := by decide

set_option maxRecDepth 100000 in
theorem copyCheck_used (b : Nat) (w : World) (h0 : w.cell? ⟨b, 0, none⟩ = some (.pointer (some ⟨b, 0, none⟩))) :
    Calls Tryd.prog 71 #[.pointer (some ⟨b, 0, none⟩)] w fun e w' => e = .returned (.tuple #[]) ∧ w' = w := by
  obtain ⟨j, hj, _⟩ := Option.map_eq_some_iff.1 sizeBuilder
  go_enter Tryd.func71, Tryd.ntmps71
  go_wp2
  rw [Lib.run_neq_ptr_same w _ Tryd.underlying73 hj]
  go_wp2
  go_end0
  exact ⟨rfl, rfl⟩
set_option maxRecDepth 100000 in
theorem copyCheck_fresh (b : Nat) (w : World) (h0 : w.cell? ⟨b, 0, none⟩ = some (.pointer none)) (hsh : w.shape? b = some (75, 2)) (hfz : w.frozen? ⟨b, 0, none⟩ = false) :
    Calls Tryd.prog 71 #[.pointer (some ⟨b, 0, none⟩)] w fun e w' => e = .returned (.tuple #[]) ∧ w' = w.setCell ⟨b, 0, none⟩ (.pointer (some ⟨b, 0, none⟩)) := by
  obtain ⟨j, hj, hjs⟩ := Option.map_eq_some_iff.1 sizeBuilder
  go_enter Tryd.func71, Tryd.ntmps71
  go_wp2
  rw [Lib.run_to_unsafe w ⟨b, 0, none⟩ Tryd.underlying73 Tryd.underlying112 hj (by rw [hjs]; decide) hsh (Nat.zero_lt_succ 1)]
  simp only [Result.andThen]
  rw [Oper.upon_value]
  go_wp2
  rw [run_callFunc_extern Tryd.func91 (by kernel_rfl) (by kernel_rfl) (by kernel_rfl) (e := Extern.AbiNoEscape.same) (by kernel_rfl)]
  rw [Lib.run_noEscape]
  simp only [Result.andThen]
  rw [Oper.upon_value]
  go_wp2
  rw [Lib.run_from_unsafe w ⟨b, 0, none⟩ Tryd.underlying112 Tryd.underlying73 hj hsh liesBuilder]
  simp only [Result.andThen]
  rw [Oper.upon_value]
  go_wp2
  go_end0
  exact ⟨rfl, rfl⟩
theorem copyCheck_any (w0 : World) (b : Nat) (bs : List Value) (w : World) (h : BAt w0 b bs w) :
    Calls Tryd.prog 71 #[.pointer (some ⟨b, 0, none⟩)] w fun e w' => e = .returned (.tuple #[]) ∧ (Lib.BuilderAt 75 5 w0.heap.size b (.pointer (some ⟨b, 0, none⟩)) bs w' ∧ Below w0.heap.size w w') := by
  rcases h with h | h
  · refine (copyCheck_fresh b w h.cell0 h.shape h.frozen0).mono ?_
    rintro e w' ⟨rfl, rfl⟩
    exact ⟨rfl, h.used _, (Below.refl w0.heap.size w).setCell (p := ⟨b, 0, none⟩) h.1 _⟩
  · refine (copyCheck_used b w h.cell0).mono ?_
    rintro e w' ⟨rfl, rfl⟩
    exact ⟨rfl, h, Below.refl w0.heap.size _⟩

theorem own_form {w : World} {B : Nat} {e : TypeId} {v : Value} {n : Nat} {xs : List Value} (h : w.ownsRow B e 1 v n xs) : ∃ A c, v = .slice A n c := by
  rcases h.2 with ⟨hv, h0⟩ | ⟨g, c, _, hv, _⟩
  · exact ⟨none, 0, by rw [hv, h0]⟩
  · exact ⟨_, _, hv⟩
theorem below_trans {w0 a b : World} (h : Ext w0 a) (k : Below w0.heap.size a b) : Ext w0 b := Below.trans h k
theorem builder_form {w0 w : World} {b : Nat} {p : Value} {bs : List Value} (h : Lib.BuilderAt 75 5 w0.heap.size b p bs w) : ∃ A c, w0.heap.size ≤ b ∧ Blk w b 75 #[p, .slice A bs.length c] ∧ w.ownsRow w0.heap.size 5 1 (.slice A bs.length c) bs.length bs := by
  obtain ⟨hB, v, hb, ho, _⟩ := h
  obtain ⟨A, c, rfl⟩ : ∃ A c, v = .slice A bs.length c := by
    rcases ho.2 with ⟨hv, h0⟩ | ⟨g, c, _, hv, _⟩
    · exact ⟨none, 0, by rw [hv, h0]⟩
    · exact ⟨_, _, hv⟩
  exact ⟨A, c, hB, hb, ho⟩
set_option maxHeartbeats 2000000 in
set_option maxRecDepth 100000 in
theorem write_byte (w0 : World) (b : Nat) (l : List UInt8) (c : UInt8) (w : World) (h : BAt w0 b (Lib.byteCells l) w) (hlen : l.length ≤ 16777216) (hE : Ext w0 w) :
    Calls Tryd.prog 56 #[.pointer (some ⟨b, 0, none⟩), .int .u8 (c.toNat : Int)] w fun e w' => e = .returned .nilIface ∧ BAt w0 b (Lib.byteCells (l ++ [c])) w' ∧ Ext w0 w' := by
  obtain ⟨i0, hi, hz0, hz1, hz2⟩ := info_parts infoBy
  have hbl : (Lib.byteCells l).length = l.length := Lib.byteCells_length l
  have HAP := hide (show Lib.byteCells (l ++ [c]) = Lib.byteCells l ++ [.int .u8 (c.toNat : Int)] by simp [Lib.byteCells])
  have hbn : (Lib.byteCells l).length ≤ 16777216 := by omega
  generalize Lib.byteCells l = bs at *
  have HCC := hide (copyCheck_any w0 b bs w h)
  have HE := hide hE
  clear h hbl hE
  go_enter Tryd.func56, Tryd.ntmps56
  go_wp2_with fail
  refine HCC.out.mono ?_
  rintro e w1 ⟨rfl, h1, hb1⟩
  obtain ⟨A, cc, hB, hbk, hown⟩ := builder_form h1
  have c1 : w1.cell? ⟨b, 1, none⟩ = some (.slice A bs.length cc) := hbk.cell 1
  have HE1 := hide (below_trans HE.out hb1)
  have HOW := hide (hown.alloc (.cells #[.int .u8 (c.toNat : Int)] 5))
  have HEA := hide (HE1.out.alloc' (.cells #[.int .u8 (c.toNat : Int)] 5))
  have HNW := hide (Blk.new w1 5 #[.int .u8 (c.toNat : Int)])
  have HBA := hide (hbk.ext (Ext.alloc w1 (.cells #[.int .u8 (c.toNat : Int)] 5)))
  have HNE := hide (own_ne_blk HOW.out HBA.out (by decide))
  have HHB := hide hB
  clear h1 hbk hown hb1 hB
  go_wp2_with (at_builtin; refine wpList_append_sl rfl (.tmp 11) (.tmp 13) _ rfl 5 i0 _ 1 1 Tryd.underlying38 hi hz0 hz1 hz2 rfl (by omega) w0 HEA.out _ bs.length bs rfl HOW.out _ 1 1 [.int .u8 (c.toNat : Int)] rfl (HNW.out.sl (n := 1) (size := 1) rfl) (by intro v hv; obtain rfl := List.mem_singleton.1 hv; rfl) (by unfold maxLen; omega) (by omega) ?_; intro A7 c7 w7 o7 x7 g7 _; have HB7 := hide (HBA.out.grown g7.out HNE.out); have d1 : w7.cell? ⟨b, 1, none⟩ = some (.slice A bs.length cc) := HB7.out.cell 1; have d2 : w7.frozen? ⟨b, 1, none⟩ = false := HB7.out.frozen 1)
  go_ret
  refine ⟨rfl, .inr ?_, x7.out.setCell HHB.out _⟩
  rw [HAP.out]
  have h1 := o7.out
  have := Lib.BuilderAt.put (T := 75) (e := 5) (bs' := bs ++ [.int .u8 (c.toNat : Int)]) HHB.out HB7.out (by simpa using h1) neBuilder
  simpa using this
set_option maxHeartbeats 2000000 in
set_option maxRecDepth 100000 in
theorem write_text (w0 : World) (b : Nat) (l : List UInt8) (s : ByteArray) (w : World) (h : BAt w0 b (Lib.byteCells l) w) (hlen : l.length ≤ 16777216) (hs : s.size ≤ 16777216) (hE : Ext w0 w) :
    Calls Tryd.prog 60 #[.pointer (some ⟨b, 0, none⟩), .string s] w fun e w' => e = .returned (.tuple #[.int .i64 s.size, .nilIface]) ∧ BAt w0 b (Lib.byteCells (l ++ s.data.toList)) w' ∧ Ext w0 w' := by
  obtain ⟨i0, hi, hz0, hz1, hz2⟩ := info_parts infoBy
  have hbl : (Lib.byteCells l).length = l.length := Lib.byteCells_length l
  have HAP := hide (show Lib.byteCells (l ++ s.data.toList) = Lib.byteCells l ++ Lib.strCells s by simp [Lib.byteCells, Lib.strCells])
  have hbn : (Lib.byteCells l).length ≤ 16777216 := by omega
  generalize Lib.byteCells l = bs at *
  have HCC := hide (copyCheck_any w0 b bs w h)
  have HE := hide hE
  clear h hbl hE
  go_enter Tryd.func60, Tryd.ntmps60
  go_wp2_with fail
  refine HCC.out.mono ?_
  rintro e w1 ⟨rfl, h1, hb1⟩
  obtain ⟨A, cc, hB, hbk, hown⟩ := builder_form h1
  have c1 : w1.cell? ⟨b, 1, none⟩ = some (.slice A bs.length cc) := hbk.cell 1
  have HE1 := hide (below_trans HE.out hb1)
  have HSZ := hide HE1.out.size
  have HOW := hide hown
  have HBA := hide hbk
  have HNE := hide (own_ne_blk HOW.out HBA.out (by decide))
  have HHB := hide hB
  clear h1 hbk hown hb1 hB
  go_wp2_with (at_builtin; refine Lib.wpList_append_own_string _ rfl (.tmp 12) (.tmp 13) 38 9 rfl w0.heap.size 5 i0 Tryd.underlying38 Tryd.underlying9 hi hz0 hz1 hz2 (.slice A bs.length cc) bs.length bs rfl HOW.out s rfl (by unfold maxLen; omega) (by omega) HSZ.out ?_; intro v7 w7 o7 g7 n7; obtain ⟨A7, c7, rfl⟩ := own_form o7; have O7 := hide o7; have HX7 := hide (show Ext w0 w7 from Below.grown HE1.out g7 HSZ.out (fun k hk => (HOW.out.lt k hk).1)); have HB7 := hide (HBA.out.grown g7 HNE.out); have d1 : w7.cell? ⟨b, 1, none⟩ = some (.slice A bs.length cc) := HB7.out.cell 1; have d2 : w7.frozen? ⟨b, 1, none⟩ = false := HB7.out.frozen 1; clear o7 g7 n7)
  go_ret2
  refine ⟨rfl, .inr ?_, HX7.out.setCell HHB.out _⟩
  rw [HAP.out]
  have h1 := O7.out
  exact Lib.BuilderAt.put (T := 75) (e := 5) (bs' := bs ++ Lib.strCells s) HHB.out HB7.out (by simpa [Lib.strCells_length] using h1) neBuilder
end Go.Proofs.YtoahckibhmoikaaDoor
