/-
  The document's RowsOf and Head: the walks.
-/
import Derived.Test.YtpfjkjmimmklcaaNaiS
import Derived.Test.YtpfjkjmimmklcaaNaiNV
import Derived.Test.YtpfjkjmimmklcaaNaiQ
import Derived.Test.YtpfjkjmimmklcaaHomG
import Derived.Test.YtpfjkjmimmklcaaRowsG
namespace Go.Proofs.Ytpfjkjmimmklcaa
open Go.RowKit

theorem rowsOfP_next {data : List Tbl} {i : Nat} {t : Tbl} (h : data[i]? = some t) (rel : ByteArray) : rowsOfP (data.take (i + 1)) rel = rowsOfP (data.take i) rel ++ (if t.rel = rel then t.rows else []) := by
  rw [take_next data i t h]
  unfold rowsOfP
  rw [List.flatMap_append]
  simp
theorem rowsOfP_le (data : List Tbl) (rel : ByteArray) : (rowsOfP data rel).length ≤ (data.flatMap Tbl.rows).length := by
  induction data with
  | nil => simp [rowsOfP]
  | cons t data ih =>
    have e : rowsOfP (t :: data) rel = (if t.rel = rel then t.rows else []) ++ rowsOfP data rel := by simp [rowsOfP]
    rw [e, List.flatMap_cons, List.length_append, List.length_append]
    split
    · omega
    · rw [List.length_nil]; omega
theorem flat_take_le (data : List Tbl) (i : Nat) : ((data.take i).flatMap Tbl.rows).length ≤ (data.flatMap Tbl.rows).length := by
  have e : data.flatMap Tbl.rows = (data.take i).flatMap Tbl.rows ++ (data.drop i).flatMap Tbl.rows := by rw [← List.flatMap_append, List.take_append_drop]
  rw [e, List.length_append]; omega
/-- rows that were there, in a list of the call's own -/
def RetRo (w0 : World) (rows : List (List V)) (en : Ending) (w' : World) : Prop :=
  ∃ A c cells, en = .returned (.slice A rows.length c) ∧ w'.ownsRow w0.heap.size 35 1 (.slice A rows.length c) rows.length cells ∧ Els RRow 1 w' cells rows ∧ Ext w0 w'
set_option maxHeartbeats 2000000 in
set_option maxRecDepth 100000 in
theorem ref_rowsOf (data : List Tbl) (rel : ByteArray) (A : Option Addr) (n c : Nat) (w : World) (ha : LAt RB 2 w A n data) (hn : n ≤ 1048576) (hsum : (data.flatMap Tbl.rows).length ≤ 1099511627776) :
    Calls Try.prog 33 #[.slice A n c, .string rel] w (RetRo w (rowsOfP data rel)) := by
  obtain ⟨i0, hi0, hz0, hz1, hz2⟩ := info_parts infoRw
  have Ha := hide ha; have Hl := hide ha.len
  have HS := hide hsum
  clear ha hsum
  go_enter Try.func33, Try.ntmps33
  go_wp2_with fail
  go_loopw [5, 6] (fun s5 s6 w' => ∃ (i k : Nat) (A' : Option Addr) (c' : Nat) (cells : List Value), i ≤ n ∧ s6 = .int .i64 i ∧ s5 = .slice A' k c' ∧ Hid (k = (rowsOfP (data.take i) rel).length) ∧ Hid (w'.ownsRow w.heap.size 35 1 (.slice A' k c') k cells) ∧ Hid (Els RRow 1 w cells (rowsOfP (data.take i) rel)) ∧ Hid (Ext w w')) (fun _ s6 _ => n - (intOf s6).toNat)
  case atStart => exact ⟨0, 0, none, 0, [], by omega, rfl, rfl, rfl, World.ownsRow_nil _ _ _ _, by simpa [Hid, rowsOfP] using Els.nil, Ext.refl _⟩
  case round =>
    obtain ⟨i, k, A', c', cells, hin, rfl, rfl, hk, ho, he, hX⟩ := hrel
    by_cases h : i < n
    · obtain ⟨b, off, t, A9, n9, c9, rfl, hx, hb1, d0, d1, hR⟩ := (Ha.out.ext RB.stab hX.out).tab_ h
      obtain ⟨_, _, t2, A8, n8, c8, hA, hx2, _, g0, g1, hR2⟩ := Ha.out.tab_ h
      injection hA with hA; injection hA with e1 e2; subst e1; subst e2
      obtain rfl : t2 = t := Option.some.inj (hx2.symm.trans hx)
      have hA9 : A8 = A9 ∧ n8 = n9 ∧ c8 = c9 := by
        have := (hX.out.cell g1).symm.trans d1
        injection this with this
        injection this with q1 q2 q3
        exact ⟨q1, q2, q3⟩
      obtain ⟨rfl, rfl, rfl⟩ := hA9
      have HN := hide (rowsOfP_next hx rel)
      have HK := hide (show k + n8 ≤ 1099511627776 from by
        have h1 := hk.out
        have h2 := rowsOfP_le (data.take (i + 1)) t2.rel
        have h3 := flat_take_le data (i + 1)
        have h4 := flat_take_le data i
        have h5 := rowsOfP_le (data.take i) rel
        have h6 := HS.out
        have h7 : (data.take (i + 1)).flatMap Tbl.rows = (data.take i).flatMap Tbl.rows ++ t2.rows := by rw [take_next data i t2 hx, List.flatMap_append]; simp
        have h8 := hR2.len
        have h9 : ((data.take i).flatMap Tbl.rows).length + t2.rows.length ≤ (data.flatMap Tbl.rows).length := by rw [← List.length_append, ← h7]; exact h3
        omega)
      have HR2 := hide hR2
      clear hx hx2 hb1 hR hR2 g0 g1
      by_cases hrel : t2.rel = rel
      · have hr2 : (t2.rel.toList == rel.toList) = true := by rw [hrel]; simp
        have HR3 := hide hrel; clear hrel
        obtain ⟨cs9, hE9, hS9⟩ := HR2.out.sl
        have HE9 := hide hE9; have HS9 := hide hS9; clear hE9 hS9
        go_wp2_with (at_builtin; refine wpList_append_sl rfl (.tmp 20) (.tmp 25) _ rfl 35 i0 _ 1 24 Try.underlying27 hi0 hz0 hz1 hz2 rfl (by omega) w hX.out _ k cells rfl ho.out _ n8 c8 cs9 rfl (HS9.out.ext hX.out) HE9.out.one (by have := HK.out; unfold maxLen; omega) (by have := HK.out; omega) ?_; intro A7 c7 w7 own7 E7 G7 L7)
        go_roundw
        case rel =>
          refine ⟨i + 1, k + n8, A7, c7, cells ++ cs9, by omega, by go_num, rfl, ?_, own7.out, ?_, E7.out⟩
          · rw [Hid, HN.out, if_pos HR3.out, List.length_append, ← hk.out, HR2.out.len]
          · rw [Hid, HN.out, if_pos HR3.out]; exact he.out.append HE9.out
        case measure => simp [intOf]; omega
      · have hr2 : (t2.rel.toList == rel.toList) = false := by simpa using fun e => hrel ((bytes_toList t2.rel rel).1 e)
        have HR3 := hide hrel; clear hrel
        go_wp2_with fail
        go_roundw
        case rel => exact ⟨i + 1, k, A', c', cells, by omega, by go_num, rfl, by rw [Hid, HN.out, if_neg HR3.out, List.append_nil]; exact hk.out, ho.out, by rw [Hid, HN.out, if_neg HR3.out, List.append_nil]; exact he.out, hX.out⟩
        case measure => simp [intOf]; omega
    · obtain rfl : i = n := by omega
      have hk2 := hk.out
      have he2 := he.out
      rw [List.take_of_length_le (by have := Hl.out; omega)] at hk2 he2
      subst hk2
      have HF := hide he2; clear he2
      go_wp2_with fail
      go_ret
      exact ⟨A', c', cells, rfl, ho.out, HF.out.ext RRow.stab hX.out, hX.out⟩

theorem headV_take {hs : List Nat} {vals : List V} {i h : Nat} {x : V} (hi : hs[i]? = some h) (hx : vals[h]? = some x) (k : Nat) (hk : i < k) :
    (headV (hs.take i) vals ++ List.replicate (k - i) zeroV).set i x = headV (hs.take (i + 1)) vals ++ List.replicate (k - (i + 1)) zeroV := by
  obtain ⟨hlt, _⟩ := List.getElem?_eq_some_iff.1 hi
  have e1 : (headV (hs.take i) vals).length = i := by simp [headV]; omega
  have e2 : headV (hs.take (i + 1)) vals = headV (hs.take i) vals ++ [x] := by
    unfold headV
    rw [take_next hs i h hi, List.map_append, List.map_singleton, List.getD_eq_getElem?_getD, hx]
    rfl
  rw [e2, show k - i = (k - (i + 1)) + 1 by omega, List.replicate_succ, List.set_append_right _ _ (by omega), e1, Nat.sub_self]
  simp
set_option maxHeartbeats 2000000 in
set_option maxRecDepth 100000 in
theorem ref_head (q : Qy) (L : QLoc) (vals : List V) (A : Option Addr) (n c : Nat) (w : World) (hq : QAt w L q) (hM : smallM 1048576 q) (hsh : Shaped q) (hv : RowAt w A n vals) (hn : n = (varsQ q).length) :
    Calls Try.prog 35 #[qval q.name L, .slice A n c] w (RetOwn w 58 3 q.head.length (cellsR (headV (q.head.map (atN (varsQ q))) vals))) := by
  have hm6 : L.m ≤ 512 := by have := hq.atoms.len; have := hsh.six; omega
  have h60 := vars_sixty hsh
  have HVS := hide (fun w1 (h1 : Ext w w1) => ref_vars q L w1 (hq.ext h1) hM hm6)
  have HAT := hide (fun (x : ByteArray) (A3 : Option Addr) (n3 c3 : Nat) (w3 : World) (h3 : LAt RS 1 w3 A3 n3 (varsQ q)) => ref_at (varsQ q) x A3 n3 c3 w3 h3 (by have := h3.len; omega))
  have HPC := hide (show ∀ x ∈ q.head, ∃ p : Nat, p < (varsQ q).length ∧ atN (varsQ q) x = p ∧ firstI (eqB x) (varsQ q) 0 = (p : Int) from fun x hx => by
    obtain ⟨p, h1, h2⟩ := at_mem (mem_vars.2 (hsh.safe x hx))
    exact ⟨p, (List.getElem?_eq_some_iff.1 h2).1, by unfold atN; rw [h1]; rfl, h1⟩)
  have HQ := hide hq; have HV := hide hv
  have HHL := hide (show L.n = q.head.length ∧ q.head.length ≤ 1048576 from ⟨hq.head.len, hM.headL⟩)
  have HVL := hide (show vals.length = n from hv.len.symm)
  clear hq hM hsh hv
  generalize varsQ q = vs at *
  subst hn
  obtain ⟨nm, hd, as_⟩ := q
  obtain ⟨HA, k, cA, HB', km, d⟩ := L
  simp only [qval] at *
  obtain rfl : k = hd.length := HHL.out.1
  obtain ⟨i0, hi0, hz0, hz1, hz2⟩ := info_parts infoV
  have hmk := run_make_n (P := Try.prog) 35 58 i0 _ Try.underlying35 hi0 hz0 (by omega) .i64 .i64 hd.length (by have := HHL.out.2; omega)
  simp only [hz1, Value.cells] at hmk
  clear hz1 hz2 hz0 hi0
  have HBk := hide (Blk.new w 25 #[.string nm, .slice HA hd.length cA, .slice HB' km d])
  have HE := hide (Ext.alloc w (.cells #[.string nm, .slice HA hd.length cA, .slice HB' km d] 25))
  generalize hW : w.alloc (.cells #[.string nm, .slice HA hd.length cA, .slice HB' km d] 25) = W at *
  have HW := hide hW; clear hW
  have a0 : W.cell? ⟨w.heap.size, 0, none⟩ = some (.string nm) := HBk.out.cell 0
  have a1 : W.cell? ⟨w.heap.size, 1, none⟩ = some (.slice HA hd.length cA) := HBk.out.cell 1
  have a2 : W.cell? ⟨w.heap.size, 2, none⟩ = some (.slice HB' km d) := HBk.out.cell 2
  go_enter Try.func35, Try.ntmps35
  go_wp2_with (rw [HW.out]; (with_reducible refine (HVS.out _ HE.out).mono ?_); rintro e w3 ⟨A3, c3, rfl, o3, x3⟩; have X3 := hide x3; have O3 := hide o3.lat; clear o3 x3 a0 a1 a2; have a1 : w3.cell? ⟨w.heap.size, 1, none⟩ = some (.slice HA hd.length cA) := (HBk.out.ext X3.out).cell 1)
  have HG0 := hide (show Blk (w3.alloc (.cells (madeCells #[Value.int .i64 0, Value.int .i64 0, Value.string .empty] (hd.length * 3)) 58)) w3.heap.size 58 (cellsR (headV ((hd.map (atN vs)).take 0) vals ++ List.replicate (hd.length - 0) zeroV)).toArray from by
    have := Blk.new w3 58 (madeCells #[Value.int .i64 0, Value.int .i64 0, Value.string .empty] (hd.length * 3))
    rw [zeroR_made] at this
    simpa [zeroR_made, headV] using this)
  have HEG := hide (Ext.alloc w3 (.cells (madeCells #[Value.int .i64 0, Value.int .i64 0, Value.string .empty] (hd.length * 3)) 58))
  generalize hW4 : w3.alloc (.cells (madeCells #[Value.int .i64 0, Value.int .i64 0, Value.string .empty] (hd.length * 3)) 58) = W4 at *
  clear hW4 a1
  have HG3 := hide (show w.heap.size ≤ w3.heap.size from Nat.le_trans HE.out.size X3.out.size)
  go_loopw [7] (fun s7 w' => ∃ i : Nat, i ≤ hd.length ∧ s7 = .int .i64 i ∧ Hid (Blk w' w3.heap.size 58 (cellsR (headV ((hd.map (atN vs)).take i) vals ++ List.replicate (hd.length - i) zeroV)).toArray) ∧ Hid (Ext w3 w')) (fun s7 _ => hd.length - (intOf s7).toNat)
  case atStart => exact ⟨0, by omega, rfl, HG0.out, HEG.out⟩
  case round =>
    obtain ⟨i, hin, rfl, hG, hX⟩ := hrel
    have hdl := HHL.out.2
    have a1 : wr.cell? ⟨w.heap.size, 1, none⟩ = some (.slice HA hd.length cA) := (HBk.out.ext (X3.out.trans hX.out)).cell 1
    by_cases h : i < hd.length
    · obtain ⟨b, off, x, rfl, hx, hb1, c0⟩ := (HQ.out.head.ext RS.stab (HE.out.trans (X3.out.trans hX.out))).str h
      obtain ⟨p, hp, hp2, hp3⟩ := HPC.out x (List.mem_of_getElem? hx)
      obtain ⟨b', off', y, rfl, hy, hb2, d0, d1, d2⟩ := (HV.out.ext (HE.out.trans (X3.out.trans hX.out))).get hp
      have HP3 := hide hp3
      have HX := hide (show (hd.map (atN vs))[i]? = some p from by rw [List.getElem?_map, hx, ← hp2]; rfl)
      have HY := hide hy
      have HLN := hide (show (headV ((hd.map (atN vs)).take i) vals ++ List.replicate (hd.length - i) zeroV)[i]? = some zeroV from by
        have e1 : (headV ((hd.map (atN vs)).take i) vals).length = i := by unfold headV; rw [List.length_map, List.length_take, List.length_map]; omega
        rw [List.getElem?_append_right (by omega), e1, Nat.sub_self, show hd.length - i = (hd.length - (i + 1)) + 1 by omega, List.replicate_succ]; rfl)
      obtain ⟨g0, g1, g2⟩ := blkR_at hG.out HLN.out
      have f0 := hG.out.frozen (i * 3)
      have f1 := hG.out.frozen (i * 3 + 1)
      have f2 := hG.out.frozen (i * 3 + 2)
      have HAC := hide (HAT.out x A3 vs.length c3 wr (O3.out.ext RS.stab hX.out))
      rw [HP3.out] at HAC
      clear hx hp2 hp3 hy hb1 hb2
      go_wp2_with ((with_reducible refine HAC.out.mono ?_); rintro e w5 ⟨rfl, rfl⟩)
      go_roundw
      case rel =>
        refine ⟨i + 1, by omega, by go_num, ?_, ext_put hX.out (Nat.le_refl _) _ _ _⟩
        have h5 := blkR_put hG.out (p := i) (List.getElem?_eq_some_iff.1 HLN.out).1 y
        rw [headV_take HX.out HY.out _ h] at h5
        exact h5
      case measure => simp [intOf]; omega
    · obtain rfl : i = hd.length := by omega
      have h5 := hG.out
      rw [Nat.sub_self, List.replicate_zero, List.append_nil, List.take_of_length_le (by simp)] at h5
      have HF := hide h5; clear h5
      go_wp2_with fail
      go_ret
      have e1 : (headV (hd.map (atN vs)) vals).length = hd.length := by simp [headV]
      exact ⟨_, _, rfl, ⟨by rw [cellsR_len, e1], .inr ⟨_, hd.length, _, rfl, HG3.out, HF.out, Nat.le_refl _, by have := HHL.out.2; unfold maxLen; omega, by simp [cellsR_len, e1], List.take_of_length_le (by simp [cellsR_len, e1])⟩⟩, HE.out.trans (X3.out.trans hX.out)⟩
end Go.Proofs.Ytpfjkjmimmklcaa
