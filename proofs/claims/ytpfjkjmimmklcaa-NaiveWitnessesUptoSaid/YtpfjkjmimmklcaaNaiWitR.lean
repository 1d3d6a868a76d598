/-
  The document's Witness: the rows of the first valuation that gives the answer.
-/
import Derived.Test.YtpfjkjmimmklcaaNaiSea
import Derived.Test.YtpfjkjmimmklcaaNaiWitP
namespace Go.Proofs.Ytpfjkjmimmklcaa
open Go.RowKit

set_option maxHeartbeats 4000000 in
set_option maxRecDepth 100000 in
theorem ref_witness (q : Qy) (L : QLoc) (data : List Tbl) (B : Option Addr) (m c : Nat) (ans : List V) (C : Option Addr) (k d : Nat) (w : World) (hq : QAt w L q) (hM : smallM 1048576 q) (hb : LAt RB 2 w B m data) (hm : m ≤ 1048576) (hsum : (data.flatMap Tbl.rows).length ≤ 1099511627776)
    (hrow : ∀ t ∈ data, ∀ r ∈ t.rows, r.length ≤ 1048576) (hr : RowAt w C k ans) :
    Calls Try.prog 31 #[qval q.name L, .slice B m c, .slice C k d] w (RetWi w (witP q data ans)) := by
  obtain ⟨A, n, cA, AB, kq, dq⟩ := L
  obtain rfl : kq = q.atoms.length := hq.atoms.len
  simp only [qval]
  have HSQ := hide (fun w1 (h1 : Ext w w1) => ref_shape q ⟨A, n, cA, AB, q.atoms.length, dq⟩ w1 (hq.ext h1) hM)
  have HE := hide (Ext.alloc w (.cells #[.string q.name, .slice A n cA, .slice AB q.atoms.length dq] 25))
  have HB0 := hide (Blk.new w 25 #[.string q.name, .slice A n cA, .slice AB q.atoms.length dq])
  generalize hW2 : w.alloc (.cells #[.string q.name, .slice A n cA, .slice AB q.atoms.length dq] 25) = W2 at *
  have HW2 := hide hW2; clear hW2
  simp only [qval] at HSQ
  have a0 : W2.cell? ⟨w.heap.size, 0, none⟩ = some (.string q.name) := HB0.out.cell 0
  have a1 : W2.cell? ⟨w.heap.size, 1, none⟩ = some (.slice A n cA) := HB0.out.cell 1
  have a2 : W2.cell? ⟨w.heap.size, 2, none⟩ = some (.slice AB q.atoms.length dq) := HB0.out.cell 2
  by_cases hs : shapeQ q = 0
  · have hsh := shapeQ_iff.1 hs
    have h60 := vars_sixty hsh
    have h6 := hsh.six
    have HWP := hide (show witP q data ans = if (witV q data ans).1 ≤ 131072 then (if (witV q data ans).2.2 then (((witV q data ans).2.1.getLast?.map (·.2)).getD [], true, 0) else ([], false, 0)) else ([], false, 120) from by unfold witP; rw [if_pos hs])
    have HVS := hide (fun w1 (h1 : Ext w w1) => ref_vars q ⟨A, n, cA, AB, q.atoms.length, dq⟩ w1 (hq.ext h1) hM (show q.atoms.length ≤ 512 by omega))
    have HSEA := hide (fun (gs : Nat) (w1 : World) (VA : Option Addr) (vc : Nat) (hg : w.heap.size ≤ gs) (h1 : Ext w w1) (h2 : Blk w1 gs 113 (seaX q.name A n cA AB q.atoms.length dq B m c C k d ((0 : Nat) : Int) none 0 0)) (h3 : RowAt w1 VA (varsQ q).length (fullV (varsQ q).length [])) =>
      (sea_any q data ans A n cA AB q.atoms.length dq B m c C k d w gs (fun x => sameR (headV (q.head.map (atN (varsQ q))) x.1) ans) hq hM hsh hb hm hsum hrow hr hg (fun _ => rfl) (lvsFrom (varsQ q) data q.atoms) 0 [] [] 0 w1 VA vc none 0 [] none 0 0 rfl (by omega) (by simp [seenI, flatT, addTs]) rfl (by omega) h1 (by simp) h2 h3 (World.ownsRow_nil _ _ _ _) .nil).mono fun _ _ h => h.cases)
    rw [hs] at HSQ
    simp only [qval] at HVS
    have HSEA2 : Hid (∀ (gs : Nat) (w1 : World) (VA : Option Addr) (vc : Nat), w.heap.size ≤ gs → Ext w w1 → Blk w1 gs 113 (seaX q.name A n cA AB q.atoms.length dq B m c C k d ((0 : Nat) : Int) none 0 0) → RowAt w1 VA (varsQ q).length (fullV (varsQ q).length []) → Calls Try.prog 59 #[.pointer (some ⟨gs, 0, none⟩), .int .i64 0, .slice VA (varsQ q).length vc, .slice none 0 0] w1 _) := HSEA
    clear HSEA hq hM hb hm hsum hrow hr hsh hs
    change Hid (∀ (gs : Nat) (w1 : World) (VA : Option Addr) (vc : Nat), _ → _ → _ → _ → Calls _ _ _ w1 _) at HSEA2
    generalize hvv : visit (fun x => sameR (headV (q.head.map (atN (varsQ q))) x.1) ans) (lvsFrom (varsQ q) data q.atoms) [] [] = vv at *
    have HVV := hide (show witV q data ans = vv from hvv)
    clear hvv
    have hwp := HWP.out
    rw [HVV.out] at hwp
    clear HWP HVV
    generalize witP q data ans = wp at *
    have HWP := hide hwp
    clear hwp
    obtain ⟨i0, hi0, hz0, hz1, hz2⟩ := info_parts infoV
    have hmk := run_make_n (P := Try.prog) 35 58 i0 _ Try.underlying35 hi0 hz0 (by omega) .i64 .i64 (varsQ q).length (by omega)
    simp only [hz1, Value.cells] at hmk
    clear hz1 hz2 hz0 hi0
    generalize varsQ q = vs at *
    go_enter Try.func31, Try.ntmps31
    go_wp2_with (first
      | (rw [HW2.out]; (with_reducible refine (HSQ.out _ HE.out).mono ?_); rintro e w1 ⟨rfl, x1⟩; have X1 := hide (HE.out.trans x1); have HB1 := hide (HB0.out.ext x1); clear x1 a0 a1 a2
         have a0 : w1.cell? ⟨w.heap.size, 0, none⟩ = some (.string q.name) := HB1.out.cell 0
         have a1 : w1.cell? ⟨w.heap.size, 1, none⟩ = some (.slice A n cA) := HB1.out.cell 1
         have a2 : w1.cell? ⟨w.heap.size, 2, none⟩ = some (.slice AB q.atoms.length dq) := HB1.out.cell 2
         have hlt : w.heap.size < w1.heap.size := HB1.out.lt
         have hne : w.heap.size ≠ w1.heap.size := Nat.ne_of_lt HB1.out.lt))
    have HBS := hide (show Blk (w1.alloc (.cells #[.string q.name, .slice A n cA, .slice AB q.atoms.length dq, .slice B m c, .slice C k d, .int .i64 0, .slice none 0 0] 113)) w1.heap.size 113 (seaX q.name A n cA AB q.atoms.length dq B m c C k d ((0 : Nat) : Int) none 0 0) from Blk.new _ _ _)
    have XS := hide (X1.out.alloc' (.cells #[.string q.name, .slice A n cA, .slice AB q.atoms.length dq, .slice B m c, .slice C k d, .int .i64 0, .slice none 0 0] 113))
    have HG := hide (show w.heap.size ≤ w1.heap.size from X1.out.size)
    generalize w1.alloc (.cells #[.string q.name, .slice A n cA, .slice AB q.atoms.length dq, .slice B m c, .slice C k d, .int .i64 0, .slice none 0 0] 113) = w3 at *
    generalize w1.heap.size = gs at *
    clear a0 a1 a2 hlt hne HB1
    have HN := hide h60
    go_wp2_with ((with_reducible refine (HVS.out _ XS.out).mono ?_); rintro e w4 ⟨A4, c4, rfl, o4, x4⟩; have X4 := hide x4; clear o4 x4)
    have HGV := hide (show RowAt (w4.alloc (.cells (madeCells #[Value.int .i64 0, Value.int .i64 0, Value.string .empty] (vs.length * 3)) 58)) (some ⟨w4.heap.size, 0, none⟩) vs.length (fullV vs.length []) from by
      have h1 := Blk.new w4 58 (madeCells #[Value.int .i64 0, Value.int .i64 0, Value.string .empty] (vs.length * 3))
      rw [zeroR_made] at h1
      have h3 := h1.sl (n := vs.length) (size := 3) (by simp [cellsR_len])
      rw [fullV_nil, zeroR_made]
      exact ⟨by simp, h3⟩)
    have XV := hide (X4.out.alloc' (.cells (madeCells #[Value.int .i64 0, Value.int .i64 0, Value.string .empty] (vs.length * 3)) 58))
    have HCL := hide (HSEA2.out gs _ (some ⟨w4.heap.size, 0, none⟩) vs.length HG.out (XS.out.trans XV.out) (HBS.out.ext XV.out) HGV.out)
    have X6 := hide (fun (w' : World) (hF : Fr (fun g => g = gs) (w4.alloc (.cells (madeCells #[Value.int .i64 0, Value.int .i64 0, Value.string .empty] (vs.length * 3)) 58)) w') => (show Ext w w' from ((Fr.of_ext (S := fun g => g = gs) (XS.out.trans XV.out)).trans hF).out fun g hg => by have hg : g = gs := hg; have := HG.out; omega))
    clear HSEA2 HBS HGV HVS
    go_upto_region 6 with ((with_reducible refine HCL.out.mono ?_); rintro e w6 (⟨rfl, hF, hn, R, u, z, hb⟩ | ⟨rfl, hF, hn, R, u, z, hb, hx⟩ | ⟨rfl, hF, hn, t, R, u, z, hl, hb⟩))
    · have z5 : w6.cell? ⟨gs, 5, none⟩ = some (.int .i64 ((0 + vv.1 : Nat) : Int)) := hb.out.cell 5
      have hle : ¬ (131072 : Int) < ((0 + vv.1 : Nat) : Int) := by have := hn.out.1; omega
      generalize ((0 + vv.1 : Nat) : Int) = tt at *
      go_wp2_with fail
      go_ret3
      rw [HWP.out, if_pos (by have := hn.out.1; omega), hn.out.2]
      exact RetWi.none (X6.out _ hF.out)
    · have z5 : w6.cell? ⟨gs, 5, none⟩ = some (.int .i64 ((0 + vv.1 : Nat) : Int)) := hb.out.cell 5
      have z6 : w6.cell? ⟨gs, 6, none⟩ = some (.slice R u z) := hb.out.cell 6
      have hle : ¬ (131072 : Int) < ((0 + vv.1 : Nat) : Int) := by have := hn.out.1; omega
      generalize ((0 + vv.1 : Nat) : Int) = tt at *
      go_wp2_with fail
      go_ret3
      rw [HWP.out, if_pos (by have := hn.out.1; omega), hn.out.2, if_pos rfl]
      obtain ⟨x, hx1, hx2⟩ := hx.out
      rw [hx1]
      obtain rfl : u = x.2.length := hx2.len
      exact ⟨R, z, rfl, hx2, X6.out _ hF.out⟩
    · have z5 : w6.cell? ⟨gs, 5, none⟩ = some (.int .i64 (t : Int)) := hb.out.cell 5
      have hgt : (131072 : Int) < (t : Int) := by have := hl.out.1; omega
      go_wp2_with fail
      go_ret3
      rw [HWP.out, if_neg (by have := hn.out; omega)]
      exact RetWi.none (X6.out _ hF.out)
  · have HWP := hide (show witP q data ans = ([], false, shapeQ q) from by unfold witP; rw [if_neg hs])
    have hne : (shapeQ q != 0) = true := by simpa using hs
    rw [HWP.out]
    generalize shapeQ q = sq at *
    have hs := hide hs
    clear HWP
    go_enter Try.func31, Try.ntmps31
    go_wp2_with (rw [HW2.out]; (with_reducible refine (HSQ.out _ HE.out).mono ?_); rintro e w1 ⟨rfl, x1⟩; have X1 := hide (HE.out.trans x1); clear x1 a0 a1 a2)
    go_ret3
    exact RetWi.none X1.out
end Go.Proofs.Ytpfjkjmimmklcaa
