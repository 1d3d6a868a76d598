/-
  ContainFreezes: the walk.
-/
import Derived.Test.YthjpcnceppmnmaaFrzR
import Derived.Test.YthjpcnceppmnmaaLawCores
namespace Go.Proofs.Ythjpcnceppmnmaa
open Go.RowKit

structure FrzB (r : List Tbl × List V × Int) : Prop where
  tabs : r.1.length ≤ 140737488355328
  rows : ∀ t ∈ r.1, t.rows.length ≤ 140737488355328 ∧ ∀ x ∈ t.rows, x.length ≤ 140737488355328
  head : r.2.1.length ≤ 140737488355328
theorem frz_bounds {q : Qy} (hM : smallM 1048576 q) : FrzB (frzR q) := by
  by_cases hs : shapeQ q = 0
  · have hS := shapeQ_iff.1 hs
    rw [frz_good hs]
    have h6 := hS.six
    refine ⟨?_, fun t ht => ?_, ?_⟩
    · have := frz_len (varsQ q) q.atoms
      simp only
      omega
    · obtain ⟨x, _, rfl⟩ := List.mem_map.1 ht
      refine ⟨?_, fun r hr => ?_⟩
      · have := rowsOf_len (varsQ q) q.atoms x
        simp only
        omega
      · obtain ⟨a, ha, rfl⟩ := frz_rows r hr
        have := (hS.atoms a ha).2.1
        simp only [iceR, List.length_map]
        omega
    · have := hM.headL
      simp only [List.length_map]
      omega
  · rw [frz_bad hs]
    exact ⟨Nat.zero_le _, fun t ht => (by cases ht), Nat.zero_le _⟩

set_option maxHeartbeats 8000000 in
set_option maxRecDepth 100000 in
theorem law_freezes (q : Qy) (L : QLoc) (w : World) (hq : QAt w L q) (hM : smallM 1048576 q) :
    Calls Try.prog 8 #[qval q.name L] w fun e w' => e = .returned (.bool true) ∧ Ext w w' := by
  have HCP := hide (fun w1 (h1 : Ext w w1) => copy_qout q L w1 (hq.ext h1) hM)
  have HRF := hide (fun w1 (h1 : Ext w w1) => ref_freeze_any q L w1 (hq.ext h1) hM)
  have HFZ := hide (fun L1 w1 (h1 : QAt w1 L1 q) => freeze_any q L1 w1 h1 hM)
  have HBD := hide (frz_bounds hM)
  generalize frzR q = r at *
  obtain ⟨rt, rr, re⟩ := r
  have HST := hide (fun A2 n2 c2 A3 n3 c3 w1 (h1 : LAt RB 2 w1 A2 n2 rt) (h2 : LAt RB 2 w1 A3 n3 rt) => same_tabs rt rt A2 A3 n2 n3 c2 c3 w1 h1 h2 (by have := h1.len; have := HBD.out.tabs; simp only at this; omega) HBD.out.rows)
  have HSR := hide (fun A2 n2 c2 A3 n3 c3 w1 (h1 : RowAt w1 A2 n2 rr) (h2 : RowAt w1 A3 n3 rr) => same_any rr rr A2 A3 n2 n3 c2 c3 w1 h1 h2 (by have := h1.len; have := HBD.out.head; simp only at this; omega))
  have e1 : sameTb rt rt = true := sameTb_iff.2 rfl
  have e2 : sameR rr rr = true := sameR_iff.2 rfl
  rw [e1] at HST
  rw [e2] at HSR
  clear e1 e2
  have HE := hide (Ext.alloc w (.cells #[.string q.name, .slice L.A L.n L.c, .slice L.B L.m L.d] 25))
  have HB0 := hide (Blk.new w 25 #[.string q.name, .slice L.A L.n L.c, .slice L.B L.m L.d])
  generalize hW2 : w.alloc (.cells #[.string q.name, .slice L.A L.n L.c, .slice L.B L.m L.d] 25) = W2 at *
  have HW2 := hide hW2; clear hW2 hq hM
  obtain ⟨A, n, c, B, m, d⟩ := L
  simp only [qval] at *
  have a0 : W2.cell? ⟨w.heap.size, 0, none⟩ = some (.string q.name) := HB0.out.cell 0
  have a1 : W2.cell? ⟨w.heap.size, 1, none⟩ = some (.slice A n c) := HB0.out.cell 1
  have a2 : W2.cell? ⟨w.heap.size, 2, none⟩ = some (.slice B m d) := HB0.out.cell 2
  have hee : (re == re) = true := by simp
  go_enter Try.func8, Try.ntmps8
  go_wp2_with (first
    | (rw [HW2.out]; (with_reducible refine (HCP.out _ HE.out).mono ?_); rintro e w1 ⟨A1, n1, c1, B1, m1, d1, rfl, q1, x1⟩; have X1 := hide x1; have Q1 := hide q1; clear q1 x1 a0 a1 a2)
    | ((with_reducible refine (HFZ.out ⟨A1, n1, c1, B1, m1, d1⟩ _ Q1.out).mono ?_); rintro e w2 ⟨A2, n2, c2, B2, m2, d2, rfl, t2, r2, x2⟩; have X2 := hide (X1.out.trans x2); have T2 := hide t2; have R2 := hide r2; clear t2 r2 x2
       have a0 : w2.cell? ⟨w.heap.size, 0, none⟩ = some (.string q.name) := (HB0.out.ext X2.out).cell 0
       have a1 : w2.cell? ⟨w.heap.size, 1, none⟩ = some (.slice A n c) := (HB0.out.ext X2.out).cell 1
       have a2 : w2.cell? ⟨w.heap.size, 2, none⟩ = some (.slice B m d) := (HB0.out.ext X2.out).cell 2)
    | ((with_reducible refine (HRF.out _ (HE.out.trans X2.out)).mono ?_); rintro e w3 ⟨A3, n3, c3, B3, m3, d3, rfl, t3, r3, x3⟩; have X3 := hide (X2.out.trans x3); have T23 := hide (T2.out.ext RB.stab x3); have R23 := hide (R2.out.ext x3); have T3 := hide t3; have R3 := hide r3; clear t3 r3 x3 a0 a1 a2)
    | ((with_reducible refine (awake_any _).mono ?_); rintro e w4 ⟨rfl, x4⟩; have X4 := hide (X3.out.trans x4); have T24 := hide (T23.out.ext RB.stab x4); have R24 := hide (R23.out.ext x4); have T34 := hide (T3.out.ext RB.stab x4); have R34 := hide (R3.out.ext x4); clear x4)
    | ((with_reducible refine (HST.out A2 n2 c2 A3 n3 c3 _ T24.out T34.out).mono ?_); rintro e w5 ⟨rfl, x5⟩; have X5 := hide (X4.out.trans x5); have R25 := hide (R24.out.ext x5); have R35 := hide (R34.out.ext x5); clear x5)
    | ((with_reducible refine (HSR.out B2 m2 d2 B3 m3 d3 _ R25.out R35.out).mono ?_); rintro e w6 ⟨rfl, x6⟩; have X6 := hide (X5.out.trans x6); clear x6))
  go_ret
  exact ⟨rfl, HE.out.trans X6.out⟩
end Go.Proofs.Ythjpcnceppmnmaa
