/-
  NaiveWitnesses: the walk.
-/
import Derived.Test.YtpfjkjmimmklcaaNaiWit
import Derived.Test.YtpfjkjmimmklcaaNaiWitR
import Derived.Test.YtpfjkjmimmklcaaNaiPath
import Derived.Test.YtpfjkjmimmklcaaNaiA
import Derived.Test.YtpfjkjmimmklcaaNaiK
import Derived.Test.YtpfjkjmimmklcaaCloseA
namespace Go.Proofs.Ytpfjkjmimmklcaa
open Go.RowKit

theorem wit_rows (q : Qy) (data : List Tbl) (ans : List V) : (witP q data ans).1.length ≤ q.atoms.length ∧ ∀ r ∈ (witP q data ans).1, ∃ t ∈ data, r ∈ t.rows := by
  unfold witP
  split
  · split
    · split
      · cases hg : (witV q data ans).2.1.getLast? with
        | none => simp
        | some x =>
          simp only [Option.map_some, Option.getD_some]
          obtain ⟨rs, h1, h2⟩ := visit_path _ _ _ _ x (List.mem_of_getLast? hg)
          rw [List.nil_append] at h1
          rw [h1]
          have hl := h2.len
          rw [show (lvsFrom (varsQ q) data q.atoms).length = q.atoms.length by simp [lvsFrom]] at hl
          refine ⟨by omega, fun r hr => ?_⟩
          obtain ⟨i, hi, e⟩ := List.getElem_of_mem hr
          have hi2 : i < (lvsFrom (varsQ q) data q.atoms).length := by simp [lvsFrom]; omega
          have hm := h2.mem i _ r (List.getElem?_eq_getElem hi2) (by rw [List.getElem?_eq_getElem hi, e])
          simp only [lvsFrom, List.getElem_map] at hm
          obtain ⟨t, h3, _, h4⟩ := rowsOfP_mem hm
          exact ⟨t, h3, h4⟩
      · simp
    · simp
  · simp

set_option maxHeartbeats 4000000 in
set_option maxRecDepth 100000 in
theorem law_witnesses (q : Qy) (L : QLoc) (data : List Tbl) (B : Option Addr) (m c : Nat) (r : List V) (C : Option Addr) (k d : Nat) (w : World) (hq : QAt w L q) (hM : smallM 1048576 q)
    (hb : LAt RB 2 w B m data) (hd : ∀ t ∈ data, smallTb 1048576 t) (hr : RowAt w C k r) (hk : k ≤ 1048576) (_ : ∀ v ∈ r, v.t.size ≤ 1048576) (_ : wfR r) (hm : m ≤ 1048576) :
    Calls Try.prog 8 #[qval q.name L, .slice B m c, .slice C k d] w fun e w' => e = .returned (.bool true) ∧ Ext w w' := by
  obtain rfl : m = data.length := hb.len
  have hs1 : (data.flatMap Tbl.rows).length ≤ 1099511627776 := Nat.le_trans (sum_rows data hd) (by have : data.length * 1048576 ≤ 1048576 * 1048576 := Nat.mul_le_mul_right _ (by omega); omega)
  obtain ⟨hwl, hwr⟩ := wit_rows q data r
  have hatoms : q.atoms.length ≤ 1048576 := hM.atomsL
  have HCP := hide (fun w1 (h1 : Ext w w1) => copy_qt q L w1 (hq.ext h1) hM)
  have HCT := hide (fun w1 (h1 : Ext w w1) => copy_tabs data B data.length c w1 (hb.ext RB.stab h1) (by omega) (fun t ht => ⟨Nat.le_trans (hd t ht).2.1 (by omega), fun r hr => Nat.le_trans ((hd t ht).2.2 r hr).1 (by omega)⟩))
  have HCR := hide (fun w1 (h1 : Ext w w1) => copy_any r C k d w1 (hr.ext h1) (by omega))
  have HWN := hide (fun L1 A1 n1 c1 C1 d1 w1 (h1 : QAt w1 L1 q) (h2 : LAt RB 2 w1 A1 n1 data) (h3 : RowAt w1 C1 k r) => witness_any q L1 data A1 n1 c1 r C1 k d1 w1 h1 hM h2 (by have := h2.len; omega) hs1 (fun t ht r hr => ((hd t ht).2.2 r hr).1) h3 hk)
  have HRW := hide (fun w1 (h1 : Ext w w1) => ref_witness q L data B data.length c r C k d w1 (hq.ext h1) hM (hb.ext RB.stab h1) hm hs1 (fun t ht r hr => ((hd t ht).2.2 r hr).1) (hr.ext h1))
  have HSA := hide (fun A1 c1 A2 c2 w1 (h1 : LAt RRow 1 w1 A1 (witP q data r).1.length (witP q data r).1) (h2 : LAt RRow 1 w1 A2 (witP q data r).1.length (witP q data r).1) => same_all (witP q data r).1 (witP q data r).1 A1 A2 _ _ c1 c2 w1 h1 h2 (by omega) (fun s hs => by
    obtain ⟨t, ht, h5⟩ := hwr s hs
    have := ((hd t ht).2.2 s h5).1
    omega))
  rw [sameRs_iff.2 rfl] at HSA
  have HE := hide (Ext.alloc w (.cells #[.string q.name, .slice L.A L.n L.c, .slice L.B L.m L.d] 25))
  have HB0 := hide (Blk.new w 25 #[.string q.name, .slice L.A L.n L.c, .slice L.B L.m L.d])
  generalize hW2 : w.alloc (.cells #[.string q.name, .slice L.A L.n L.c, .slice L.B L.m L.d] 25) = W2 at *
  have HW2 := hide hW2; clear hW2 hq hM hb hd hm hs1 hr hwl hwr hatoms
  unfold RetWi at HWN HRW
  generalize witP q data r = wp at *
  obtain ⟨rs, ok, e⟩ := wp
  obtain ⟨A, n, cA, AB, kk, dd⟩ := L
  simp only [qval] at *
  have a0 : W2.cell? ⟨w.heap.size, 0, none⟩ = some (.string q.name) := HB0.out.cell 0
  have a1 : W2.cell? ⟨w.heap.size, 1, none⟩ = some (.slice A n cA) := HB0.out.cell 1
  have a2 : W2.cell? ⟨w.heap.size, 2, none⟩ = some (.slice AB kk dd) := HB0.out.cell 2
  have hbb : (ok == ok) = true := by simp
  go_enter Try.func8, Try.ntmps8
  go_wp2_with (first
    | (rw [HW2.out]; (with_reducible refine (HCP.out _ HE.out).mono ?_); rintro e w1 ⟨A1, n1, c1, B1, m1, d1, rfl, q1, x1⟩; have X1 := hide x1; have Q1 := hide q1; clear q1 x1 a0 a1 a2)
    | ((with_reducible refine (HCT.out _ (HE.out.trans X1.out)).mono ?_); rintro e w2 ⟨A2, n2, c2, cs2, rfl, l2, o2, t2, x2⟩; have X2 := hide (X1.out.trans x2); have T2 := hide (tabs_lat l2 o2 t2); have Q2 := hide (Q1.out.ext x2); clear l2 o2 t2 x2)
    | ((with_reducible refine (HCR.out _ (HE.out.trans X2.out)).mono ?_); rintro e w3 ⟨A3, c3, rfl, o3, x3⟩; have X3 := hide (X2.out.trans x3); have O3 := hide (RowAt.own o3); have T3 := hide (T2.out.ext RB.stab x3); have Q3 := hide (Q2.out.ext x3); clear o3 x3)
    | ((with_reducible refine (HWN.out ⟨A1, n1, c1, B1, m1, d1⟩ _ _ _ _ _ _ Q3.out T3.out O3.out).mono ?_); rintro e w4 ⟨A4, c4, rfl, l4, x4⟩; have X4 := hide (X3.out.trans x4); have L4 := hide l4; clear x4 l4
       have a0 : w4.cell? ⟨w.heap.size, 0, none⟩ = some (.string q.name) := (HB0.out.ext X4.out).cell 0
       have a1 : w4.cell? ⟨w.heap.size, 1, none⟩ = some (.slice A n cA) := (HB0.out.ext X4.out).cell 1
       have a2 : w4.cell? ⟨w.heap.size, 2, none⟩ = some (.slice AB kk dd) := (HB0.out.ext X4.out).cell 2)
    | ((with_reducible refine (HRW.out _ (HE.out.trans X4.out)).mono ?_); rintro e w5 ⟨A5, c5, rfl, l5, x5⟩; have X5 := hide (HE.out.trans (X4.out.trans x5)); have L5 := hide l5; have M5 := hide (L4.out.ext RRow.stab x5); clear l5 x5 a0 a1 a2)
    | ((with_reducible refine (awake_any _).mono ?_); rintro e w6 ⟨rfl, x6⟩; have X6 := hide x6; clear x6)
    | ((with_reducible refine (HSA.out A4 c4 A5 c5 _ (M5.out.ext RRow.stab X6.out) (L5.out.ext RRow.stab X6.out)).mono ?_); rintro e w7 ⟨rfl, x7⟩; have X7 := hide (X5.out.trans (X6.out.trans x7)); clear x7))
  go_ret
  exact ⟨rfl, X7.out⟩
end Go.Proofs.Ytpfjkjmimmklcaa
