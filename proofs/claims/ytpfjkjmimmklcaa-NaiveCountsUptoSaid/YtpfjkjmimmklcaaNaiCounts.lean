/-
  NaiveCounts: the walk.
-/
import Derived.Test.YtpfjkjmimmklcaaNaiAll
import Derived.Test.YtpfjkjmimmklcaaNaiA
import Derived.Test.YtpfjkjmimmklcaaNaiK
import Derived.Test.YtpfjkjmimmklcaaCloseA
namespace Go.Proofs.Ytpfjkjmimmklcaa
open Go.RowKit

set_option maxHeartbeats 4000000 in
set_option maxRecDepth 100000 in
theorem law_counts (q : Qy) (L : QLoc) (data : List Tbl) (B : Option Addr) (m c : Nat) (w : World) (hq : QAt w L q) (hM : smallM 1048576 q)
    (hb : LAt RB 2 w B m data) (hd : ∀ t ∈ data, smallTb 1048576 t) (hm : m ≤ 1048576) :
    Calls Try.prog 7 #[qval q.name L, .slice B m c] w fun e w' => e = .returned (.bool true) ∧ Ext w w' := by
  have hs1 : (data.flatMap Tbl.rows).length ≤ 1099511627776 := Nat.le_trans (sum_rows data hd) (by have := hb.len; have : data.length * 1048576 ≤ 1048576 * 1048576 := Nat.mul_le_mul_right _ (by omega); omega)
  have HCP := hide (fun w1 (h1 : Ext w w1) => copy_qt q L w1 (hq.ext h1) hM)
  have HCT := hide (fun w1 (h1 : Ext w w1) => copy_tabs data B m c w1 (hb.ext RB.stab h1) (by omega) (fun t ht => ⟨Nat.le_trans (hd t ht).2.1 (by omega), fun r hr => Nat.le_trans ((hd t ht).2.2 r hr).1 (by omega)⟩))
  have HCN := hide (fun L1 A1 n1 c1 w1 (h1 : QAt w1 L1 q) (h2 : LAt RB 2 w1 A1 n1 data) => count_any q L1 data A1 n1 c1 w1 h1 hM h2 (by have := h2.len; have := hb.len; omega) hs1 (fun t ht r hr => ((hd t ht).2.2 r hr).1))
  have HAL := hide (fun w1 (h1 : Ext w w1) => ref_all q L data B m c w1 (hq.ext h1) hM (hb.ext RB.stab h1) hd hm)
  have HE := hide (Ext.alloc w (.cells #[.string q.name, .slice L.A L.n L.c, .slice L.B L.m L.d] 25))
  have HB0 := hide (Blk.new w 25 #[.string q.name, .slice L.A L.n L.c, .slice L.B L.m L.d])
  generalize hW2 : w.alloc (.cells #[.string q.name, .slice L.A L.n L.c, .slice L.B L.m L.d] 25) = W2 at *
  have HW2 := hide hW2; clear hW2 hq hM hb hd hm hs1
  generalize collectP q data = co at *
  obtain ⟨a, t, e⟩ := co
  obtain ⟨A, n, cA, AB, k, d⟩ := L
  simp only [qval] at *
  have a0 : W2.cell? ⟨w.heap.size, 0, none⟩ = some (.string q.name) := HB0.out.cell 0
  have a1 : W2.cell? ⟨w.heap.size, 1, none⟩ = some (.slice A n cA) := HB0.out.cell 1
  have a2 : W2.cell? ⟨w.heap.size, 2, none⟩ = some (.slice AB k d) := HB0.out.cell 2
  go_enter Try.func7, Try.ntmps7
  go_wp2_with (first
    | (rw [HW2.out]; (with_reducible refine (HCP.out _ HE.out).mono ?_); rintro e w1 ⟨A1, n1, c1, B1, m1, d1, rfl, q1, x1⟩; have X1 := hide x1; have Q1 := hide q1; clear q1 x1 a0 a1 a2)
    | ((with_reducible refine (HCT.out _ (HE.out.trans X1.out)).mono ?_); rintro e w2 ⟨A2, n2, c2, cs2, rfl, l2, o2, t2, x2⟩; have X2 := hide (X1.out.trans x2); have T2 := hide (tabs_lat l2 o2 t2); have Q2 := hide (Q1.out.ext x2); clear l2 o2 t2 x2)
    | ((with_reducible refine (HCN.out ⟨A1, n1, c1, B1, m1, d1⟩ _ _ _ _ Q2.out T2.out).mono ?_); rintro e w3 ⟨rfl, x3⟩; have X3 := hide (X2.out.trans x3); clear x3
       have a0 : w3.cell? ⟨w.heap.size, 0, none⟩ = some (.string q.name) := (HB0.out.ext X3.out).cell 0
       have a1 : w3.cell? ⟨w.heap.size, 1, none⟩ = some (.slice A n cA) := (HB0.out.ext X3.out).cell 1
       have a2 : w3.cell? ⟨w.heap.size, 2, none⟩ = some (.slice AB k d) := (HB0.out.ext X3.out).cell 2)
    | ((with_reducible refine (HAL.out _ (HE.out.trans X3.out)).mono ?_); rintro e w4 ⟨A4, c4, rfl, l4, x4⟩; have X4 := hide (HE.out.trans (X3.out.trans x4)); clear l4 x4 a0 a1 a2)
    | ((with_reducible refine (awake_any _).mono ?_); rintro e w9 ⟨rfl, x9⟩; have X9 := hide (X4.out.trans x9); clear x9))
  go_ret
  exact ⟨rfl, X9.out⟩
end Go.Proofs.Ytpfjkjmimmklcaa
