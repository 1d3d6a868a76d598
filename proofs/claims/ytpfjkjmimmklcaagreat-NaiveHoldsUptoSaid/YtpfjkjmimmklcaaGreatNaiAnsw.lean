/-
  NaiveAnswers: the document's Answers, and the walk.
-/
import Derived.Test.YtpfjkjmimmklcaaGreatNaiAll
import Derived.Test.YtpfjkjmimmklcaaGreatNaiA
import Derived.Test.YtpfjkjmimmklcaaGreatNaiK
import Derived.Test.YtpfjkjmimmklcaaGreatCloseA
import Derived.Test.YtpfjkjmimmklcaaGreatRef4
namespace Go.Proofs.YtpfjkjmimmklcaaGreat
open Go.RowKit

/-- rows and an error are handed back -/
def RetRe (w0 : World) (v : List (List V) × Int) (en : Ending) (w' : World) : Prop := ∃ A c, en = .returned (.tuple #[.slice A v.1.length c, .int .i64 v.2]) ∧ LAt RRow 1 w' A v.1.length v.1 ∧ Ext w0 w'
theorem RetRe.none {w0 w' : World} {e : Int} (h : Ext w0 w') : RetRe w0 ([], e) (.returned (.tuple #[.slice .none 0 0, .int .i64 e])) w' := ⟨.none, 0, rfl, LAt.nil _, h⟩
set_option maxHeartbeats 4000000 in
set_option maxRecDepth 100000 in
theorem ref_answers (q : Qy) (L : QLoc) (data : List Tbl) (B : Option Addr) (m c : Nat) (most : Int) (w : World) (hq : QAt w L q) (hM : smallM 1048576 q)
    (hb : LAt RB 2 w B m data) (hd : ∀ t ∈ data, smallTb 1048576 t) (hm : m ≤ 1048576) :
    Calls Tryz.prog 8 #[qval q.name L, .slice B m c, .int .i64 most] w (RetRe w (answersP q data most)) := by
  have HSP := hide (fun w1 (h1 : Ext w w1) => ref_shape q L w1 (hq.ext h1) hM)
  have HAL := hide (fun w1 (h1 : Ext w w1) => ref_all q L data B m c w1 (hq.ext h1) hM (hb.ext RB.stab h1) hd hm)
  have HC1 := hide (show shapeQ q = 0 → costP q data ≤ 131072 → collectP q data = (ansP q data, costP q data, 0) from fun h1 h2 => by unfold collectP; rw [if_pos h1, if_pos h2])
  have HC2 := hide (show shapeQ q = 0 → ¬ costP q data ≤ 131072 → collectP q data = ([], 0, 120) from fun h1 h2 => by unfold collectP; rw [if_pos h1, if_neg h2])
  have HP1 := hide (show ¬ shapeQ q = 0 → answersP q data most = ([], shapeQ q) from fun h1 => by unfold answersP; rw [if_neg h1])
  have HP2 := hide (show shapeQ q = 0 → most < 0 → answersP q data most = ([], 50) from fun h1 h2 => by unfold answersP; rw [if_pos h1, if_pos h2])
  have HP3 := hide (show shapeQ q = 0 → ¬ most < 0 → ¬ costP q data ≤ 131072 → answersP q data most = ([], 120) from fun h1 h2 h3 => by unfold answersP; rw [if_pos h1, if_neg h2, if_neg h3])
  have HP4 := hide (show shapeQ q = 0 → ¬ most < 0 → costP q data ≤ 131072 → most < (ansP q data).length → answersP q data most = ([], 121) from fun h1 h2 h3 h4 => by unfold answersP; rw [if_pos h1, if_neg h2, if_pos h3, if_pos h4])
  have HP5 := hide (show shapeQ q = 0 → ¬ most < 0 → costP q data ≤ 131072 → ¬ most < (ansP q data).length → answersP q data most = (ansP q data, 0) from fun h1 h2 h3 h4 => by unfold answersP; rw [if_pos h1, if_neg h2, if_pos h3, if_neg h4])
  clear hq hM hb hd hm
  generalize answersP q data most = av at *
  generalize collectP q data = co at *
  generalize ansP q data = an at *
  generalize costP q data = ct at *
  generalize shapeQ q = sq at *
  obtain ⟨nm, hdl, as_⟩ := q
  obtain ⟨A, n, cA, AB, k, d⟩ := L
  simp only [qval] at *
  have HBk := hide (Blk.new w 25 #[.string nm, .slice A n cA, .slice AB k d])
  have HE := hide (Ext.alloc w (.cells #[.string nm, .slice A n cA, .slice AB k d] 25))
  generalize hW : w.alloc (.cells #[.string nm, .slice A n cA, .slice AB k d] 25) = W at *
  have HW := hide hW; clear hW
  have a0 : W.cell? ⟨w.heap.size, 0, none⟩ = some (.string nm) := HBk.out.cell 0
  have a1 : W.cell? ⟨w.heap.size, 1, none⟩ = some (.slice A n cA) := HBk.out.cell 1
  have a2 : W.cell? ⟨w.heap.size, 2, none⟩ = some (.slice AB k d) := HBk.out.cell 2
  by_cases h0 : sq = 0
  · subst h0
    by_cases h1 : most < 0
    · rw [HP2.out rfl h1]
      go_enter Tryz.func8, Tryz.ntmps8
      go_wp2_with (rw [HW.out]; (with_reducible refine (HSP.out _ HE.out).mono ?_); rintro e w3 ⟨rfl, x3⟩; have X3 := hide (HE.out.trans x3); clear x3 a0 a1 a2)
      go_ret2
      exact RetRe.none X3.out
    · by_cases h2 : ct ≤ 131072
      · by_cases h3 : most < an.length
        · rw [HP4.out rfl h1 h2 h3]
          have e1 := HC1.out rfl h2
          subst e1
          go_enter Tryz.func8, Tryz.ntmps8
          go_wp2_with (first
            | (rw [HW.out]; (with_reducible refine (HSP.out _ HE.out).mono ?_); rintro e w3 ⟨rfl, x3⟩; have X3 := hide (HE.out.trans x3); have b0 := (HBk.out.ext x3).cell 0; have b1 := (HBk.out.ext x3).cell 1; have b2 := (HBk.out.ext x3).cell 2; clear x3 a0 a1 a2)
            | ((with_reducible refine (HAL.out _ X3.out).mono ?_); rintro e w4 ⟨A4, c4, rfl, l4, x4⟩; have X4 := hide (X3.out.trans x4); clear l4 x4 b0 b1 b2))
          go_ret2
          exact RetRe.none X4.out
        · rw [HP5.out rfl h1 h2 h3]
          have e1 := HC1.out rfl h2
          subst e1
          go_enter Tryz.func8, Tryz.ntmps8
          go_wp2_with (first
            | (rw [HW.out]; (with_reducible refine (HSP.out _ HE.out).mono ?_); rintro e w3 ⟨rfl, x3⟩; have X3 := hide (HE.out.trans x3); have b0 := (HBk.out.ext x3).cell 0; have b1 := (HBk.out.ext x3).cell 1; have b2 := (HBk.out.ext x3).cell 2; clear x3 a0 a1 a2)
            | ((with_reducible refine (HAL.out _ X3.out).mono ?_); rintro e w4 ⟨A4, c4, rfl, l4, x4⟩; have X4 := hide (X3.out.trans x4); have L4 := hide l4; clear l4 x4 b0 b1 b2))
          go_ret2
          exact ⟨A4, c4, rfl, L4.out, X4.out⟩
      · rw [HP3.out rfl h1 h2]
        have e1 := HC2.out rfl h2
        subst e1
        go_enter Tryz.func8, Tryz.ntmps8
        go_wp2_with (first
          | (rw [HW.out]; (with_reducible refine (HSP.out _ HE.out).mono ?_); rintro e w3 ⟨rfl, x3⟩; have X3 := hide (HE.out.trans x3); have b0 := (HBk.out.ext x3).cell 0; have b1 := (HBk.out.ext x3).cell 1; have b2 := (HBk.out.ext x3).cell 2; clear x3 a0 a1 a2)
          | ((with_reducible refine (HAL.out _ X3.out).mono ?_); rintro e w4 ⟨A4, c4, rfl, l4, x4⟩; have X4 := hide (X3.out.trans x4); have L4 := hide l4; clear l4 x4 b0 b1 b2))
        go_ret2
        exact ⟨A4, c4, rfl, L4.out, X4.out⟩
  · rw [HP1.out h0]
    have hne : (sq != 0) = true := by simpa using h0
    go_enter Tryz.func8, Tryz.ntmps8
    go_wp2_with (rw [HW.out]; (with_reducible refine (HSP.out _ HE.out).mono ?_); rintro e w3 ⟨rfl, x3⟩; have X3 := hide (HE.out.trans x3); clear x3 a0 a1 a2)
    go_ret2
    exact RetRe.none X3.out

theorem leaves_le : ∀ (ls : List Lv) (val : List V), (leaves ls val).length ≤ cost ls val + 1
  | [], _ => by simp [leaves]
  | l :: ls, val => by
    have h : ∀ ps : List (List V), (ps.flatMap (leaves ls)).length ≤ (ps.map (cost ls)).sum + ps.length := by
      intro ps
      induction ps with
      | nil => simp
      | cons p ps ih =>
        have := leaves_le ls p
        rw [List.flatMap_cons, List.length_append, List.map_cons, List.sum_cons, List.length_cons]
        omega
    have h1 := h (l.step val)
    have h2 : (l.step val).length ≤ l.rows.length := List.length_filterMap_le _ _
    simp only [leaves, cost]
    omega
theorem ans_le (q : Qy) (data : List Tbl) (h : costP q data ≤ 131072) : (ansP q data).length ≤ 140737488355328 := by
  unfold ansP
  have h1 := arr_len ((leaves (lvsFrom (varsQ q) data q.atoms) []).map (headV (q.head.map (atN (varsQ q)))))
  have h2 := leaves_le (lvsFrom (varsQ q) data q.atoms) []
  rw [List.length_map] at h1
  unfold costP at h
  omega
set_option maxHeartbeats 4000000 in
set_option maxRecDepth 100000 in
theorem law_answers (q : Qy) (L : QLoc) (data : List Tbl) (B : Option Addr) (m c : Nat) (most : Int) (w : World) (hq : QAt w L q) (hM : smallM 1048576 q)
    (hb : LAt RB 2 w B m data) (hd : ∀ t ∈ data, smallTb 1048576 t) (_ : -9223372036854775808 ≤ most ∧ most ≤ 9223372036854775807) (hm : m ≤ 1048576) :
    Calls Tryz.prog 3 #[qval q.name L, .slice B m c, .int .i64 most] w fun e w' => e = .returned (.bool true) ∧ Ext w w' := by
  obtain rfl : m = data.length := hb.len
  have hs1 : (data.flatMap Tbl.rows).length ≤ 1099511627776 := Nat.le_trans (sum_rows data hd) (by have : data.length * 1048576 ≤ 1048576 * 1048576 := Nat.mul_le_mul_right _ (by omega); omega)
  have HCP := hide (fun w1 (h1 : Ext w w1) => copy_qt q L w1 (hq.ext h1) hM)
  have HCT := hide (fun w1 (h1 : Ext w w1) => copy_tabs data B data.length c w1 (hb.ext RB.stab h1) (by omega) (fun t ht => ⟨Nat.le_trans (hd t ht).2.1 (by omega), fun r hr => Nat.le_trans ((hd t ht).2.2 r hr).1 (by omega)⟩))
  have HA1 := hide (fun L1 A1 n1 c1 w1 (h1 : QAt w1 L1 q) (h2 : LAt RB 2 w1 A1 n1 data) => answers_lat q L1 data A1 n1 c1 most w1 h1 hM h2 (by have := h2.len; omega) hs1 (fun t ht r hr => ((hd t ht).2.2 r hr).1))
  have HA2 := hide (fun w1 (h1 : Ext w w1) => ref_answers q L data B data.length c most w1 (hq.ext h1) hM (hb.ext RB.stab h1) hd hm)
  have HSQ := hide (fun L1 w1 (h1 : QAt w1 L1 q) (h2 : Ext w w1) => same_query q q L1 L w1 h1 (hq.ext h2) hM)
  have HST := hide (fun A1 n1 c1 w1 (h1 : LAt RB 2 w1 A1 n1 data) (h2 : Ext w w1) => same_tabs data data A1 B n1 data.length c1 c w1 h1 (hb.ext RB.stab h2) (by have := h1.len; omega) (fun t ht => ⟨Nat.le_trans (hd t ht).2.1 (by omega), fun r hr => Nat.le_trans ((hd t ht).2.2 r hr).1 (by omega)⟩))
  have HSA := hide (fun A1 A2 c1 c2 w1 (h1 : LAt RRow 1 w1 A1 (answersP q data most).1.length (answersP q data most).1) (h2 : LAt RRow 1 w1 A2 (answersP q data most).1.length (answersP q data most).1) => same_all (answersP q data most).1 (answersP q data most).1 A1 A2 _ _ c1 c2 w1 h1 h2 (by
    have hc : (answersP q data most).1.length ≤ 140737488355328 := by
      unfold answersP
      split
      · split
        · simp
        · split
          · split
            · simp
            · exact ans_le q data (by assumption)
          · simp
      · simp
    exact hc) (fun r hr => by have := answersP_row hr; have := hM.headL; omega))
  rw [(sameQ_iff q q).2 rfl] at HSQ
  rw [sameTb_iff.2 rfl] at HST
  rw [sameRs_iff.2 rfl] at HSA
  have HE := hide (Ext.alloc w (.cells #[.string q.name, .slice L.A L.n L.c, .slice L.B L.m L.d] 25))
  have HB0 := hide (Blk.new w 25 #[.string q.name, .slice L.A L.n L.c, .slice L.B L.m L.d])
  generalize hW2 : w.alloc (.cells #[.string q.name, .slice L.A L.n L.c, .slice L.B L.m L.d] 25) = W2 at *
  have HW2 := hide hW2; clear hW2 hq hM hb hd hm hs1
  generalize answersP q data most = av at *
  obtain ⟨a, ea⟩ := av
  obtain ⟨A, n, cA, AB, k, d⟩ := L
  simp only [qval] at *
  have a0 : W2.cell? ⟨w.heap.size, 0, none⟩ = some (.string q.name) := HB0.out.cell 0
  have a1 : W2.cell? ⟨w.heap.size, 1, none⟩ = some (.slice A n cA) := HB0.out.cell 1
  have a2 : W2.cell? ⟨w.heap.size, 2, none⟩ = some (.slice AB k d) := HB0.out.cell 2
  go_enter Tryz.func3, Tryz.ntmps3
  go_wp2_with (first
    | (rw [HW2.out]; (with_reducible refine (HCP.out _ HE.out).mono ?_); rintro e w1 ⟨A1, n1, c1, B1, m1, d1, rfl, q1, x1⟩; have X1 := hide x1; have Q1 := hide q1; clear q1 x1 a0 a1 a2)
    | ((with_reducible refine (HCT.out _ (HE.out.trans X1.out)).mono ?_); rintro e w2 ⟨A2, n2, c2, cs2, rfl, l2, o2, t2, x2⟩; have X2 := hide (X1.out.trans x2); have T2 := hide (tabs_lat l2 o2 t2); have Q2 := hide (Q1.out.ext x2); clear l2 o2 t2 x2
       have BC := hide (Blk.new w2 25 #[.string q.name, .slice A1 n1 c1, .slice B1 m1 d1]))
    | ((with_reducible refine (HA1.out ⟨A1, n1, c1, B1, m1, d1⟩ _ _ _ _ (Q2.out.ext (Ext.alloc _ _)) (T2.out.ext RB.stab (Ext.alloc _ _))).mono ?_); rintro e w3 ⟨A3, c3, rfl, r3, x3⟩; have X3 := hide (X2.out.trans ((Ext.alloc _ _).trans x3)); have R3 := hide r3; have T3 := hide (T2.out.ext RB.stab ((Ext.alloc _ _).trans x3)); have Q3 := hide (Q2.out.ext ((Ext.alloc _ _).trans x3)); have BC3 := hide (BC.out.ext x3); clear r3 x3
       have a0 : w3.cell? ⟨w.heap.size, 0, none⟩ = some (.string q.name) := (HB0.out.ext X3.out).cell 0
       have a1 : w3.cell? ⟨w.heap.size, 1, none⟩ = some (.slice A n cA) := (HB0.out.ext X3.out).cell 1
       have a2 : w3.cell? ⟨w.heap.size, 2, none⟩ = some (.slice AB k d) := (HB0.out.ext X3.out).cell 2)
    | ((with_reducible refine (HA2.out _ (HE.out.trans X3.out)).mono ?_); rintro e w4 ⟨A4, c4, rfl, l4, x4⟩; have X4 := hide (HE.out.trans (X3.out.trans x4)); have L4 := hide l4; have R4 := hide (R3.out.ext RRow.stab x4); have T4 := hide (T3.out.ext RB.stab x4); have Q4 := hide (Q3.out.ext x4); have BC4 := hide (BC3.out.ext x4); have HB4 := hide ((HB0.out.ext X3.out).ext x4); clear l4 x4 a0 a1 a2)
    | ((with_reducible refine (awake_any _).mono ?_); rintro e w5 ⟨rfl, x5⟩; have X5 := hide x5; clear x5)
    | ((with_reducible refine (HSA.out A3 A4 c3 c4 _ (R4.out.ext RRow.stab X5.out) (L4.out.ext RRow.stab X5.out)).mono ?_); rintro e w6 ⟨rfl, x6⟩; have X6 := hide (X5.out.trans x6); clear x6
       have b0 : w6.cell? ⟨w.heap.size, 0, none⟩ = some (.string q.name) := (HB4.out.ext X6.out).cell 0
       have b1 : w6.cell? ⟨w.heap.size, 1, none⟩ = some (.slice A n cA) := (HB4.out.ext X6.out).cell 1
       have b2 : w6.cell? ⟨w.heap.size, 2, none⟩ = some (.slice AB k d) := (HB4.out.ext X6.out).cell 2
       have f0 : w6.cell? ⟨w2.heap.size, 0, none⟩ = some (.string q.name) := (BC4.out.ext X6.out).cell 0
       have f1 : w6.cell? ⟨w2.heap.size, 1, none⟩ = some (.slice A1 n1 c1) := (BC4.out.ext X6.out).cell 1
       have f2 : w6.cell? ⟨w2.heap.size, 2, none⟩ = some (.slice B1 m1 d1) := (BC4.out.ext X6.out).cell 2)
    | ((with_reducible refine (HSQ.out ⟨A1, n1, c1, B1, m1, d1⟩ _ (Q4.out.ext X6.out) (X4.out.trans X6.out)).mono ?_); rintro e w7 ⟨rfl, x7⟩; have X7 := hide (X6.out.trans x7); clear x7 b0 b1 b2 f0 f1 f2)
    | ((with_reducible refine (HST.out _ _ _ _ (T4.out.ext RB.stab X7.out) (X4.out.trans X7.out)).mono ?_); rintro e w8 ⟨rfl, x8⟩; have X8 := hide (X7.out.trans x8); clear x8))
  go_ret
  exact ⟨rfl, X4.out.trans X8.out⟩
end Go.Proofs.YtpfjkjmimmklcaaGreat
