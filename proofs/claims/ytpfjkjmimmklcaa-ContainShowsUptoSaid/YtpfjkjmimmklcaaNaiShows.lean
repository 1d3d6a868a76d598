/-
  ContainShows: the walk.
-/
import Derived.Test.YtpfjkjmimmklcaaAwake
import Derived.Test.YtpfjkjmimmklcaaNaiK
import Derived.Test.YtpfjkjmimmklcaaNaiShowsP
import Derived.Test.YtpfjkjmimmklcaaFrzW
namespace Go.Proofs.Ytpfjkjmimmklcaa
open Go.RowKit

theorem leaves_le : ∀ (ls : List Lv) (val : List V), (leaves ls val).length ≤ cost ls val + 1
  | [], _ => by simp [leaves]
  | l :: ls, val => by
    have h : ∀ ps : List (List V), (ps.flatMap (leaves ls)).length ≤ (ps.map (cost ls)).sum + ps.length := by
      intro ps
      induction ps with
      | nil => simp
      | cons p ps ih =>
        have := leaves_le ls p
        rw [List.flatMap_cons, List.length_append, List.map_cons, List.sum_cons, List.length_cons]
        omega
    have h1 := h (l.step val)
    have h2 : (l.step val).length ≤ l.rows.length := List.length_filterMap_le _ _
    simp only [leaves, cost]
    omega
theorem collect_len (q : Qy) (data : List Tbl) : (collectP q data).1.length ≤ 1073741824 := by
  unfold collectP
  split
  · split
    · rename_i h
      have h1 := arr_len ((leaves (lvsFrom (varsQ q) data q.atoms) []).map (headV (q.head.map (atN (varsQ q)))))
      have h2 := leaves_le (lvsFrom (varsQ q) data q.atoms) []
      rw [List.length_map] at h1
      unfold costP at h
      show (ansP q data).length ≤ _
      unfold ansP
      omega
    · simp
  · simp
theorem frz_tabs {p : Qy} (hM : smallM 1048576 p) : (frzR p).1.length ≤ 6 ∧ (∀ t ∈ (frzR p).1, t.rows.length ≤ 6 ∧ ∀ r ∈ t.rows, r.length ≤ 1048576) ∧ (frzR p).2.1.length ≤ 1048576 := by
  unfold frzR
  split
  · rename_i h
    have hs := (shapeQ_iff.1 h).six
    refine ⟨Nat.le_trans (frz_len _ _) hs, fun t ht => ?_, by simpa using hM.headL⟩
    obtain ⟨rel, -, rfl⟩ := List.mem_map.1 (show t ∈ (relsOf p.atoms).map fun rel => (⟨rel, rowsOf (varsQ p) p.atoms rel⟩ : Tbl) from ht)
    refine ⟨Nat.le_trans (rowsOf_len _ _ _) hs, fun r hr => ?_⟩
    obtain ⟨a, ha, -, rfl⟩ := mem_rowsOf.1 hr
    simpa [iceR] using (hM.atoms a ha).len
  · exact ⟨(by simp), fun t ht => (by cases ht), (by simp)⟩
theorem frz_sum {data : List Tbl} (hl : data.length ≤ 6) (h : ∀ t ∈ data, t.rows.length ≤ 6 ∧ ∀ r ∈ t.rows, r.length ≤ 1048576) : (data.flatMap Tbl.rows).length ≤ 1099511627776 := by
  have h1 : ∀ l : List Tbl, (∀ t ∈ l, t.rows.length ≤ 6) → (l.flatMap Tbl.rows).length ≤ l.length * 6 := by
    intro l
    induction l with
    | nil => simp
    | cons t l ih =>
      intro h
      have h2 := h t (by simp)
      have h3 := ih fun x hx => h x (by simp [hx])
      rw [List.flatMap_cons, List.length_append, List.length_cons]
      omega
  have := h1 data fun t ht => (h t ht).1
  omega
theorem contains_qis' {a b : Qy} {L1 L2 : QLoc} {w : World} (h1 : QAt w L1 a) (h2 : QAt w L2 b) (hMa : smallM 1048576 a) (hMb : smallM 1048576 b) :
    Calls Try.prog 36 #[qval a.name L1, qval b.name L2] w fun e w' => e = .returned (.tuple #[.bool (findR a b).2.1, .int .i64 (findR a b).2.2]) ∧ Ext w w' := contains_any a b L1 L2 w h1 h2 hMa hMb
theorem freeze_out (q : Qy) (L : QLoc) (w : World) (hq : QAt w L q) (hM : smallM 1048576 q) : Calls Try.prog 38 #[qval q.name L] w fun e w' => ∃ A c B d, e = .returned (.tuple #[.slice A (frzR q).1.length c, .slice B (frzR q).2.1.length d, .int .i64 (frzR q).2.2]) ∧ LAt RB 2 w' A (frzR q).1.length (frzR q).1 ∧ RowAt w' B (frzR q).2.1.length (frzR q).2.1 ∧ Ext w w' :=
  (freeze_any q L w hq hM).mono fun e w' ⟨A, n, c, B, m, d, he, h1, h2, h3⟩ => by
    obtain rfl := h1.len
    obtain rfl := h2.len
    exact ⟨A, c, B, d, he, h1, h2, h3⟩

set_option maxHeartbeats 8000000 in
set_option maxRecDepth 100000 in
theorem law_shows (q p : Qy) (L L' : QLoc) (w : World) (hq : QAt w L q) (hM : smallM 1048576 q) (hp : QAt w L' p) (hM' : smallM 1048576 p) :
    Calls Try.prog 11 #[qval q.name L, qval p.name L'] w fun e w' => e = .returned (.bool true) ∧ Ext w w' := by
  have HCQ := hide (fun w1 (h1 : Ext w w1) => copy_qis (hq.ext h1) hM)
  have HCR := hide (fun w1 (h1 : Ext w w1) => copy_qis (hp.ext h1) hM')
  have HCP := hide (fun w1 (h1 : Ext w w1) => copy_qt q L w1 (hq.ext h1) hM)
  have HCP' := hide (fun w1 (h1 : Ext w w1) => copy_qt p L' w1 (hp.ext h1) hM')
  have HCC := hide (fun L1 L2 w1 (h1 : QAt w1 L1 q) (h2 : QAt w1 L2 p) => contains_qis' h1 h2 hM hM')
  have HFZ := hide (fun L1 w1 (h1 : QAt w1 L1 p) => freeze_out p L1 w1 h1 hM')
  obtain ⟨t1, t2, t3⟩ := frz_tabs hM'
  have hs1 := frz_sum t1 t2
  have HH1 := hide (fun L1 A1 c1 C1 d1 w1 (h1 : QAt w1 L1 p) (h2 : LAt RB 2 w1 A1 (frzR p).1.length (frzR p).1) (h3 : RowAt w1 C1 (frzR p).2.1.length (frzR p).2.1) => holds_any p L1 (frzR p).1 A1 _ c1 (frzR p).2.1 C1 _ d1 w1 h1 hM' h2 (by omega) hs1 (fun t ht => (t2 t ht).2) h3 t3 (collect_len _ _))
  have HH2 := hide (fun L1 A1 c1 C1 d1 w1 (h1 : QAt w1 L1 q) (h2 : LAt RB 2 w1 A1 (frzR p).1.length (frzR p).1) (h3 : RowAt w1 C1 (frzR p).2.1.length (frzR p).2.1) => holds_any q L1 (frzR p).1 A1 _ c1 (frzR p).2.1 C1 _ d1 w1 h1 hM h2 (by omega) hs1 (fun t ht => (t2 t ht).2) h3 t3 (collect_len _ _))
  have HLW := hide (@shows_law q p)
  clear t1 t2 t3 hs1
  generalize holdsP p (frzR p).1 (frzR p).2.1 = o1 at *
  generalize holdsP q (frzR p).1 (frzR p).2.1 = o2 at *
  generalize (collectP p (frzR p).1).2.2 = g1 at *
  generalize (collectP q (frzR p).1).2.2 = g2 at *
  generalize frzR p = fz at *
  obtain ⟨data, head, fe⟩ := fz
  generalize findR q p = rf at *
  obtain ⟨im, ok, er⟩ := rf
  have HE := hide ((Ext.alloc w (.cells #[.string q.name, .slice L.A L.n L.c, .slice L.B L.m L.d] 25)).alloc' (.cells #[.string p.name, .slice L'.A L'.n L'.c, .slice L'.B L'.m L'.d] 25))
  have HB0 := hide ((Blk.new w 25 #[.string q.name, .slice L.A L.n L.c, .slice L.B L.m L.d]).ext (Ext.alloc _ (.cells #[.string p.name, .slice L'.A L'.n L'.c, .slice L'.B L'.m L'.d] 25)))
  have HB1 := hide (show Blk ((w.alloc (.cells #[.string q.name, .slice L.A L.n L.c, .slice L.B L.m L.d] 25)).alloc (.cells #[.string p.name, .slice L'.A L'.n L'.c, .slice L'.B L'.m L'.d] 25)) (w.heap.size + 1) 25 #[.string p.name, .slice L'.A L'.n L'.c, .slice L'.B L'.m L'.d] from blkAt (World.size_alloc _ _))
  generalize hW2 : (w.alloc (.cells #[.string q.name, .slice L.A L.n L.c, .slice L.B L.m L.d] 25)).alloc (.cells #[.string p.name, .slice L'.A L'.n L'.c, .slice L'.B L'.m L'.d] 25) = W2 at *
  have HW2 := hide hW2; clear hW2 hq hM hp hM'
  obtain ⟨A, n, cA, AB, k, d⟩ := L
  obtain ⟨A', n', cA', AB', k', d'⟩ := L'
  simp only [qval] at HCC HCP HCP' HFZ HH1 HH2 ⊢
  dsimp only at HLW HCC HFZ HH1 HH2
  go_enter Try.func11, Try.ntmps11
  go_wp2_with fail
  rw [HW2.out]
  have a0 := cell_ext (show W2.cell? ⟨w.heap.size, 0, none⟩ = some (.string q.name) from HB0.out.cell 0)
  have a1 := cell_ext (show W2.cell? ⟨w.heap.size, 1, none⟩ = some (.slice A n cA) from HB0.out.cell 1)
  have a2 := cell_ext (show W2.cell? ⟨w.heap.size, 2, none⟩ = some (.slice AB k d) from HB0.out.cell 2)
  have b0 := cell_ext (show W2.cell? ⟨w.heap.size + 1, 0, none⟩ = some (.string p.name) from HB1.out.cell 0)
  have b1 := cell_ext (show W2.cell? ⟨w.heap.size + 1, 1, none⟩ = some (.slice A' n' cA') from HB1.out.cell 1)
  have b2 := cell_ext (show W2.cell? ⟨w.heap.size + 1, 2, none⟩ = some (.slice AB' k' d') from HB1.out.cell 2)
  refine wp_region_ext 10 (by kernel_rfl) (by kernel_rfl) (by kernel_rfl) ?_
  iterate 1
    refine wpE_k (by kernel_rfl) (by kernel_rfl) ?_
    apply Exists.intro
    refine ⟨fun w1 hw1 => ?_, fun K hK => ?_⟩
    · go_simp; first | done | rfl
    go_simp; refine hK _ _ ?_; clear hK K
  refine wpE_p [] (QIs q) (fun u w1 w2 _ h2 h => h.ext h2) rfl (by kernel_rfl) (fun w1 hw1 => ?_) ?_
  · simp only [LookQ]
    clear a0 a1 a2 b0 b1 b2
    go_simp
    exact ⟨Ext.refl _, HCQ.out w1 (HE.out.trans hw1)⟩
  iterate 1
    refine wpE_k (by kernel_rfl) (by kernel_rfl) ?_
    apply Exists.intro
    refine ⟨fun w1 hw1 => ?_, fun K hK => ?_⟩
    · go_simp; first | done | rfl
    go_simp; refine hK _ _ ?_; clear hK K
  refine wpE_p [] (QIs p) (fun u w1 w2 _ h2 h => h.ext h2) rfl (by kernel_rfl) (fun w1 hw1 => ?_) ?_
  · simp only [LookQ]
    clear a0 a1 a2 b0 b1 b2
    go_simp
    exact ⟨Ext.refl _, HCR.out w1 (HE.out.trans hw1)⟩
  refine wpE_kp [16, 18] (.tuple #[.bool ok, .int .i64 er]) (by kernel_rfl) (by kernel_rfl) (fun w1 hw1 => ?_) (fun K hK => ?_)
  · simp only [LookQ]
    intro u hu v hv
    obtain ⟨L1, rfl, h1⟩ := hu _ rfl
    obtain ⟨L2, rfl, h2⟩ := hv _ rfl
    clear hu hv a0 a1 a2 b0 b1 b2
    go_simp
    exact ⟨Ext.refl _, HCC.out L1 L2 w1 h1 h2⟩
  go_simp; refine hK _ _ ?_; clear hK K
  iterate 5
    refine wpE_k (by kernel_rfl) (by kernel_rfl) ?_
    apply Exists.intro
    refine ⟨fun w1 hw1 => ?_, fun K hK => ?_⟩
    · go_simp; first | done | rfl
    go_simp; refine hK _ _ ?_; clear hK K
  refine wpE_nil ⟨rfl, by kernel_rfl, fun w1 hw1 => ?_⟩
  simp only [EndQ, List.drop]
  intro u _ v _
  refine wpList_nil ?_
  have X0 := hide hw1; clear hw1
  clear a0 a1 a2 b0 b1 b2
  have b0 : w1.cell? ⟨w.heap.size + 1, 0, none⟩ = some (.string p.name) := (HB1.out.ext X0.out).cell 0
  have b1 : w1.cell? ⟨w.heap.size + 1, 1, none⟩ = some (.slice A' n' cA') := (HB1.out.ext X0.out).cell 1
  have b2 : w1.cell? ⟨w.heap.size + 1, 2, none⟩ = some (.slice AB' k' d') := (HB1.out.ext X0.out).cell 2
  by_cases h0 : er = 0
  · obtain ⟨rfl, rfl, rfl, rfl, rfl⟩ := HLW.out h0
    subst h0
    go_wp2_with (first
      | ((with_reducible refine (HCP'.out _ (HE.out.trans X0.out)).mono ?_); rintro e w3 ⟨A3, n3, c3, B3, m3, d3, rfl, q3, x3⟩; have X3 := hide (X0.out.trans x3); have Q3 := hide q3; clear q3 x3 b0 b1 b2)
      | ((with_reducible refine (HFZ.out ⟨A3, n3, c3, B3, m3, d3⟩ _ Q3.out).mono ?_); rintro e w4 ⟨A4, c4, B4, d4, rfl, t4, r4, x4⟩; have X4 := hide (X3.out.trans x4); have T4 := hide t4; have R4 := hide r4; clear t4 r4 x4
         have b0 : w4.cell? ⟨w.heap.size + 1, 0, none⟩ = some (.string p.name) := (HB1.out.ext X4.out).cell 0
         have b1 : w4.cell? ⟨w.heap.size + 1, 1, none⟩ = some (.slice A' n' cA') := (HB1.out.ext X4.out).cell 1
         have b2 : w4.cell? ⟨w.heap.size + 1, 2, none⟩ = some (.slice AB' k' d') := (HB1.out.ext X4.out).cell 2)
      | ((with_reducible refine (HCP'.out _ (HE.out.trans X4.out)).mono ?_); rintro e w5 ⟨A5, n5, c5, B5, m5, d5, rfl, q5, x5⟩; have X5 := hide (X4.out.trans x5); have Q5 := hide q5; have T5 := hide (T4.out.ext RB.stab x5); have R5 := hide (R4.out.ext x5); clear q5 x5 b0 b1 b2)
      | ((with_reducible refine (HH1.out ⟨A5, n5, c5, B5, m5, d5⟩ _ _ _ _ _ Q5.out T5.out R5.out).mono ?_); rintro e w6 ⟨rfl, x6⟩; have X6 := hide (X5.out.trans x6); have T6 := hide (T5.out.ext RB.stab x6); have R6 := hide (R5.out.ext x6); clear x6
         have a0 : w6.cell? ⟨w.heap.size, 0, none⟩ = some (.string q.name) := (HB0.out.ext X6.out).cell 0
         have a1 : w6.cell? ⟨w.heap.size, 1, none⟩ = some (.slice A n cA) := (HB0.out.ext X6.out).cell 1
         have a2 : w6.cell? ⟨w.heap.size, 2, none⟩ = some (.slice AB k d) := (HB0.out.ext X6.out).cell 2)
      | ((with_reducible refine (HCP.out _ (HE.out.trans X6.out)).mono ?_); rintro e w7 ⟨A7, n7, c7, B7, m7, d7, rfl, q7, x7⟩; have X7 := hide (X6.out.trans x7); have Q7 := hide q7; have T7 := hide (T6.out.ext RB.stab x7); have R7 := hide (R6.out.ext x7); clear q7 x7 a0 a1 a2)
      | ((with_reducible refine (HH2.out ⟨A7, n7, c7, B7, m7, d7⟩ _ _ _ _ _ Q7.out T7.out R7.out).mono ?_); rintro e w8 ⟨rfl, x8⟩; have X8 := hide (HE.out.trans (X7.out.trans x8)); clear x8)
      | ((with_reducible refine (awake_any _).mono ?_); rintro e w9 ⟨rfl, x9⟩; have X9 := hide (X8.out.trans x9); clear x9))
    go_ret
    exact ⟨by simp, X9.out⟩
  · have hne : (er != 0) = true := by simpa using h0
    have h0 := hide h0
    go_wp2_with ((with_reducible refine (awake_any _).mono ?_); rintro e w9 ⟨rfl, x9⟩; have X9 := hide (X0.out.trans x9); clear x9)
    go_ret
    exact ⟨rfl, HE.out.trans X9.out⟩
end Go.Proofs.Ytpfjkjmimmklcaa
