/-
  ContainSound: the walk.
-/
import Derived.Test.YtpfjkjmimmklcaaAwake
import Derived.Test.YtpfjkjmimmklcaaNaiK
import Derived.Test.YtpfjkjmimmklcaaNaiZ
import Derived.Test.YtpfjkjmimmklcaaCloseA
namespace Go.Proofs.Ytpfjkjmimmklcaa
open Go.RowKit

theorem findR_ok {f t : Qy} (h : (findR f t).2.1 = true) : (findR f t).2.2 = 0 := by
  rw [findR_err]; exact (findR_yes.1 h).1
theorem sameR_comm (r s : List V) : sameR r s = sameR s r := by
  rw [Bool.eq_iff_iff, sameR_iff, sameR_iff]; exact eq_comm
theorem contains_qis {a b : Qy} {L1 L2 : QLoc} {w : World} (h1 : QAt w L1 a) (h2 : QAt w L2 b) (hMa : smallM 1048576 a) (hMb : smallM 1048576 b) :
    Calls Try.prog 36 #[qval a.name L1, qval b.name L2] w fun e w' => e = .returned (.tuple #[.bool (findR a b).2.1, .int .i64 (findR a b).2.2]) ∧ Ext w w' := contains_any a b L1 L2 w h1 h2 hMa hMb

set_option maxHeartbeats 8000000 in
set_option maxRecDepth 100000 in
theorem law_sound (q p : Qy) (L L' : QLoc) (data : List Tbl) (B : Option Addr) (m c : Nat) (w : World) (hq : QAt w L q) (hM : smallM 1048576 q) (hp : QAt w L' p) (hM' : smallM 1048576 p)
    (hb : LAt RB 2 w B m data) (hd : ∀ t ∈ data, smallTb 1048576 t) (hm : m ≤ 1048576) :
    Calls Try.prog 10 #[qval q.name L, qval p.name L', .slice B m c] w fun e w' => e = .returned (.bool true) ∧ Ext w w' := by
  have hs1 : (data.flatMap Tbl.rows).length ≤ 1099511627776 := Nat.le_trans (sum_rows data hd) (by have := hb.len; have : data.length * 1048576 ≤ 1048576 * 1048576 := Nat.mul_le_mul_right _ (by omega); omega)
  have HCQ := hide (fun w1 (h1 : Ext w w1) => copy_qis (hq.ext h1) hM)
  have HCR := hide (fun w1 (h1 : Ext w w1) => copy_qis (hp.ext h1) hM')
  have HCP := hide (fun w1 (h1 : Ext w w1) => copy_qt q L w1 (hq.ext h1) hM)
  have HCP' := hide (fun w1 (h1 : Ext w w1) => copy_qt p L' w1 (hp.ext h1) hM')
  have HCC := hide (fun L1 L2 w1 (h1 : QAt w1 L1 q) (h2 : QAt w1 L2 p) => contains_qis h1 h2 hM hM')
  have HCT := hide (fun w1 (h1 : Ext w w1) => copy_tabs data B m c w1 (hb.ext RB.stab h1) (by omega) (fun t ht => ⟨Nat.le_trans (hd t ht).2.1 (by omega), fun r hr => Nat.le_trans ((hd t ht).2.2 r hr).1 (by omega)⟩))
  have HA1 := hide (fun L1 A1 n1 c1 w1 (h1 : QAt w1 L1 q) (h2 : LAt RB 2 w1 A1 n1 data) => answers_lat q L1 data A1 n1 c1 1073741824 w1 h1 hM h2 (by have := h2.len; have := hb.len; omega) hs1 (fun t ht r hr => ((hd t ht).2.2 r hr).1))
  have HA2 := hide (fun L1 A1 n1 c1 w1 (h1 : QAt w1 L1 p) (h2 : LAt RB 2 w1 A1 n1 data) => answers_lat p L1 data A1 n1 c1 1073741824 w1 h1 hM' h2 (by have := h2.len; have := hb.len; omega) hs1 (fun t ht r hr => ((hd t ht).2.2 r hr).1))
  have HLW := hide (@sound_law q p data 1073741824 1073741824)
  have HRW := hide (fun x (hx : x ∈ (answersP q data 1073741824).1) => (show x.length ≤ 1048576 by have := answersP_row hx; have := hM.headL; omega))
  have hle1 := answersP_len q data 1073741824
  have hle2 := answersP_len p data 1073741824
  have hfk := @findR_ok q p
  generalize answersP q data 1073741824 = ra at *
  generalize answersP p data 1073741824 = rb at *
  generalize findR q p = rf at *
  obtain ⟨a, ea⟩ := ra
  obtain ⟨b, eb⟩ := rb
  obtain ⟨im, ok, er⟩ := rf
  have HLE := hide (show a.length ≤ 1073741824 ∧ b.length ≤ 1073741824 from ⟨by simp only at hle1; omega, by simp only at hle2; omega⟩)
  have HE := hide ((Ext.alloc w (.cells #[.string q.name, .slice L.A L.n L.c, .slice L.B L.m L.d] 25)).alloc' (.cells #[.string p.name, .slice L'.A L'.n L'.c, .slice L'.B L'.m L'.d] 25))
  have HB0 := hide ((Blk.new w 25 #[.string q.name, .slice L.A L.n L.c, .slice L.B L.m L.d]).ext (Ext.alloc _ (.cells #[.string p.name, .slice L'.A L'.n L'.c, .slice L'.B L'.m L'.d] 25)))
  have HB1 := hide (show Blk ((w.alloc (.cells #[.string q.name, .slice L.A L.n L.c, .slice L.B L.m L.d] 25)).alloc (.cells #[.string p.name, .slice L'.A L'.n L'.c, .slice L'.B L'.m L'.d] 25)) (w.heap.size + 1) 25 #[.string p.name, .slice L'.A L'.n L'.c, .slice L'.B L'.m L'.d] from blkAt (World.size_alloc _ _))
  generalize hW2 : (w.alloc (.cells #[.string q.name, .slice L.A L.n L.c, .slice L.B L.m L.d] 25)).alloc (.cells #[.string p.name, .slice L'.A L'.n L'.c, .slice L'.B L'.m L'.d] 25) = W2 at *
  have HW2 := hide hW2; clear hW2 hq hM hb hd hp hM' hm hs1 hle1 hle2
  obtain ⟨A, n, cA, AB, k, d⟩ := L
  obtain ⟨A', n', cA', AB', k', d'⟩ := L'
  simp only [qval] at HCC HCP HCP' HA1 HA2 ⊢
  dsimp only at hfk HLW HCC
  have hcase : (ok = true ∧ er = 0 ∧ ea = 0 ∧ eb = 0) ∨ (ok = true ∧ er = 0 ∧ (ea != 0) = true) ∨ (ok = true ∧ er = 0 ∧ ea = 0 ∧ (eb != 0) = true) ∨ (ok = false ∧ er = 0) ∨ (ok = false ∧ (er != 0) = true) := by
    cases ok
    · by_cases h1 : er = 0
      · exact .inr (.inr (.inr (.inl ⟨rfl, h1⟩)))
      · exact .inr (.inr (.inr (.inr ⟨rfl, by simpa using h1⟩)))
    · have h0 := hfk rfl
      by_cases h1 : ea = 0
      · by_cases h2 : eb = 0
        · exact .inl ⟨rfl, h0, h1, h2⟩
        · exact .inr (.inr (.inl ⟨rfl, h0, h1, by simpa using h2⟩))
      · exact .inr (.inl ⟨rfl, h0, by simpa using h1⟩)
  clear hfk
  go_enter Try.func10, Try.ntmps10
  go_wp2_with fail
  rw [HW2.out]
  have a0 := cell_ext (show W2.cell? ⟨w.heap.size, 0, none⟩ = some (.string q.name) from HB0.out.cell 0)
  have a1 := cell_ext (show W2.cell? ⟨w.heap.size, 1, none⟩ = some (.slice A n cA) from HB0.out.cell 1)
  have a2 := cell_ext (show W2.cell? ⟨w.heap.size, 2, none⟩ = some (.slice AB k d) from HB0.out.cell 2)
  have b0 := cell_ext (show W2.cell? ⟨w.heap.size + 1, 0, none⟩ = some (.string p.name) from HB1.out.cell 0)
  have b1 := cell_ext (show W2.cell? ⟨w.heap.size + 1, 1, none⟩ = some (.slice A' n' cA') from HB1.out.cell 1)
  have b2 := cell_ext (show W2.cell? ⟨w.heap.size + 1, 2, none⟩ = some (.slice AB' k' d') from HB1.out.cell 2)
  refine wp_region_ext 10 (by kernel_rfl) (by kernel_rfl) (by kernel_rfl) ?_
  iterate 1
    refine wpE_k (by kernel_rfl) (by kernel_rfl) ?_
    apply Exists.intro
    refine ⟨fun w1 hw1 => ?_, fun K hK => ?_⟩
    · go_simp; first | done | rfl
    go_simp; refine hK _ _ ?_; clear hK K
  refine wpE_p [] (QIs q) (fun u w1 w2 _ h2 h => h.ext h2) rfl (by kernel_rfl) (fun w1 hw1 => ?_) ?_
  · simp only [LookQ]
    clear a0 a1 a2 b0 b1 b2
    go_simp
    exact ⟨Ext.refl _, HCQ.out w1 (HE.out.trans hw1)⟩
  iterate 1
    refine wpE_k (by kernel_rfl) (by kernel_rfl) ?_
    apply Exists.intro
    refine ⟨fun w1 hw1 => ?_, fun K hK => ?_⟩
    · go_simp; first | done | rfl
    go_simp; refine hK _ _ ?_; clear hK K
  refine wpE_p [] (QIs p) (fun u w1 w2 _ h2 h => h.ext h2) rfl (by kernel_rfl) (fun w1 hw1 => ?_) ?_
  · simp only [LookQ]
    clear a0 a1 a2 b0 b1 b2
    go_simp
    exact ⟨Ext.refl _, HCR.out w1 (HE.out.trans hw1)⟩
  refine wpE_kp [18, 20] (.tuple #[.bool ok, .int .i64 er]) (by kernel_rfl) (by kernel_rfl) (fun w1 hw1 => ?_) (fun K hK => ?_)
  · simp only [LookQ]
    intro u hu v hv
    obtain ⟨L1, rfl, h1⟩ := hu _ rfl
    obtain ⟨L2, rfl, h2⟩ := hv _ rfl
    clear hu hv a0 a1 a2 b0 b1 b2
    go_simp
    exact ⟨Ext.refl _, HCC.out L1 L2 w1 h1 h2⟩
  go_simp; refine hK _ _ ?_; clear hK K
  iterate 5
    refine wpE_k (by kernel_rfl) (by kernel_rfl) ?_
    apply Exists.intro
    refine ⟨fun w1 hw1 => ?_, fun K hK => ?_⟩
    · go_simp; first | done | rfl
    go_simp; refine hK _ _ ?_; clear hK K
  refine wpE_nil ⟨rfl, by kernel_rfl, fun w1 hw1 => ?_⟩
  simp only [EndQ, List.drop]
  intro u _ v _
  refine wpList_nil ?_
  have X0 := hide hw1; clear hw1
  clear a0 a1 a2 b0 b1 b2
  have a0 : w1.cell? ⟨w.heap.size, 0, none⟩ = some (.string q.name) := (HB0.out.ext X0.out).cell 0
  have a1 : w1.cell? ⟨w.heap.size, 1, none⟩ = some (.slice A n cA) := (HB0.out.ext X0.out).cell 1
  have a2 : w1.cell? ⟨w.heap.size, 2, none⟩ = some (.slice AB k d) := (HB0.out.ext X0.out).cell 2
  rcases hcase with ⟨rfl, rfl, rfl, rfl⟩ | ⟨rfl, rfl, hne⟩ | ⟨rfl, rfl, rfl, hne⟩ | ⟨rfl, rfl⟩ | ⟨rfl, hne⟩
  rotate_left 3
  · go_wp2_with ((with_reducible refine (awake_any _).mono ?_); rintro e w9 ⟨rfl, x9⟩; have X9 := hide (X0.out.trans x9); clear x9)
    go_ret
    exact ⟨rfl, HE.out.trans X9.out⟩
  · go_wp2_with ((with_reducible refine (awake_any _).mono ?_); rintro e w9 ⟨rfl, x9⟩; have X9 := hide (X0.out.trans x9); clear x9)
    go_ret
    exact ⟨rfl, HE.out.trans X9.out⟩
  all_goals go_wp2_with (first
    | ((with_reducible refine (HCP.out _ (HE.out.trans X0.out)).mono ?_); rintro e w1 ⟨A1, n1, c1, B1, m1, d1, rfl, q1, x1⟩; have X1 := hide (X0.out.trans x1); have Q1 := hide q1; clear q1 x1 a0 a1 a2)
    | ((with_reducible refine (HCT.out _ (HE.out.trans X1.out)).mono ?_); rintro e w2 ⟨A2, n2, c2, cs2, rfl, l2, o2, t2, x2⟩; have X2 := hide (X1.out.trans x2); have T2 := hide (tabs_lat l2 o2 t2); have Q2 := hide (Q1.out.ext x2); clear l2 o2 t2 x2)
    | ((with_reducible refine (HA1.out ⟨A1, n1, c1, B1, m1, d1⟩ _ _ _ _ Q2.out T2.out).mono ?_); rintro e w3 ⟨A3, c3, rfl, r3, x3⟩; have X3 := hide (X2.out.trans x3); have R3 := hide r3; clear r3 x3
       have b0 : w3.cell? ⟨w.heap.size + 1, 0, none⟩ = some (.string p.name) := (HB1.out.ext X3.out).cell 0
       have b1 : w3.cell? ⟨w.heap.size + 1, 1, none⟩ = some (.slice A' n' cA') := (HB1.out.ext X3.out).cell 1
       have b2 : w3.cell? ⟨w.heap.size + 1, 2, none⟩ = some (.slice AB' k' d') := (HB1.out.ext X3.out).cell 2)
    | ((with_reducible refine (HCP'.out _ (HE.out.trans X3.out)).mono ?_); rintro e w4 ⟨A4, n4, c4, B4, m4, d4, rfl, q4, x4⟩; have X4 := hide (X3.out.trans x4); have Q4 := hide q4; have R4 := hide (R3.out.ext RRow.stab x4); clear q4 x4 b0 b1 b2)
    | ((with_reducible refine (HCT.out _ (HE.out.trans X4.out)).mono ?_); rintro e w7 ⟨A7, n7, c7, cs7, rfl, l7, o7, t7, x7⟩; have X7 := hide (X4.out.trans x7); have T7 := hide (tabs_lat l7 o7 t7); have Q7 := hide (Q4.out.ext x7); have R7 := hide (R4.out.ext RRow.stab x7); clear l7 o7 t7 x7)
    | ((with_reducible refine (HA2.out ⟨A4, n4, c4, B4, m4, d4⟩ _ _ _ _ Q7.out T7.out).mono ?_); rintro e w8 ⟨A8, c8, rfl, r8, x8⟩; have X8 := hide (HE.out.trans (X7.out.trans x8)); have R8 := hide r8; have S8 := hide (R7.out.ext RRow.stab x8); clear r8 x8)
    | ((with_reducible refine (awake_any _).mono ?_); rintro e w9 ⟨rfl, x9⟩; have X9 := hide (X8.out.trans x9); clear x9))
  rotate_left 1
  · go_ret
    exact ⟨rfl, X9.out⟩
  · go_ret
    exact ⟨rfl, X9.out⟩
  go_loopw [13, 15, 60] (fun s11 _ s42 w' => ∃ i j : Nat, i ≤ a.length ∧ j ≤ i ∧ s42 = .int .i64 i ∧ s11 = .int .i64 j ∧ Hid (j = grd b (a.take i) 0) ∧ Hid (Ext w8 w')) (fun _ _ s42 _ => a.length - (intOf s42).toNat)
  case atStart => exact ⟨0, 0, by omega, by omega, rfl, rfl, rfl, Ext.refl _⟩
  case round =>
    obtain ⟨i, j, hin, hji, rfl, rfl, hj, hX⟩ := hrel
    have hb1 := HLE.out.1
    have hb2 := HLE.out.2
    by_cases h : i < a.length
    · obtain ⟨bk, off, x, A5, n5, c5, hBB, hx, hbk, d0, hR5⟩ := (S8.out.ext RRow.stab hX.out).row_ h
      subst hBB
      have HX := hide hx
      have HT := hide (take_next a i x hx)
      by_cases hja : j < b.length
      · obtain ⟨bk', off', y, A6, n6, c6, hBB, hy, hbk', f0, hR6⟩ := (R8.out.ext RRow.stab hX.out).row_ hja
        subst hBB
        have HS := hide (fun w9 (hw9 : Ext wr w9) => same_any x y A5 A6 n5 n6 c5 c6 w9 (hR5.ext hw9) (hR6.ext hw9) (by have := HRW.out x (List.mem_of_getElem? hx); have := hR5.len; omega))
        have HY := hide hy
        have HN : Hid (grd b (a.take (i + 1)) 0 = if sameR x y then j + 1 else j) := hide (by rw [HT.out, grd_snoc, ← hj.out, HY.out, sameR_comm x y])
        generalize sameR x y = sb at *
        clear hx hbk hR5 hy hbk' hR6
        cases sb
        · go_wp2_with ((with_reducible refine (HS.out _ (Ext.refl _)).mono ?_); rintro e w9 ⟨rfl, x9⟩; have X9 := hide (hX.out.trans x9); clear x9)
          go_roundw
          case rel => exact ⟨i + 1, j, by omega, by omega, by go_num, rfl, by rw [HN.out]; rfl, X9.out⟩
          case measure => simp [intOf]; omega
        · go_wp2_with ((with_reducible refine (HS.out _ (Ext.refl _)).mono ?_); rintro e w9 ⟨rfl, x9⟩; have X9 := hide (hX.out.trans x9); clear x9)
          go_roundw
          case rel => exact ⟨i + 1, j + 1, by omega, by omega, by go_num, by go_num, by rw [HN.out]; rfl, X9.out⟩
          case measure => simp [intOf]; omega
      · have HN : Hid (grd b (a.take (i + 1)) 0 = j) := hide (by rw [HT.out, grd_snoc, ← hj.out, List.getElem?_eq_none_iff.2 (by omega)]; rfl)
        clear hx hbk hR5
        go_wp2_with fail
        go_roundw
        case rel => exact ⟨i + 1, j, by omega, by omega, by go_num, rfl, HN.out.symm, hX.out⟩
        case measure => simp [intOf]; omega
    · obtain rfl : i = a.length := by omega
      have hja : j = b.length := by
        have h5 := hj.out
        rw [List.take_length] at h5
        exact h5.trans (HLW.out trivial trivial trivial)
      subst hja
      go_wp2_with ((with_reducible refine (awake_any _).mono ?_); rintro e w9 ⟨rfl, x9⟩; have X9 := hide (hX.out.trans x9); clear x9)
      go_ret
      exact ⟨rfl, X8.out.trans X9.out⟩
end Go.Proofs.Ytpfjkjmimmklcaa
