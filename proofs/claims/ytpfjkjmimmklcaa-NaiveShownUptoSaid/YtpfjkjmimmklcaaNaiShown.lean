/-
  NaiveShown: the walk.
-/
import Derived.Test.YtpfjkjmimmklcaaNaiShownM
import Derived.Test.YtpfjkjmimmklcaaNaiWit
import Derived.Test.YtpfjkjmimmklcaaNaiA
import Derived.Test.YtpfjkjmimmklcaaCloseA
namespace Go.Proofs.Ytpfjkjmimmklcaa
open Go.RowKit

set_option maxHeartbeats 8000000 in
set_option maxRecDepth 100000 in
theorem law_shown (q : Qy) (L : QLoc) (data : List Tbl) (B : Option Addr) (m c : Nat) (w : World) (hq : QAt w L q) (hM : smallM 1048576 q)
    (hb : LAt RB 2 w B m data) (hd : ∀ t ∈ data, smallTb 1048576 t) (hm : m ≤ 1048576) :
    Calls Try.prog 9 #[qval q.name L, .slice B m c] w fun e w' => e = .returned (.bool true) ∧ Ext w w' := by
  obtain rfl : m = data.length := hb.len
  have hs1 : (data.flatMap Tbl.rows).length ≤ 1099511627776 := Nat.le_trans (sum_rows data hd) (by have : data.length * 1048576 ≤ 1048576 * 1048576 := Nat.mul_le_mul_right _ (by omega); omega)
  have hdr : ∀ t ∈ data, ∀ r ∈ t.rows, r.length ≤ 1048576 := fun t ht r hr => ((hd t ht).2.2 r hr).1
  have HCP := hide (fun w1 (h1 : Ext w w1) => copy_qt q L w1 (hq.ext h1) hM)
  have HCT := hide (fun w1 (h1 : Ext w w1) => copy_tabs data B data.length c w1 (hb.ext RB.stab h1) (by omega) (fun t ht => ⟨Nat.le_trans (hd t ht).2.1 (by omega), fun r hr => Nat.le_trans ((hd t ht).2.2 r hr).1 (by omega)⟩))
  have HCI := hide (fun w1 (h1 : Ext w w1) => copy_tabsIs (c := c) (hb.ext RB.stab h1) (by omega) (fun t ht => ⟨Nat.le_trans (hd t ht).2.1 (by omega), fun r hr => Nat.le_trans ((hd t ht).2.2 r hr).1 (by omega)⟩))
  have HCQ := hide (fun w1 (h1 : Ext w w1) => copy_qis (hq.ext h1) hM)
  have HA1 := hide (fun L1 A1 n1 c1 w1 (h1 : QAt w1 L1 q) (h2 : LAt RB 2 w1 A1 n1 data) => answers_lat q L1 data A1 n1 c1 1073741824 w1 h1 hM h2 (by have := h2.len; omega) hs1 hdr)
  have HRO := hide (fun rel w1 (h1 : Ext w w1) => ref_rowsOf data rel B data.length c w1 (hb.ext RB.stab h1) hm hs1)
  have HE := hide (Ext.alloc w (.cells #[.string q.name, .slice L.A L.n L.c, .slice L.B L.m L.d] 25))
  have HB0 := hide (Blk.new w 25 #[.string q.name, .slice L.A L.n L.c, .slice L.B L.m L.d])
  have HQ := hide hq; have HM := hide hM
  have HDR := hide hdr; have HS1 := hide hs1
  have HML := hide (show data.length ≤ 1048576 from hm)
  have HLM := hide (show L.m = q.atoms.length ∧ q.atoms.length ≤ 1048576 from ⟨hq.atoms.len, hM.atomsL⟩)
  have hle1 := answersP_len q data 1073741824
  generalize hW2 : w.alloc (.cells #[.string q.name, .slice L.A L.n L.c, .slice L.B L.m L.d] 25) = W2 at *
  have HW2 := hide hW2; clear hW2 hq hM hb hd hm hs1 hdr
  obtain ⟨A, n, cA, AB, kk, dd⟩ := L
  simp only [qval] at *
  obtain rfl : kk = q.atoms.length := HLM.out.1
  have a0 : W2.cell? ⟨w.heap.size, 0, none⟩ = some (.string q.name) := HB0.out.cell 0
  have a1 : W2.cell? ⟨w.heap.size, 1, none⟩ = some (.slice A n cA) := HB0.out.cell 1
  have a2 : W2.cell? ⟨w.heap.size, 2, none⟩ = some (.slice AB q.atoms.length dd) := HB0.out.cell 2
  generalize hra : answersP q data 1073741824 = ra at *
  have HRA := hide hra; clear hra
  obtain ⟨a, ea⟩ := ra
  go_enter Try.func9, Try.ntmps9
  go_upto_region 2 with (first
    | (rw [HW2.out]; (with_reducible refine (HCP.out _ HE.out).mono ?_); rintro e w1 ⟨A1, n1, c1, B1, m1, d1, rfl, q1, x1⟩; have X1 := hide x1; have Q1 := hide q1; clear q1 x1 a0 a1 a2)
    | ((with_reducible refine (HCT.out _ (HE.out.trans X1.out)).mono ?_); rintro e w2 ⟨A2, n2, c2, cs2, rfl, l2, o2, t2, x2⟩; have X2 := hide (X1.out.trans x2); have T2 := hide (tabs_lat l2 o2 t2); have Q2 := hide (Q1.out.ext x2); clear l2 o2 t2 x2)
    | ((with_reducible refine (HA1.out ⟨A1, n1, c1, B1, m1, d1⟩ _ _ _ _ Q2.out T2.out).mono ?_); rintro e w3 ⟨A3, c3, rfl, r3, x3⟩; have X3 := hide (X2.out.trans x3); have R3 := hide r3; clear r3 x3))
  have XW := hide (HE.out.trans X3.out)
  have HB3 := hide (HB0.out.ext X3.out)
  by_cases hea : ea = 0
  · subst hea
    have hok := HRA.out
    obtain ⟨hok1, hsh⟩ := answersP_ok (q := q) (data := data) (most := 1073741824) (by rw [hok])
    have hcs := answersP_cost (q := q) (data := data) (most := 1073741824) (by rw [hok])
    rw [hok] at hok1
    dsimp only at hok1
    have h6 := hsh.six
    have hnd := varsQ_nodup q
    have hvl := vars_sixty hsh
    have HVS := hide (fun w1 (h1 : Ext w w1) => ref_vars q _ w1 (HQ.out.ext h1) HM.out (by show q.atoms.length ≤ 512; omega))
    simp only [qval] at HVS
    have HSH := hide hsh; have HCS := hide hcs; have HOK := hide hok1; have HND := hide hnd
    have HSQ := hide (shapeQ_iff.2 hsh)
    have HRD := hide (fun (vals : List V) (A9 : Option Addr) (c9 : Nat) w1 (h1 : Ext w w1) (h2 : RowAt w1 A9 (varsQ q).length vals) => ref_head q _ vals A9 (varsQ q).length c9 w1 (HQ.out.ext h1) HM.out hsh h2 rfl)
    simp only [qval] at HRD
    have HAV := hide (fun (j : Nat) (x : Atm) (hx : q.atoms[j]? = some x) => at_vars hx)
    clear hok hok1 hsh hcs hnd
    have a0 : w3.cell? ⟨w.heap.size, 0, none⟩ = some (.string q.name) := HB3.out.cell 0
    have a1 : w3.cell? ⟨w.heap.size, 1, none⟩ = some (.slice A n cA) := HB3.out.cell 1
    have a2 : w3.cell? ⟨w.heap.size, 2, none⟩ = some (.slice AB q.atoms.length dd) := HB3.out.cell 2
    go_wp2_with ((with_reducible refine (HVS.out _ XW.out).mono ?_); rintro e w4 ⟨A4, c4, rfl, o4, x4⟩; have X4 := hide (XW.out.trans x4); have V4 := hide o4.lat; have R4 := hide (R3.out.ext RRow.stab x4); have HB4 := hide (HB3.out.ext x4); clear o4 x4 a0 a1 a2)
    have hle2 : a.length ≤ 1073741824 := by have h9 := hle1; first | omega | (simp only at h9; omega)
    clear hle1
    go_loopw [8] (fun s8 w' => ∃ i : Nat, i ≤ a.length ∧ s8 = .int .i64 i ∧ Hid (Ext w4 w')) (fun s8 _ => a.length - (intOf s8).toNat)
    case atStart => exact ⟨0, by omega, rfl, Ext.refl _⟩
    case round =>
      obtain ⟨i, hia, rfl, hX⟩ := hrel
      by_cases h : i < a.length
      · by_cases h40 : i < 40
        · have h40' : (i : Int) < 40 := by omega
          have XR := hide (X4.out.trans hX.out)
          obtain ⟨ab, ao, x, Ax, nx, cx, rfl, hx, hb1, d0, hRx⟩ := (R4.out.ext RRow.stab hX.out).row_ h
          obtain rfl : nx = x.length := hRx.len
          obtain ⟨rows, σ, hw, hrl, hhd, hall⟩ := wit_shown HSQ.out HCS.out (show x ∈ ansP q data by rw [← HOK.out]; exact List.mem_of_getElem? hx)
          have hxl : x.length ≤ 1048576 := by
            have h1 := answersP_row (q := q) (data := data) (most := 1073741824) (x := x) (by rw [HRA.out]; exact List.mem_of_getElem? hx)
            have := HM.out.headL
            omega
          have HWT := hide (fun L1 A1 n1 c1 w1 (h1 : QAt w1 L1 q) (h2 : LAt RB 2 w1 A1 n1 data) (h3 : Ext wr w1) => (show Calls _ _ _ _ _ from by
            have h9 := witness_any q L1 data A1 n1 c1 x Ax x.length cx w1 h1 HM.out h2 (by have := h2.len; have := HML.out; omega) HS1.out HDR.out (hRx.ext h3) hxl
            rw [hw] at h9
            exact h9))
          have HRX := hide hRx; have HHD := hide hhd; have HALL := hide hall; have HRL := hide hrl
          have hDd := hide d0
          have HB5 := hide (HB4.out.ext hX.out)
          have a0 := cell_ext (show wr.cell? ⟨w.heap.size, 0, none⟩ = some (.string q.name) from HB5.out.cell 0)
          have a1 := cell_ext (show wr.cell? ⟨w.heap.size, 1, none⟩ = some (.slice A n cA) from HB5.out.cell 1)
          have a2 := cell_ext (show wr.cell? ⟨w.heap.size, 2, none⟩ = some (.slice AB q.atoms.length dd) from HB5.out.cell 2)
          have d0 := cell_ext d0
          clear hx hb1 hRx hw hrl hhd hall
          go_upto_region 8 with fail
          refine wp_region_ext 16 (by kernel_rfl) (by kernel_rfl) (by kernel_rfl) ?_
          iterate 1
            refine wpE_k (by kernel_rfl) (by kernel_rfl) ?_
            apply Exists.intro
            refine ⟨fun w1 hw1 => ?_, fun K hK => ?_⟩
            · go_simp; first | done | rfl
            go_simp; refine hK _ _ ?_; clear hK K
          refine wpE_p [] (QIs q) (fun u w1 w2 _ h2 h => QIs.ext h2 h) rfl (by kernel_rfl) (fun w1 hw1 => ?_) ?_
          · simp only [LookQ]
            clear a0 a1 a2 d0
            go_simp
            exact ⟨Ext.refl _, HCQ.out w1 (XR.out.trans hw1)⟩
          iterate 1
            refine wpE_k (by kernel_rfl) (by kernel_rfl) ?_
            apply Exists.intro
            refine ⟨fun w1 hw1 => ?_, fun K hK => ?_⟩
            · go_simp; first | done | rfl
            go_simp; refine hK _ _ ?_; clear hK K
          refine wpE_p [] (TabsIs data) (fun u w1 w2 _ h2 h => TabsIs.ext h h2) rfl (by kernel_rfl) (fun w1 hw1 => ?_) ?_
          · simp only [LookQ]
            clear a0 a1 a2 d0
            go_simp
            exact ⟨Ext.refl _, HCI.out w1 (XR.out.trans hw1)⟩
          iterate 4
            refine wpE_k (by kernel_rfl) (by kernel_rfl) ?_
            apply Exists.intro
            refine ⟨fun w1 hw1 => ?_, fun K hK => ?_⟩
            · go_simp; first | done | rfl
            go_simp; refine hK _ _ ?_; clear hK K
          refine wpE_p [51, 53] (WtIs rows) (fun u w1 w2 _ h2 h => WtIs.ext h h2) rfl (by kernel_rfl) (fun w1 hw1 => ?_) ?_
          · simp only [LookQ]
            intro u hu v hv
            obtain ⟨⟨A5, n5, c5, B5, m5, d5⟩, rfl, h5⟩ := hu _ rfl
            obtain ⟨A6, c6, rfl, h6⟩ := hv _ rfl
            clear hu hv a0 a1 a2 d0
            simp only [qval]
            go_simp
            refine ⟨Ext.refl _, (HWT.out ⟨A5, n5, c5, B5, m5, d5⟩ A6 _ c6 w1 h5 h6 hw1).mono ?_⟩
            rintro e w9 ⟨A9, c9, rfl, l9, x9⟩
            exact ⟨_, rfl, x9, A9, c9, rfl, l9⟩
          refine wpE_p [58] (WtIs rows) (fun u w1 w2 _ h2 h => WtIs.ext h h2) rfl (by kernel_rfl) (fun w1 hw1 => ?_) ?_
          · simp only [LookQ]
            rintro _ hu
            obtain ⟨A7, c7, rfl, h7⟩ := hu _ rfl
            clear hu a0 a1 a2 d0
            go_simp
            exact ⟨Ext.refl _, A7, c7, rfl, h7⟩
          refine wpE_p [49] (RowsIs rows) (fun u w1 w2 _ h2 h => RowsIs.ext h h2) rfl (by kernel_rfl) (fun w1 hw1 => ?_) ?_
          · simp only [LookQ]
            rintro _ hu
            obtain ⟨A7, c7, rfl, h7⟩ := hu _ rfl
            clear hu a0 a1 a2 d0
            go_simp
            exact ⟨Ext.refl _, A7, c7, rfl, h7⟩
          refine wpE_kp [49] (.bool true) (by kernel_rfl) (by kernel_rfl) (fun w1 hw1 => ?_) (fun K hK => ?_)
          · simp only [LookQ]
            rintro _ hu
            obtain ⟨A7, c7, rfl, h7⟩ := hu _ rfl
            clear hu a0 a1 a2 d0
            go_simp
            exact Ext.refl _
          go_simp; refine hK _ _ ?_; clear hK K
          refine wpE_kp [49] (.int .i64 0) (by kernel_rfl) (by kernel_rfl) (fun w1 hw1 => ?_) (fun K hK => ?_)
          · simp only [LookQ]
            rintro _ hu
            obtain ⟨A7, c7, rfl, h7⟩ := hu _ rfl
            clear hu a0 a1 a2 d0
            go_simp
            exact Ext.refl _
          go_simp; refine hK _ _ ?_; clear hK K
          refine wpE_p [59] (RowsIs rows) (fun u w1 w2 _ h2 h => RowsIs.ext h h2) rfl (by kernel_rfl) (fun w1 hw1 => ?_) ?_
          · simp only [LookQ]
            rintro _ hu
            obtain ⟨A7, c7, rfl, h7⟩ := hu _ rfl
            clear hu a0 a1 a2 d0
            go_simp
            exact ⟨Ext.refl _, A7, c7, rfl, h7⟩
          iterate 2
            refine wpE_k (by kernel_rfl) (by kernel_rfl) ?_
            apply Exists.intro
            refine ⟨fun w1 hw1 => ?_, fun K hK => ?_⟩
            · go_simp; first | done | rfl
            go_simp; refine hK _ _ ?_; clear hK K
          refine wpE_nil ⟨rfl, by kernel_rfl, fun w5 hw1 => ?_⟩
          simp only [EndQ, List.drop]
          rintro _ ⟨A5, c5, rfl, l5⟩ _ _ _ _ _ _ _ _ _ _
          refine wpList_nil ?_
          clear a0 a1 a2 d0
          have X5 := hide (XR.out.trans hw1); have XI5 := hide (hX.out.trans hw1); have L5 := hide l5; have HB6 := hide (HB5.out.ext hw1)
          have HD5 := hide (hw1.cell hDd.out)
          have HRX5 := hide (HRX.out.ext hw1)
          have V5 := hide (V4.out.ext RS.stab XI5.out)
          clear l5 hw1 HWT
          have a2 : w5.cell? ⟨w.heap.size, 2, none⟩ = some (.slice AB q.atoms.length dd) := HB6.out.cell 2
          rw [HRL.out] at L5
          simp only [HRL.out]
          have hnn : ((q.atoms.length : Int) != (q.atoms.length : Int)) = false := by simp
          go_upto_region 11 with fail
          clear a2
          have hvl2 : (varsQ q).length ≤ 16777216 := by omega
          obtain ⟨i0, hi0, hz0, hz1, hz2⟩ := info_parts infoV
          have hmk := run_make_n (P := Try.prog) 35 58 i0 _ Try.underlying35 hi0 hz0 (by omega) .i64 .i64 (varsQ q).length hvl2
          simp only [hz1] at hmk
          clear hz1 hz2 hz0 hi0
          obtain ⟨i1, hi1, hz3, hz4, hz5⟩ := info_parts infoBo
          have hmf := run_make_n (P := Try.prog) 73 4 i1 _ Try.underlying73 hi1 hz3 (by omega) .i64 .i64 (varsQ q).length hvl2
          simp only [hz4, Value.cells, Nat.mul_one] at hmf
          clear hz4 hz5 hz3 hi1
          refine wp_region_ext 8 (by kernel_rfl) (by kernel_rfl) (by kernel_rfl) ?_
          iterate 2
            refine wpE_k (by kernel_rfl) (by kernel_rfl) ?_
            apply Exists.intro
            refine ⟨fun w1 hw1 => ?_, fun K hK => ?_⟩
            · go_simp; first | done | rfl
            go_simp; refine hK _ _ ?_; clear hK K
          refine wpE_p [] (MkV w5.heap.size (varsQ q).length) (fun u w1 w2 _ h2 h => MkV.ext h h2) rfl (by kernel_rfl) (fun w1 hw1 => ?_) ?_
          · simp only [LookQ]
            go_simp
            exact ⟨Ext.alloc _ _, _, rfl, hw1.size, Blk.new _ _ _⟩
          iterate 2
            refine wpE_k (by kernel_rfl) (by kernel_rfl) ?_
            apply Exists.intro
            refine ⟨fun w1 hw1 => ?_, fun K hK => ?_⟩
            · go_simp; first | done | rfl
            go_simp; refine hK _ _ ?_; clear hK K
          refine wpE_p [] (MkF w5.heap.size (varsQ q).length) (fun u w1 w2 _ h2 h => MkF.ext h h2) rfl (by kernel_rfl) (fun w1 hw1 => ?_) ?_
          · simp only [LookQ]
            go_simp
            exact ⟨Ext.alloc _ _, _, rfl, hw1.size, Blk.new _ _ _⟩
          refine wpE_p [78] (MkV w5.heap.size (varsQ q).length) (fun u w1 w2 _ h2 h => MkV.ext h h2) rfl (by kernel_rfl) (fun w1 hw1 => ?_) ?_
          · simp only [LookQ]
            rintro _ hu
            obtain ⟨g7, rfl, h7, h8⟩ := hu _ rfl
            clear hu
            go_simp
            exact ⟨Ext.refl _, g7, rfl, h7, h8⟩
          refine wpE_p [81] (MkF w5.heap.size (varsQ q).length) (fun u w1 w2 _ h2 h => MkF.ext h h2) rfl (by kernel_rfl) (fun w1 hw1 => ?_) ?_
          · simp only [LookQ]
            rintro _ hu
            obtain ⟨g7, rfl, h7, h8⟩ := hu _ rfl
            clear hu
            go_simp
            exact ⟨Ext.refl _, g7, rfl, h7, h8⟩
          refine wpE_nil ⟨rfl, by kernel_rfl, fun w6 hw1 => ?_⟩
          simp only [EndQ, List.drop]
          rintro _ ⟨gb, rfl, hgb1, hgb2⟩ _ ⟨gv, rfl, hgv1, hgv2⟩ _ _ _ _
          refine wpList_nil ?_
          clear hmk hmf
          rw [zeroR_made] at hgv2
          rw [flags_made] at hgb2
          have OV := hide (show w6.ownsRow w5.heap.size 58 3 (.slice (some ⟨gv, 0, none⟩) (varsQ q).length (varsQ q).length) (varsQ q).length (cellsR (shV (varsQ q) σ (seenA q.atoms 0))) from by
            rw [show seenA q.atoms 0 = [] by simp [seenA], shV_nil]
            exact Fil.own (n := (varsQ q).length) (vals := List.replicate (varsQ q).length zeroV) ⟨_, hgv2, by simp [cellsR_len], List.take_of_length_le (by simp [cellsR_len])⟩ (by simp) hgv1 (by omega))
          have OF := hide (show Blk w6 gb 4 (shF (varsQ q) (seenA q.atoms 0)).toArray from by
            rw [show seenA q.atoms 0 = [] by simp [seenA], shF_nil]
            have e : flagsF (varsQ q).length (fun _ => false) = List.replicate (varsQ q).length (.bool false) := by
              unfold flagsF
              rw [List.map_const', List.length_range]
            rw [← e]; exact hgb2)
          have HGB := hide hgb1; have HGV := hide hgv1
          have X6 := hide hw1
          have HB7 := hide (HB6.out.ext hw1)
          clear hgb1 hgb2 hgv1 hgv2 hw1
          have a2 : w6.cell? ⟨w.heap.size, 2, none⟩ = some (.slice AB q.atoms.length dd) := HB7.out.cell 2
          go_wp2_with fail
          clear a2
          go_loopw [85] (fun s85 w' => ∃ j : Nat, j ≤ q.atoms.length ∧ s85 = .int .i64 j ∧ Hid (w'.ownsRow w5.heap.size 58 3 (.slice (some ⟨gv, 0, none⟩) (varsQ q).length (varsQ q).length) (varsQ q).length (cellsR (shV (varsQ q) σ (seenA q.atoms j)))) ∧ Hid (Blk w' gb 4 (shF (varsQ q) (seenA q.atoms j)).toArray) ∧ Hid (Ext w5 w')) (fun s85 _ => q.atoms.length - (intOf s85).toNat)
          case atStart => exact ⟨0, by omega, rfl, OV.out, OF.out, X6.out⟩
          case round =>
            obtain ⟨j, hjn, rfl, hov, hof, hX2⟩ := hrel
            by_cases hj : j < q.atoms.length
            · obtain ⟨b2, o2, a9, B9, m9, d9, hAB, hxa, hb2, e0, e1, hT⟩ := (HQ.out.ext (X5.out.trans hX2.out)).atoms.at_ (i := j) hj
              dsimp only at hAB
              subst hAB
              have hm9 : m9 ≤ 1048576 := by
                have h1 := (HM.out.atoms a9 (List.mem_of_getElem? hxa)).len
                have h2 := hT.len
                omega
              have HXA := hide hxa; have HT9 := hide hT
              clear hxa hT hb2
              go_upto_region 15 with fail
              have e5 := Blk.new wr 40 #[.string a9.rel, .slice B9 m9 d9]
              have x5 := Ext.alloc wr (.cells #[.string a9.rel, .slice B9 m9 d9] 40)
              obtain ⟨r9, hr9⟩ : ∃ r9, rows[j]? = some r9 := ⟨_, List.getElem?_eq_getElem (by have := HRL.out; omega)⟩
              obtain ⟨hma, hmr⟩ := HALL.out j a9 r9 HXA.out hr9
              obtain ⟨out, hout⟩ : ∃ out, out = (varsA a9).map σ := ⟨_, rfl⟩
              rw [← hout] at hma
              have HOL := hide (show out.length = (varsA a9).length by rw [hout, List.length_map])
              have HOG := hide (show ∀ (k : Nat) (v : ByteArray), (varsA a9)[k]? = some v → out[k]? = some (σ v) from fun k v hk => by rw [hout, List.getElem?_map, hk]; rfl)
              clear hout
              obtain ⟨rb, ro, r8, A8, n8, c8, hA5, hx8, hrb, d8, hR8⟩ := (L5.out.ext RRow.stab (hX2.out.trans x5)).row_ hj
              rw [hr9] at hx8
              injection hx8 with hx8
              subst hx8
              subst hA5
              have hr9m : r9.length ≤ 1048576 := by
                obtain ⟨t, ht, _, h5⟩ := rowsOfP_mem hmr
                exact HDR.out t ht r9 h5
              have hn8 : n8 ≤ 1048576 := by have := hR8.len; omega
              have HMT := hide (fun w1 (h1 : Ext (wr.alloc (.cells #[.string a9.rel, .slice B9 m9 d9] 40)) w1) => (show Calls _ _ _ _ _ from by
                have h9 := ref_match a9 r9 B9 m9 d9 A8 n8 c8 w1 (HT9.out.ext RT.stab (x5.trans h1)) hm9 (hR8.ext h1) hn8
                rw [hma] at h9
                exact h9))
              have HHS := hide (fun (A7 : Option Addr) (c7 : Nat) w1 (h1 : Ext (wr.alloc (.cells #[.string a9.rel, .slice B9 m9 d9] 40)) w1) (h2 : LAt RRow 1 w1 A7 (rowsOfP data a9.rel).length (rowsOfP data a9.rel)) => (show Calls _ _ _ _ _ from by
                have h9 := has_any (rowsOfP data a9.rel) r9 A7 A8 _ n8 c7 c8 w1 h2 (hR8.ext h1) (by have := rowsOfP_len' data a9.rel; have := HS1.out; omega) (fun s hs => by
                  obtain ⟨t, ht, _, h5⟩ := rowsOfP_mem hs
                  have := HDR.out t ht s h5
                  omega)
                rw [hasR_iff.2 hmr] at h9
                exact h9))
              have HA5 := hide e5; have XA5 := hide (hX2.out.trans x5); have XA1 := hide x5
              have HRO9 := hide (fun w1 (h1 : Ext (wr.alloc (.cells #[.string a9.rel, .slice B9 m9 d9] 40)) w1) => HRO.out a9.rel w1 (X5.out.trans (hX2.out.trans (x5.trans h1))))
              have HOV2 := hide (mine_ext hov.out x5); have HOF2 := hide (hof.out.ext x5)
              generalize hg7 : wr.heap.size = g7 at *
              have HG7 := hide hg7; clear hg7
              generalize wr.alloc (.cells #[.string a9.rel, .slice B9 m9 d9] 40) = w7 at *
              have e0 := cell_ext (show w7.cell? ⟨g7, 0, none⟩ = some (.string a9.rel) from HA5.out.cell 0)
              have e1 := cell_ext (show w7.cell? ⟨g7, 1, none⟩ = some (.slice B9 m9 d9) from HA5.out.cell 1)
              have HD8 := hide d8
              have d8 := cell_ext d8
              have HVL := hide (HAV.out j a9 HXA.out)
              clear e5 x5 hr9 hma hmr hrb hR8 hr9m
              refine wp_region_ext 11 (by kernel_rfl) (by kernel_rfl) (by kernel_rfl) ?_
              iterate 5
                refine wpE_k (by kernel_rfl) (by kernel_rfl) ?_
                apply Exists.intro
                refine ⟨fun w1 hw1 => ?_, fun K hK => ?_⟩
                · go_simp; first | done | rfl
                go_simp; refine hK _ _ ?_; clear hK K
              refine wpE_p [] (MtB w7.heap.size out) (fun u w1 w2 _ h2 h => MtB.ext h h2) rfl (by kernel_rfl) (fun w1 hw1 => ?_) ?_
              · simp only [LookQ]
                clear e0 e1 d8
                go_simp
                exact ⟨Ext.refl _, (HMT.out w1 hw1).mono fun e w9 ⟨g, h1, h4, h2, h3⟩ => ⟨_, h1, h3, g, rfl, Nat.le_trans hw1.size h4, h2⟩⟩
              refine wpE_p [96] (MtB w7.heap.size out) (fun u w1 w2 _ h2 h => MtB.ext h h2) rfl (by kernel_rfl) (fun w1 hw1 => ?_) ?_
              · simp only [LookQ]
                rintro _ hu
                obtain ⟨g, rfl, h6, h7⟩ := hu _ rfl
                clear hu e0 e1 d8
                go_simp
                exact ⟨Ext.refl _, g, rfl, h6, h7⟩
              refine wpE_p [90] (MvB w7.heap.size out) (fun u w1 w2 _ h2 h => MvB.ext h h2) rfl (by kernel_rfl) (fun w1 hw1 => ?_) ?_
              · simp only [LookQ]
                rintro _ hu
                obtain ⟨g, rfl, h6, h7⟩ := hu _ rfl
                clear hu e0 e1 d8
                go_simp
                exact ⟨Ext.refl _, g, rfl, h6, h7⟩
              refine wpE_kp [90] (.bool true) (by kernel_rfl) (by kernel_rfl) (fun w1 hw1 => ?_) (fun K hK => ?_)
              · simp only [LookQ]
                rintro _ hu
                obtain ⟨g, rfl, h6, h7⟩ := hu _ rfl
                clear hu e0 e1 d8
                go_simp
                exact Ext.refl _
              go_simp; refine hK _ _ ?_; clear hK K
              refine wpE_p [97] (MvB w7.heap.size out) (fun u w1 w2 _ h2 h => MvB.ext h h2) rfl (by kernel_rfl) (fun w1 hw1 => ?_) ?_
              · simp only [LookQ]
                rintro _ hu
                obtain ⟨g, rfl, h6, h7⟩ := hu _ rfl
                clear hu e0 e1 d8
                go_simp
                exact ⟨Ext.refl _, g, rfl, h6, h7⟩
              iterate 1
                refine wpE_k (by kernel_rfl) (by kernel_rfl) ?_
                apply Exists.intro
                refine ⟨fun w1 hw1 => ?_, fun K hK => ?_⟩
                · go_simp; first | done | rfl
                go_simp; refine hK _ _ ?_; clear hK K
              refine wpE_nil ⟨rfl, by kernel_rfl, fun w8 hw1 => ?_⟩
              simp only [EndQ, List.drop]
              rintro _ ⟨gm, rfl, hgm0, hgm⟩ _ _ _ _ _ _
              refine wpList_nil ?_
              clear e0 e1 d8
              have HGM := hide hgm; have HGM0 := hide (show gv ≠ gm from fun e => by have := (HOV2.out.lt gv rfl).2; omega)
              have hov := hide (mine_ext HOV2.out hw1)
              have hof := hide (HOF2.out.ext hw1)
              have X8 := hide hw1
              have e0 := cell_ext (show w8.cell? ⟨g7, 0, none⟩ = some (.string a9.rel) from (HA5.out.ext hw1).cell 0)
              have d8 := cell_ext (hw1.cell HD8.out)
              clear hgm hgm0 hw1 HOV2 HOF2
              go_upto_region 16 with fail
              refine wp_region_ext 14 (by kernel_rfl) (by kernel_rfl) (by kernel_rfl) ?_
              iterate 6
                refine wpE_k (by kernel_rfl) (by kernel_rfl) ?_
                apply Exists.intro
                refine ⟨fun w1 hw1 => ?_, fun K hK => ?_⟩
                · go_simp; first | done | rfl
                go_simp; refine hK _ _ ?_; clear hK K
              refine wpE_p [] (RowsIs (rowsOfP data a9.rel)) (fun u w1 w2 _ h2 h => RowsIs.ext h h2) rfl (by kernel_rfl) (fun w1 hw1 => ?_) ?_
              · simp only [LookQ]
                clear e0 d8
                go_simp
                exact ⟨Ext.refl _, (HRO9.out w1 (X8.out.trans hw1)).mono fun e w9 ⟨A, c, cells, h1, h2, h3, h4⟩ => ⟨_, h1, h4, A, c, rfl, LAt.own rfl h3 h2⟩⟩
              iterate 4
                refine wpE_k (by kernel_rfl) (by kernel_rfl) ?_
                apply Exists.intro
                refine ⟨fun w1 hw1 => ?_, fun K hK => ?_⟩
                · go_simp; first | done | rfl
                go_simp; refine hK _ _ ?_; clear hK K
              refine wpE_kp [105] (.bool true) (by kernel_rfl) (by kernel_rfl) (fun w1 hw1 => ?_) (fun K hK => ?_)
              · simp only [LookQ]
                rintro _ hu
                obtain ⟨A7, c7, rfl, h7⟩ := hu _ rfl
                clear hu e0 d8
                go_simp
                exact ⟨Ext.refl _, (HHS.out A7 c7 w1 (X8.out.trans hw1) h7).mono fun e w9 ⟨h1, h2⟩ => ⟨h1, h2⟩⟩
              go_simp; refine hK _ _ ?_; clear hK K
              iterate 2
                refine wpE_k (by kernel_rfl) (by kernel_rfl) ?_
                apply Exists.intro
                refine ⟨fun w1 hw1 => ?_, fun K hK => ?_⟩
                · go_simp; first | done | rfl
                go_simp; refine hK _ _ ?_; clear hK K
              refine wpE_nil ⟨rfl, by kernel_rfl, fun w9 hw1 => ?_⟩
              simp only [EndQ, List.drop]
              intro _ _
              refine wpList_nil ?_
              have hov := hide (mine_ext hov.out hw1)
              have hof := hide (hof.out.ext hw1)
              have HGM := hide (HGM.out.ext hw1)
              have X9 := hide (X8.out.trans hw1)
              clear e0 d8 hw1 HRO9 HHS HMT
              have e0 : w9.cell? ⟨g7, 0, none⟩ = some (.string a9.rel) := (HA5.out.ext X9.out).cell 0
              have e1 : w9.cell? ⟨g7, 1, none⟩ = some (.slice B9 m9 d9) := (HA5.out.ext X9.out).cell 1
              have HVA := hide (show Calls _ _ _ _ _ from ref_atom_vars a9.rel a9.terms B9 m9 d9 w9 (HT9.out.ext RT.stab (XA1.out.trans X9.out)) (by omega))
              rw [show addTs [] a9.terms = varsA a9 from rfl] at HVA
              have hval : (varsA a9).length ≤ 1048576 := Nat.le_trans (varsA_len a9) (by have h1 := (HM.out.atoms a9 (List.mem_of_getElem? HXA.out)).len; exact h1)
              go_wp2_with ((with_reducible refine HVA.out.mono ?_); rintro e wa ⟨AV, cv, rfl, ov, xv⟩; have XV := hide xv; have OVA := hide ov; have hov := hide (mine_ext hov.out xv); have hof := hide (hof.out.ext xv); have HGM := hide (HGM.out.ext xv); clear ov xv e0 e1)
              have HAG7 := hide (show w5.heap.size ≤ g7 by rw [← HG7.out]; exact hX2.out.size)
              have XA9 := hide ((XA5.out.trans X9.out).trans XV.out)
              have HSE := hide (seenA_succ HXA.out)
              clear HRX5 HD5 HD8 hn8 hm9
              go_loopw [116] (fun s116 w' => ∃ k : Nat, k ≤ (varsA a9).length ∧ s116 = .int .i64 k ∧ Hid (w'.ownsRow w5.heap.size 58 3 (.slice (some ⟨gv, 0, none⟩) (varsQ q).length (varsQ q).length) (varsQ q).length (cellsR (shV (varsQ q) σ (seenA q.atoms j ++ (varsA a9).take k)))) ∧ Hid (Blk w' gb 4 (shF (varsQ q) (seenA q.atoms j ++ (varsA a9).take k)).toArray) ∧ Hid (Ext w5 w') ∧ Hid (Blk w' gm 58 (cellsR out).toArray) ∧ Hid (OwnS w9 w' AV (varsA a9).length cv (varsA a9))) (fun s116 _ => (varsA a9).length - (intOf s116).toNat)
              case atStart => exact ⟨0, by omega, rfl, by simpa [Hid] using hov.out, by simpa [Hid] using hof.out, XA9.out, HGM.out, OVA.out⟩
              case round =>
                clear hov hof HGM OVA
                obtain ⟨k, hk, rfl, hov, hof, hX3, HGM, OVA⟩ := hrel
                by_cases h3 : k < (varsA a9).length
                · obtain ⟨vb, vo, y, rfl, hy, hvb, f0⟩ := OVA.out.lat.str h3
                  obtain ⟨pp, hpp, hp2, hp3⟩ := HVL.out y (List.mem_of_getElem? hy)
                  have hpy : (varsQ q)[pp]? = some y := by
                    rw [← hp2]
                    refine atN_get ?_
                    rcases (mem_addTs _ _ _).1 (List.mem_of_getElem? hy) with h1 | ⟨t, h1, h2, h4⟩
                    · cases h1
                    · exact mem_vars.2 ⟨a9, List.mem_of_getElem? HXA.out, t, h1, h2, h4⟩
                  have hoy := HOG.out k y hy
                  have HY3 := hide (show (varsA a9).take (k + 1) = (varsA a9).take k ++ [y] by rw [List.take_add_one, hy]; rfl)
                  have HPV := hide (shV_put (σ := σ) (S := seenA q.atoms j ++ (varsA a9).take k) HND.out hpy)
                  have HPF := hide (shF_put (S := seenA q.atoms j ++ (varsA a9).take k) HND.out hpy)
                  have HAC := hide (ref_at (varsQ q) y A4 (varsQ q).length c4 wr (V5.out.ext RS.stab hX3.out) (by omega))
                  rw [hp3] at HAC
                  obtain ⟨g0, g1, g2⟩ := blkR_at HGM.out hoy
                  have hko : k < out.length := by rw [HOL.out]; exact h3
                  have hsv := shV_get (σ := σ) (S := seenA q.atoms j ++ (varsA a9).take k) hpy
                  have hsf := shF_get (S := seenA q.atoms j ++ (varsA a9).take k) hpy
                  obtain ⟨bv, hbv0, hbv, hput⟩ := own_blkX hov.out hsv
                  injection hbv0 with hbv0
                  injection hbv0 with hbv0
                  subst hbv0
                  have HPUT := hide hput
                  have f1 : wr.cell? ⟨gb, pp, none⟩ = some (.bool (memB (seenA q.atoms j ++ (varsA a9).take k) y)) := by rw [hof.out.cell, List.getElem?_toArray]; exact hsf
                  have HSS := hide (show seenA q.atoms j ++ (varsA a9).take (k + 1) = (seenA q.atoms j ++ (varsA a9).take k) ++ [y] by rw [HY3.out, List.append_assoc])
                  have HSV := hide hsv
                  generalize seenA q.atoms j ++ (varsA a9).take k = SS at *
                  generalize σ y = z at *
                  clear hy hpy hoy hsv hsf hput hp2 hp3 hvb
                  go_upto_region 22 with ((with_reducible refine HAC.out.mono ?_); rintro e wb ⟨rfl, rfl⟩)
                  have g0 := cell_ext g0
                  have g1 := cell_ext g1
                  have g2 := cell_ext g2
                  cases hmb : memB SS y with
                  | true =>
                    rw [hmb] at f1
                    have hput := HPUT.out wr (Ext.refl _)
                    rw [if_pos hmb] at hput
                    obtain ⟨⟨l0, l1, l2⟩, -, -⟩ := hput
                    have f1 := cell_ext f1
                    have l0 := cell_ext l0
                    have l1 := cell_ext l1
                    have l2 := cell_ext l2
                    refine wp_region_ext 15 (by kernel_rfl) (by kernel_rfl) (by kernel_rfl) ?_
                    iterate 13
                      refine wpE_k (by kernel_rfl) (by kernel_rfl) ?_
                      apply Exists.intro
                      refine ⟨fun w1 hw1 => ?_, fun K hK => ?_⟩
                      · go_simp; first | done | rfl
                      go_simp; refine hK _ _ ?_; clear hK K
                    refine wpE_k (by kernel_rfl) (by kernel_rfl) ?_
                    refine ⟨.bool false, fun w1 hw1 => ?_, fun K hK => ?_⟩
                    · clear g0 g1 g2 l0 l1 l2 f1
                      go_simp
                    go_simp; refine hK _ _ ?_; clear hK K
                    iterate 1
                      refine wpE_k (by kernel_rfl) (by kernel_rfl) ?_
                      apply Exists.intro
                      refine ⟨fun w1 hw1 => ?_, fun K hK => ?_⟩
                      · go_simp; first | done | rfl
                      go_simp; refine hK _ _ ?_; clear hK K
                    refine wpE_nil ⟨rfl, by kernel_rfl, fun wq hwq => ?_⟩
                    simp only [EndQ]
                    refine wpList_nil ?_
                    have g0 := g0 wq hwq
                    have g1 := g1 wq hwq
                    have g2 := g2 wq hwq
                    have f1q := f1 wq hwq
                    have hput := HPUT.out wq hwq
                    clear l0 l1 l2
                    have HOVq := hide (mine_ext hov.out hwq); have HOFq := hide (hof.out.ext hwq); have HGMq := hide (HGM.out.ext hwq); have HX3q := hide (hX3.out.trans hwq); have HOAq := hide (show OwnS w9 wq (some ⟨vb, vo, none⟩) (varsA a9).length cv (varsA a9) from ⟨OVA.out.1, mine_ext OVA.out.2 hwq⟩)
                    clear hwq f1
                    have k0 := HOFq.out.frozen pp
                    have k1 : wq.cell? ⟨gb, pp, none⟩ = some _ := f1q
                    obtain ⟨⟨l0, l1, l2⟩, hfr, -⟩ := hput
                    have q0 := hfr (pp * 3)
                    have q1 := hfr (pp * 3 + 1)
                    have q2 := hfr (pp * 3 + 2)
                    clear hfr
                    have hgbv : gb ≠ gv := fun e => own_ne_blk HOVq.out HOFq.out (by decide) (by rw [e]; rfl)
                    have hgvb : gv ≠ gb := Ne.symm hgbv
                    go_wp2_with fail
                    have hst := sh_step z HOVq.out HOFq.out HX3q.out HGMq.out HOAq.out HGB.out HGV.out HGM0.out HSV.out
                    rw [HPV.out, HPF.out, ← HSS.out] at hst
                    go_roundw
                    case rel => exact ⟨k + 1, by omega, by go_num, hst.1, hst.2.1, hst.2.2.1, hst.2.2.2.1, hst.2.2.2.2⟩
                    case measure => simp [intOf]; omega
                  | false =>
                    rw [hmb] at f1
                    have f1 := cell_ext f1
                    refine wp_region_ext 15 (by kernel_rfl) (by kernel_rfl) (by kernel_rfl) ?_
                    iterate 15
                      refine wpE_k (by kernel_rfl) (by kernel_rfl) ?_
                      apply Exists.intro
                      refine ⟨fun w1 hw1 => ?_, fun K hK => ?_⟩
                      · go_simp; first | done | rfl
                      go_simp; refine hK _ _ ?_; clear hK K
                    refine wpE_nil ⟨rfl, by kernel_rfl, fun wq hwq => ?_⟩
                    simp only [EndQ]
                    refine wpList_nil ?_
                    have g0 := g0 wq hwq
                    have g1 := g1 wq hwq
                    have g2 := g2 wq hwq
                    have f1q := f1 wq hwq
                    have hput := HPUT.out wq hwq
                    have HOVq := hide (mine_ext hov.out hwq); have HOFq := hide (hof.out.ext hwq); have HGMq := hide (HGM.out.ext hwq); have HX3q := hide (hX3.out.trans hwq); have HOAq := hide (show OwnS w9 wq (some ⟨vb, vo, none⟩) (varsA a9).length cv (varsA a9) from ⟨OVA.out.1, mine_ext OVA.out.2 hwq⟩)
                    clear hwq f1
                    have k0 := HOFq.out.frozen pp
                    have k1 : wq.cell? ⟨gb, pp, none⟩ = some _ := f1q
                    obtain ⟨⟨l0, l1, l2⟩, hfr, -⟩ := hput
                    have q0 := hfr (pp * 3)
                    have q1 := hfr (pp * 3 + 1)
                    have q2 := hfr (pp * 3 + 2)
                    clear hfr
                    have hgbv : gb ≠ gv := fun e => own_ne_blk HOVq.out HOFq.out (by decide) (by rw [e]; rfl)
                    have hgvb : gv ≠ gb := Ne.symm hgbv
                    go_wp2_with fail
                    have hst := sh_step z HOVq.out HOFq.out HX3q.out HGMq.out HOAq.out HGB.out HGV.out HGM0.out HSV.out
                    rw [HPV.out, HPF.out, ← HSS.out] at hst
                    go_roundw
                    case rel => exact ⟨k + 1, by omega, by go_num, hst.1, hst.2.1, hst.2.2.1, hst.2.2.2.1, hst.2.2.2.2⟩
                    case measure => simp [intOf]; omega
                · obtain rfl : k = (varsA a9).length := by omega
                  have hs9 := HSE.out
                  rw [List.take_length] at hov hof
                  rw [← hs9] at hov hof
                  have XF := hide hX3.out
                  clear OVA
                  go_wp2_with fail
                  go_roundw
                  case rel => exact ⟨j + 1, by omega, by go_num, hov, hof, XF.out⟩
                  case measure => simp [intOf]; omega
            · obtain rfl : j = q.atoms.length := by omega
              have hva : shV (varsQ q) σ (seenA q.atoms q.atoms.length) = (varsQ q).map σ := shV_all seenA_all
              rw [hva] at hov
              have HRV := hide (show RowAt wr (some ⟨gv, 0, none⟩) (varsQ q).length ((varsQ q).map σ) from RowAt.own hov.out)
              have XE := hide hX2.out
              have a0 := cell_ext (show wr.cell? ⟨w.heap.size, 0, none⟩ = some (.string q.name) from (HB6.out.ext hX2.out).cell 0)
              have a1 := cell_ext (show wr.cell? ⟨w.heap.size, 1, none⟩ = some (.slice A n cA) from (HB6.out.ext hX2.out).cell 1)
              have a2 := cell_ext (show wr.cell? ⟨w.heap.size, 2, none⟩ = some (.slice AB q.atoms.length dd) from (HB6.out.ext hX2.out).cell 2)
              have d0 := cell_ext (hX2.out.cell HD5.out)
              have HHE := hide (fun w1 (h1 : Ext wr w1) => (show Calls _ _ _ _ _ from by
                have h9 := HRD.out ((varsQ q).map σ) (some ⟨gv, 0, none⟩) (varsQ q).length w1 (X5.out.trans (hX2.out.trans h1)) (HRV.out.ext h1)
                rw [HHD.out] at h9
                exact h9))
              have HRX6 := hide (HRX5.out.ext hX2.out)
              have hqx : q.head.length = x.length := by
                have h9 := congrArg List.length HHD.out
                simpa [headV] using h9
              rw [hqx] at HHE
              have HSM := hide (fun (A7 : Option Addr) (c7 : Nat) w1 (h1 : Ext wr w1) (h2 : RowAt w1 A7 x.length x) => (show Calls _ _ _ _ _ from by
                have h9 := same_any x x A7 Ax x.length x.length c7 cx w1 h2 (HRX6.out.ext h1) (by omega)
                rw [sameR_iff.2 rfl] at h9
                exact h9))
              clear hov hof hqx
              go_upto_region 27 with fail
              refine wp_region_ext 9 (by kernel_rfl) (by kernel_rfl) (by kernel_rfl) ?_
              iterate 2
                refine wpE_k (by kernel_rfl) (by kernel_rfl) ?_
                apply Exists.intro
                refine ⟨fun w1 hw1 => ?_, fun K hK => ?_⟩
                · go_simp; first | done | rfl
                go_simp; refine hK _ _ ?_; clear hK K
              refine wpE_p [] (PrIs x) (fun u w1 w2 _ h2 h => PrIs.ext h h2) rfl (by kernel_rfl) (fun w1 hw1 => ?_) ?_
              · simp only [LookQ]
                clear a0 a1 a2 d0
                go_simp
                exact ⟨Ext.refl _, (HHE.out w1 hw1).mono fun e w9 ⟨A7, c7, h1, h2, h3⟩ => ⟨_, h1, h3, A7, c7, rfl, RowAt.own h2⟩⟩
              iterate 4
                refine wpE_k (by kernel_rfl) (by kernel_rfl) ?_
                apply Exists.intro
                refine ⟨fun w1 hw1 => ?_, fun K hK => ?_⟩
                · go_simp; first | done | rfl
                go_simp; refine hK _ _ ?_; clear hK K
              refine wpE_kp [153] (.bool true) (by kernel_rfl) (by kernel_rfl) (fun w1 hw1 => ?_) (fun K hK => ?_)
              · simp only [LookQ]
                rintro _ hu
                obtain ⟨A7, c7, rfl, h7⟩ := hu _ rfl
                clear hu a0 a1 a2 d0
                go_simp
                exact ⟨Ext.refl _, (HSM.out A7 c7 w1 hw1 h7).mono fun e w9 ⟨h1, h2⟩ => ⟨h1, h2⟩⟩
              go_simp; refine hK _ _ ?_; clear hK K
              iterate 1
                refine wpE_k (by kernel_rfl) (by kernel_rfl) ?_
                apply Exists.intro
                refine ⟨fun w1 hw1 => ?_, fun K hK => ?_⟩
                · go_simp; first | done | rfl
                go_simp; refine hK _ _ ?_; clear hK K
              refine wpE_nil ⟨rfl, by kernel_rfl, fun w9 hw1 => ?_⟩
              simp only [EndQ, List.drop]
              intro _ _
              refine wpList_nil ?_
              have XF := hide (XI5.out.trans (hX2.out.trans hw1))
              clear a0 a1 a2 d0 hw1 HHE HSM
              go_wp2_with fail
              go_roundw
              case rel => exact ⟨i + 1, by omega, by go_num, XF.out⟩
              case measure => simp [intOf]; omega
        · have h40' : ¬ ((i : Int) < 40) := by omega
          go_wp2_with ((with_reducible refine (awake_any _).mono ?_); rintro e w5 ⟨rfl, x5⟩; have X5 := hide x5; clear x5)
          go_ret
          exact ⟨rfl, X4.out.trans (hX.out.trans X5.out)⟩
      · go_wp2_with ((with_reducible refine (awake_any _).mono ?_); rintro e w5 ⟨rfl, x5⟩; have X5 := hide x5; clear x5)
        go_ret
        exact ⟨rfl, X4.out.trans (hX.out.trans X5.out)⟩
  · have hbad := answersP_bad (q := q) (data := data) (most := 1073741824) (by rw [HRA.out]; exact hea)
    rw [HRA.out] at hbad
    dsimp only at hbad
    subst hbad
    have hne : (ea != 0) = true := by simpa using hea
    go_wp2_with ((with_reducible refine (awake_any _).mono ?_); rintro e w5 ⟨rfl, x5⟩; have X5 := hide x5; clear x5)
    go_ret
    exact ⟨rfl, XW.out.trans X5.out⟩
end Go.Proofs.Ytpfjkjmimmklcaa
