/-
  RowSets: the walk.
-/
import Derived.Test.YtoahckibhmoikaaDoorLawArr
import Derived.IntWalk
namespace Go.Proofs.YtoahckibhmoikaaDoor
open Go.RowKit

theorem rises_at {l : List (List V)} (h : Rises l) {j : Nat} {x y : List V} (hx : l[j]? = some x) (hy : l[j + 1]? = some y) : cmpR x y < 0 := by
  obtain ⟨h1, e1⟩ := List.getElem?_eq_some_iff.1 hx
  obtain ⟨h2, e2⟩ := List.getElem?_eq_some_iff.1 hy
  have := List.pairwise_iff_getElem.1 h j (j + 1) h1 h2 (by omega)
  rwa [e1, e2] at this

/-- two copies, one behind the other -/
theorem twice_lat {w w1 w2 w3 : World} {A1 A3 : Option Addr} {n c1 c3 : Nat} {cs1 cs2 : List Value} {G : List (List V)} (hn : n = G.length)
    (h1 : w1.ownsRow w.heap.size 23 1 (.slice A1 n c1) n cs1) (e1 : Els (RMine w.heap.size) 1 w1 cs1 G) (x1 : Ext w1 w2)
    (e2 : Els (RMine w1.heap.size) 1 w2 cs2 G) (h3 : w3.ownsRow w.heap.size 23 1 (.slice A3 (n + n) c3) (n + n) (cs1 ++ cs2))
    (hb : w.heap.size ≤ w1.heap.size) (hg : w2.grownBy w3 (Value.slice A1 n c1).ownBlock) : LAt RRow 1 w3 A3 (n + n) (G ++ G) := by
  have h1' := mine_ext h1 x1
  refine mine_lat (base := w.heap.size) (by rw [List.length_append]; omega) h3 (Els.append ?_ ?_)
  · refine (e1.ext (RMine.stab _) x1).mono fun cs r h => ?_
    obtain ⟨A5, n5, c5, q1, q2⟩ := h
    exact ⟨A5, n5, c5, q1, mine_other q2 h1' (by decide) hg⟩
  · refine e2.mono fun cs r h => ?_
    obtain ⟨A5, n5, c5, q1, q2⟩ := h.base hb
    exact ⟨A5, n5, c5, q1, mine_other q2 h1' (by decide) hg⟩

set_option maxHeartbeats 4000000 in
set_option maxRecDepth 100000 in
theorem law_sets (rows : List (List V)) (A : Option Addr) (n c : Nat) (w : World) (ha : LAt RRow 1 w A n rows) (_hc : n ≤ c) (hn : n ≤ 1048576) (hr : RowsOk rows) (_hw : ∀ r ∈ rows, wfR r) :
    Calls Tryd.prog 14 #[.slice A n c] w fun e w' => e = .returned (.bool true) ∧ Ext w w' := by
  obtain rfl := ha.len
  have hal := arr_len rows
  have HG1 := hide (rises_arr rows)
  have HG2 := hide (fun z => mem_arr (z := z) (l := rows))
  have HG3 := hide hr.arr
  have HG4 := hide (show arrP (arrP rows) = arrP rows from (arr_eq (rises_arr rows) (fun _ => Iff.rfl)).symm)
  have HG5 := hide (show arrP (arrP rows ++ arrP rows) = arrP rows from (arr_eq (rises_arr rows) (fun x => by simp)).symm)
  have HCP := hide (fun w1 (h1 : Ext w w1) => copy_out_rows (c := c) (ha.ext RRow.stab h1) hn hr)
  have HAR := hide (fun A1 c1 w1 (h1 : LAt RRow 1 w1 A1 rows.length rows) => arr_out (c := c1) h1 (by omega) hr)
  have HA := hide ha; have HR := hide hr; clear ha hr _hw _hc
  generalize arrP rows = G at *
  have HCG := hide (fun A1 c1 w1 (h1 : LAt RRow 1 w1 A1 G.length G) => copy_all G A1 G.length c1 w1 h1 (by omega) (fun r h => by have := (HG3.out r h).1; omega))
  have HAG := hide (fun A1 n1 c1 (hn1 : n1 ≤ 2097152) w1 (h1 : LAt RRow 1 w1 A1 n1 G) => (HG4.out ▸ arr_out (c := c1) h1 hn1 HG3.out : _))
  have HAGG := hide (fun A1 n1 c1 (hn1 : n1 ≤ 2097152) w1 (h1 : LAt RRow 1 w1 A1 n1 (G ++ G)) => (HG5.out ▸ arr_out (c := c1) h1 hn1 (fun r hr => HG3.out r (by simpa using hr)) : _))
  have HSS := hide (fun A1 c1 A2 c2 w1 (h1 : LAt RRow 1 w1 A1 G.length G) (h2 : LAt RRow 1 w1 A2 G.length G) => same_self (c := c1) (d := c2) h1 h2 (by omega) HG3.out)
  have hG0 := hal
  go_enter Tryd.func14, Tryd.ntmps14
  go_wp2_with fail
  refine (HCP.out _ (Ext.refl _)).mono ?_
  rintro e w1 ⟨A1, c1, rfl, l1, x1⟩; have X1 := hide x1; have L1 := hide l1; clear x1 l1
  go_wp2_with fail
  refine (HAR.out A1 c1 _ L1.out).mono ?_
  rintro e w2 ⟨A2, c2, rfl, l2, x2⟩; have X2 := hide (X1.out.trans x2); have L2 := hide l2; clear x2 l2 L1 HAR HCP
  go_wp2_with fail
  go_loopw [4] (fun s4 w' => ∃ i : Nat, i ≤ G.length ∧ s4 = .int .i64 i ∧ Hid (Ext w2 w')) (fun s4 _ => G.length - (intOf s4).toNat)
  case atStart => exact ⟨0, by omega, rfl, Ext.refl _⟩
  case round =>
    obtain ⟨i, hin, rfl, hX⟩ := hrel
    by_cases h : i < G.length
    · have LG := hide (L2.out.ext RRow.stab hX.out)
      obtain ⟨b, off, x, A5, n5, c5, rfl, hx, hb1, d0, hR5⟩ := LG.out.row_ h
      have HX := hide (X2.out.trans hX.out)
      have hxG := List.mem_of_getElem? hx
      have HH := hide (fun w9 (hw9 : Ext wr w9) => has_rows rows x A A5 rows.length n5 c c5 w9 (HA.out.ext RRow.stab (HX.out.trans hw9)) (hR5.ext hw9) (by omega) (fun s hs => by have := (HR.out s hs).1; omega) ((HG2.out x).1 hxG))
      rcases Nat.eq_zero_or_pos i with h0 | h0
      · subst h0
        simp only [Nat.add_zero] at d0
        clear hx hR5 hxG hb1
        go_wp2_with fail
        have d0 := cell_ext d0
        refine wp_region_ext 24 (by kernel_rfl) (by kernel_rfl) (by kernel_rfl) ?_
        iterate 24
          refine wpE_k (by kernel_rfl) (by kernel_rfl) ?_
          apply Exists.intro
          refine ⟨fun w1 hw1 => ?_, fun K hK => ?_⟩
          · go_simp; first | done | rfl | exact HH.out w1 hw1
          go_simp; refine hK _ _ ?_; clear hK K
        refine wpE_nil ⟨rfl, by kernel_rfl, fun wq hwq => ?_⟩
        simp only [EndQ]
        refine wpList_nil ?_
        have XQ := hide (hX.out.trans hwq); clear hwq d0
        go_wp2_with fail
        go_roundw
        case rel => exact ⟨1, by omega, by go_num, XQ.out⟩
        case measure => simp [intOf]; omega
      · obtain ⟨j, rfl⟩ : ∃ j, i = j + 1 := ⟨i - 1, by omega⟩
        obtain ⟨b', off', y, A6, n6, c6, hBB, hy, hb2, f0, hR6⟩ := LG.out.row_ (i := j) (by omega)
        injection hBB with hBB
        injection hBB with q1 q2
        subst q1; subst q2
        have hk := rises_at HG1.out hy hx
        obtain ⟨k, HK⟩ : ∃ k, Hid (k = cmpR y x) := ⟨_, rfl⟩
        rw [← HK.out] at hk
        have hk2 : ¬ (0 : Int) ≤ k := by omega
        have hxs := HG3.out x hxG
        have hys := HG3.out y (List.mem_of_getElem? hy)
        have HC := hide (fun w9 (hw9 : Ext wr w9) => (HK.out ▸ ref_cmp y x A6 A5 n6 n5 c6 c5 w9 (hR6.ext hw9) (hR5.ext hw9) (by have := hR6.len; omega) (by have := hR5.len; omega) hys.2 hxs.2 : Calls Tryd.prog 31 #[.slice A6 n6 c6, .slice A5 n5 c5] w9 fun e w' => e = .returned (.int .i64 k) ∧ Ext w9 w'))
        have hj0 : (0 : Int) ≤ (j : Int) + 1 := by omega
        have hj1 : (0 : Int) < (j : Int) + 1 := by omega
        have hj2 : (j : Int) + 1 < (G.length : Int) := by omega
        have hj3 : ((j : Int) + 1).toNat = j + 1 := by omega
        have hj4 : IntKind.i64.wrap (j : Int) = (j : Int) := IntWalk.i64_in _ (by omega)
        have hj5 : (j : Int) < (G.length : Int) := by omega
        have hj6 : (0 : Int) ≤ (j : Int) := by omega
        have hj7 : j < G.length := by omega
        clear hx hR5 hxG hb1 hy hR6 hb2 hxs hys
        go_wp2_with fail
        have d0 := cell_ext d0
        have f0 := cell_ext f0
        refine wp_region_ext 24 (by kernel_rfl) (by kernel_rfl) (by kernel_rfl) ?_
        iterate 24
          refine wpE_k (by kernel_rfl) (by kernel_rfl) ?_
          apply Exists.intro
          refine ⟨fun w1 hw1 => ?_, fun K hK => ?_⟩
          · go_simp; first | done | rfl | exact HH.out w1 hw1 | exact HC.out w1 hw1
          go_simp; refine hK _ _ ?_; clear hK K
        refine wpE_nil ⟨rfl, by kernel_rfl, fun wq hwq => ?_⟩
        simp only [EndQ]
        refine wpList_nil ?_
        have XQ := hide (hX.out.trans hwq); clear hwq d0 f0
        go_wp2_with fail
        go_roundw
        case rel => exact ⟨j + 2, by omega, by go_num, XQ.out⟩
        case measure => simp [intOf]; omega
    · have XL := hide (X2.out.trans hX.out)
      have LL := hide (L2.out.ext RRow.stab hX.out)
      clear hX L2 X2
      go_wp2_with fail
      go_loopw [5] (fun s5 w' => ∃ i : Nat, i ≤ rows.length ∧ s5 = .int .i64 i ∧ Hid (Ext wr w')) (fun s5 _ => rows.length - (intOf s5).toNat)
      case atStart => exact ⟨0, by omega, rfl, Ext.refl _⟩
      case round =>
        obtain ⟨i', hin', rfl, hX⟩ := hrel
        rename World => wk
        by_cases h' : i' < rows.length
        · obtain ⟨b, off, x, A5, n5, c5, rfl, hx, hb1, d0, hR5⟩ := (HA.out.ext RRow.stab (XL.out.trans hX.out)).row_ h'
          have HH := hide (has_rows G x A2 A5 G.length n5 c2 c5 wk (LL.out.ext RRow.stab hX.out) hR5 (by omega) (fun s hs => by have := (HG3.out s hs).1; omega) ((HG2.out x).2 (List.mem_of_getElem? hx)))
          clear hx hb1 hR5
          go_wp2_with fail
          refine HH.out.mono ?_
          rintro e w9 ⟨rfl, h9⟩
          have X9 := hide (hX.out.trans h9); clear h9 d0
          go_wp2_with fail
          go_roundw
          case rel => exact ⟨i' + 1, by omega, by go_num, X9.out⟩
          case measure => simp [intOf]; omega
        · have XT := hide (XL.out.trans hX.out)
          have LT := hide (LL.out.ext RRow.stab hX.out)
          clear hX LL XL
          go_wp2_with fail
          refine (HCG.out A2 c2 _ LT.out).mono ?_
          rintro e w5 ⟨A5, _, c5, cells5, rfl, rfl, o5, e5, x5⟩
          have O5 := hide o5; have E5 := hide e5; have X5 := hide x5; clear o5 e5 x5
          go_wp2_with fail
          refine (HCG.out A2 c2 _ (LT.out.ext RRow.stab X5.out)).mono ?_
          rintro e w6 ⟨A6, _, c6, cells6, rfl, rfl, o6, e6, x6⟩
          have O6 := hide o6; have E6 := hide e6; have X6 := hide x6; clear o6 e6 x6
          obtain ⟨i0, hi0, hz0, hz1, hz2⟩ := info_parts infoRw
          go_wp2_with (at_builtin; refine wpList_append_sl rfl (.tmp 54) (.tmp 56) _ rfl 23 i0 _ 1 24 Tryd.underlying47 hi0 hz0 hz1 hz2 rfl (by omega) wk (X5.out.trans X6.out) _ G.length cells5 rfl (mine_ext O5.out X6.out) _ _ _ cells6 rfl (Sl.own O6.out) E6.out.one (by unfold maxLen; omega) (by omega) ?_; intro A7 c7 w7 o7 x7 g7 _)
          have LW := hide (twice_lat rfl O5.out E5.out X6.out E6.out o7.out X5.out.size g7.out)
          have X7 := hide (XT.out.trans x7.out)
          have L7 := hide (LT.out.ext RRow.stab x7.out)
          clear O5 E5 X5 O6 E6 X6 o7 g7 x7 LT XT
          go_wp2_with fail
          refine (awake_any _).mono ?_
          rintro e w8 ⟨rfl, x8⟩
          have X8 := hide (X7.out.trans x8); have L8 := hide (L7.out.ext RRow.stab x8); have W8 := hide (LW.out.ext RRow.stab x8); clear x8
          go_wp2_with fail
          refine (HCG.out A2 c2 _ L8.out).mono ?_
          rintro e w9 ⟨A9, _, c9, cells9, rfl, rfl, o9, e9, x9⟩
          have M9 := hide (mine_lat rfl o9 e9); have X9 := hide (X8.out.trans x9); have L9 := hide (L8.out.ext RRow.stab x9); have W9 := hide (W8.out.ext RRow.stab x9); clear x9 o9 e9
          go_wp2_with fail
          refine (HAG.out A9 _ c9 (by omega) _ M9.out).mono ?_
          rintro e w10 ⟨A10, c10, rfl, l10, x10⟩
          have M10 := hide l10; have X10 := hide (X9.out.trans x10); have L10 := hide (L9.out.ext RRow.stab x10); have W10 := hide (W9.out.ext RRow.stab x10); clear x10 l10
          go_wp2_with fail
          refine (HSS.out A10 c10 A2 c2 _ M10.out L10.out).mono ?_
          rintro e w11 ⟨rfl, x11⟩
          have X11 := hide (X10.out.trans x11); have L11 := hide (L10.out.ext RRow.stab x11); have W11 := hide (W10.out.ext RRow.stab x11); clear x11
          go_wp2_with fail
          refine (HAGG.out A7 _ c7 (by omega) _ W11.out).mono ?_
          rintro e w12 ⟨A12, c12, rfl, l12, x12⟩
          have M12 := hide l12; have X12 := hide (X11.out.trans x12); have L12 := hide (L11.out.ext RRow.stab x12); clear x12 l12
          go_wp2_with fail
          refine (HSS.out A12 c12 A2 c2 _ M12.out L12.out).mono ?_
          rintro e w13 ⟨rfl, x13⟩
          have X13 := hide (X12.out.trans x13); clear x13
          go_wp2_with fail
          go_ret
          exact ⟨rfl, X13.out⟩
end Go.Proofs.YtoahckibhmoikaaDoor
