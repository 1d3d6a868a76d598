/-
  The document's Plain: the walk.
-/
import Derived.Test.YtpfjkjmimmklcaaPlainS
import Derived.Test.YtpfjkjmimmklcaaApp2
namespace Go.Proofs.Ytpfjkjmimmklcaa
open Go.RowKit

def oldI (hd : List ByteArray) (as_ : List Atm) (i : Nat) : List ByteArray := hd ++ varsL ((as_.take i).flatMap (·.terms))
def oldJ (hd : List ByteArray) (as_ : List Atm) (i : Nat) (ts : List Tm) (j : Nat) : List ByteArray := oldI hd as_ i ++ varsL (ts.take j)
theorem varsL_app (a b : List Tm) : varsL (a ++ b) = varsL a ++ varsL b := by simp [varsL]
theorem oldI_zero (hd : List ByteArray) (as_ : List Atm) : oldI hd as_ 0 = hd := by simp [oldI, varsL]
theorem oldI_all (nm : ByteArray) (hd : List ByteArray) (as_ : List Atm) : oldI hd as_ as_.length = oldQ ⟨nm, hd, as_⟩ := by simp [oldI, oldQ]
theorem oldJ_zero (hd : List ByteArray) (as_ : List Atm) (i : Nat) (ts : List Tm) : oldJ hd as_ i ts 0 = oldI hd as_ i := by simp [oldJ, varsL]
theorem oldJ_all {hd : List ByteArray} {as_ : List Atm} {i : Nat} {a : Atm} (h : as_[i]? = some a) : oldJ hd as_ i a.terms a.terms.length = oldI hd as_ (i + 1) := by
  unfold oldJ oldI
  rw [take_next as_ i a h, List.take_of_length_le (Nat.le_refl _), List.flatMap_append, varsL_app]
  simp
theorem oldJ_var {hd : List ByteArray} {as_ : List Atm} {i : Nat} {ts : List Tm} {j : Nat} {t : Tm} (h : ts[j]? = some t) (hn : noVar t = false) : oldJ hd as_ i ts (j + 1) = oldJ hd as_ i ts j ++ [t.v] := by
  unfold oldJ
  rw [take_next ts j t h, varsL_app, ← List.append_assoc]
  simp [varsL, hn]
theorem oldJ_const {hd : List ByteArray} {as_ : List Atm} {i : Nat} {ts : List Tm} {j : Nat} {t : Tm} (h : ts[j]? = some t) (hn : noVar t = true) : oldJ hd as_ i ts (j + 1) = oldJ hd as_ i ts j := by
  unfold oldJ
  rw [take_next ts j t h, varsL_app]
  simp [varsL, hn]
theorem addV_snoc {l : List ByteArray} {i : Nat} {x : ByteArray} (h : l[i]? = some x) : (l.take (i + 1)).foldl addV [] = addV ((l.take i).foldl addV []) x := by
  rw [take_next l i x h, List.foldl_append]; rfl

set_option maxHeartbeats 8000000 in
set_option maxRecDepth 100000 in
theorem ref_plain (q : Qy) (L : QLoc) (w : World) (hq : QAt w L q) (hM : smallM 1048576 q) :
    Calls Try.prog 18 #[qval q.name L] w (RetQ w (plainQ q)) := by
  obtain ⟨i0, hi0, hz0, hz1, hz2⟩ := info_parts infoS
  have HCP := hide (fun w1 (h1 : Ext w w1) => copy_cp q L w1 (hq.ext h1) hM)
  obtain ⟨nm, hd, as_⟩ := q
  obtain ⟨A, n, c, B, m, d⟩ := L
  simp only [qval] at *
  have hml := hide (show m = as_.length from hq.atoms.len)
  have hnl := hide (show n = hd.length from hq.head.len)
  have hm20 : m ≤ 1048576 := by have := hM.atomsL; have := hml.out; simp only at *; omega
  have hn20 : n ≤ 1048576 := by have := hM.headL; have := hnl.out; simp only at *; omega
  have HQ := hide hq; have HM := hide hM
  have HHS := hide (slS hq.head)
  have hE2 := (Ext.alloc w (.cells #[.string nm, .slice A n c, .slice B m d] 25)).alloc' (.cells #[.string ⟨#[]⟩, .slice none 0 0, .slice none 0 0] 25)
  have HE := hide hE2
  have HB0 := hide ((Blk.new w 25 #[.string nm, .slice A n c, .slice B m d]).ext (Ext.alloc _ (.cells #[.string ⟨#[]⟩, .slice none 0 0, .slice none 0 0] 25)))
  have HB1 := hide (show Blk ((w.alloc (.cells #[.string nm, .slice A n c, .slice B m d] 25)).alloc (.cells #[.string ⟨#[]⟩, .slice none 0 0, .slice none 0 0] 25)) (w.heap.size + 1) 25 #[.string ⟨#[]⟩, .slice none 0 0, .slice none 0 0] from Blk.newAt (World.size_alloc _ _))
  generalize hW2 : (w.alloc (.cells #[.string nm, .slice A n c, .slice B m d] 25)).alloc (.cells #[.string ⟨#[]⟩, .slice none 0 0, .slice none 0 0] 25) = W2 at *
  have HW2 := hide hW2
  clear hW2 hq hM hE2
  have a1 : W2.cell? ⟨w.heap.size, 1, none⟩ = some (.slice A n c) := HB0.out.cell 1
  go_enter Try.func18, Try.ntmps18
  go_wp2_with (rw [HW2.out]; at_builtin; refine wpList_append_sl rfl (.tmp 12) (.tmp 14) _ rfl 9 i0 _ 1 16 Try.underlying22 hi0 hz0 hz1 hz2 rfl (by omega) W2 (Ext.refl _) (.slice none 0 0) 0 [] rfl (World.ownsRow_nil _ _ _ _) A n c (strC hd) rfl (HHS.out.ext HE.out) (strC_els w hd).one (by unfold maxLen; omega) (by omega) ?_; intro A8 c8 w8 own8 E8 G8 L8)
  clear a1
  simp only [Nat.zero_add, List.nil_append] at own8 ⊢
  have HO0 := hide (show OwnS W2 w8 A8 n c8 (oldI hd as_ 0) by rw [oldI_zero]; exact ⟨hnl.out, own8.out⟩)
  clear own8 G8 L8
  go_loopw [3, 4, 5] (fun s3 s4 s5 w' => ∃ (i : Nat) (A' : Option Addr) (n' c' : Nat), i ≤ m ∧ s4 = .int .i64 i ∧ s3 = .slice A' n' c' ∧ LenB n' i 0 ∧ Hid (OwnS W2 w' A' n' c' (oldI hd as_ i)) ∧ Hid (Ext W2 w')) (fun _ s4 _ _ => m - (intOf s4).toNat)
  case atStart => exact ⟨0, A8, n, c8, by omega, rfl, rfl, LenB.start hn20, HO0.out, E8.out⟩
  case round =>
    obtain ⟨i, A', n', c', him, rfl, rfl, hb, hO, hX⟩ := hrel
    have b2 : wr.cell? ⟨w.heap.size, 2, none⟩ = some (.slice B m d) := (HB0.out.ext hX.out).cell 2
    by_cases h : i < m
    · obtain ⟨b, off, a, B1, m1, d1, rfl, hx, hb1, c0, c1, hT⟩ := HQ.out.atoms.at_ h
      have Hm1 := hide (HE.out.cell c1)
      have HT := hide hT
      have Hx := hide hx
      have hm1 : m1 ≤ 1048576 := by have := (HM.out.atoms a (List.mem_of_getElem? hx)).len; have := hT.len; omega
      have HO2 := hide (show OwnS W2 wr A' n' c' (oldJ hd as_ i a.terms 0) by rw [oldJ_zero]; exact hO.out)
      clear hx hT c0 c1
      go_wp2_with fail
      go_loopw [3, 5] (fun s3 s5 w' => ∃ (j : Nat) (A' : Option Addr) (n' c' : Nat), j ≤ m1 ∧ s5 = .int .i64 j ∧ s3 = .slice A' n' c' ∧ LenB n' i j ∧ Hid (OwnS W2 w' A' n' c' (oldJ hd as_ i a.terms j)) ∧ Hid (Ext W2 w')) (fun _ s5 _ => m1 - (intOf s5).toNat)
      case atStart => exact ⟨0, A', n', c', by omega, rfl, rfl, hb, HO2.out, hX.out⟩
      case round =>
        clear hb hO hX HO2
        obtain ⟨j, A', n', c', hjm, rfl, rfl, hb, hO, hX⟩ := hrel
        have b2 : wr.cell? ⟨w.heap.size, 2, none⟩ = some (.slice (some ⟨b, off, none⟩) m d) := (HB0.out.ext hX.out).cell 2
        have c1 := hX.out.cell Hm1.out
        by_cases h3 : j < m1
        · obtain ⟨b', off', t, rfl, hx2, hb2, d0, d1_, d2, d3⟩ := HT.out.tm h3
          have d0 := hX.out.cell (HE.out.cell d0)
          clear d1_ d2 d3 hb1 hb2
          by_cases hv : 0 < t.v.size
          · have he := size_some hv
            have hst := hide (oldJ_var (hd := hd) (as_ := as_) (i := i) hx2 (noVar_false hv))
            have Hsrc := hide (sl_lit wr [.string t.v] 9 1 1 rfl)
            have HO := hide hO.out.2
            have hn42 : n' ≤ 2199023255552 := hb.get (by omega) (by omega)
            have Hb := hide hb
            clear hx2 hv hb
            go_wp2_with (at_builtin; refine wpList_append_sl rfl (.tmp 45) (.tmp 56) _ rfl 9 i0 _ 1 16 Try.underlying22 hi0 hz0 hz1 hz2 rfl (by omega) W2 (hX.out.trans (Ext.alloc _ _)) _ n' (strC (oldJ hd as_ i a.terms j)) rfl (HO.out.alloc _) _ 1 1 [.string t.v] rfl Hsrc.out (fun v h => by obtain rfl := List.mem_singleton.1 h; rfl) (by unfold maxLen; omega) (by omega) ?_; intro A8 c8 w8 own8 E8 G8 L8)
            go_roundw
            case rel =>
              refine ⟨j + 1, A8, n' + 1, c8, by omega, by go_num, rfl, Hb.out.next, ?_, E8.out⟩
              rw [Hid, hst.out]
              exact ⟨by rw [List.length_append, ← hO.out.1]; rfl, by rw [strC_snoc]; exact own8.out⟩
            case measure => simp [intOf]; omega
          · have he := size_empty (s := t.v) (by omega)
            have hst := hide (oldJ_const (hd := hd) (as_ := as_) (i := i) hx2 (noVar_true (t := t) (by omega)))
            clear hx2 hv
            go_wp2_with fail
            go_roundw
            case rel => exact ⟨j + 1, A', n', c', by omega, by go_num, rfl, hb.skip, by rw [Hid, hst.out]; exact hO.out, hX.out⟩
            case measure => simp [intOf]; omega
        · have hfin := hide (show oldJ hd as_ i a.terms j = oldI hd as_ (i + 1) by
            rw [show j = a.terms.length by have := HT.out.len; omega]; exact oldJ_all Hx.out)
          go_wp2_with fail
          go_roundw
          case rel => exact ⟨i + 1, A', n', c', by omega, by go_num, rfl, hb.row (by omega), by rw [Hid, ← hfin.out]; exact hO.out, hX.out⟩
          case measure => simp [intOf]; omega
    · have hold := hide (show oldI hd as_ i = oldQ ⟨nm, hd, as_⟩ by rw [show i = as_.length by have := hml.out; omega]; exact oldI_all nm hd as_)
      have HOo := hide (show OwnS W2 wr A' n' c' (oldQ ⟨nm, hd, as_⟩) by rw [← hold.out]; exact hO.out)
      have hn42 : n' ≤ 2199023255552 := hb.get (by omega) (by omega)
      clear hO hold hb
      have HX3 := hide hX.out
      have HOld := hide HOo.out.lat
      have hnl3 := hide (show n' = (oldQ ⟨nm, hd, as_⟩).length from HOo.out.1)
      clear hX HOo
      obtain ⟨W3, hW3⟩ : ∃ x : World, x = wr := ⟨_, rfl⟩
      subst hW3
      go_wp2_with fail
      go_loopw [6, 7] (fun s6 s7 w' => ∃ (i : Nat) (A8 : Option Addr) (n8 c8 : Nat), i ≤ n' ∧ s7 = .int .i64 i ∧ s6 = .slice A8 n8 c8 ∧ n8 ≤ i ∧ Hid (OwnS W3 w' A8 n8 c8 (((oldQ ⟨nm, hd, as_⟩).take i).foldl addV [])) ∧ Hid (Ext W3 w')) (fun _ s7 _ => n' - (intOf s7).toNat)
      case atStart => exact ⟨0, none, 0, 0, by omega, rfl, rfl, by omega, OwnS.nil _ _, Ext.refl _⟩
      case round =>
        obtain ⟨i3, A8, n8, c8, hi3, rfl, rfl, h8, hO8, hX8⟩ := hrel
        by_cases h : i3 < n'
        · obtain ⟨b, off, x, rfl, hx, hb1, c0⟩ := HOld.out.str h
          have c0 := hX8.out.cell c0
          have hst := hide (addV_snoc hx)
          have HIN := hide (ref_in _ x A8 n8 c8 wr hO8.out.lat (by omega))
          have HO := hide hO8.out.2
          have Hsrc := hide (sl_lit wr [.string x] 9 1 1 rfl)
          clear hx hb1
          cases hmb : memB (((oldQ ⟨nm, hd, as_⟩).take i3).foldl addV []) x with
          | true =>
            have hsk := hide (show ((oldQ ⟨nm, hd, as_⟩).take (i3 + 1)).foldl addV [] = ((oldQ ⟨nm, hd, as_⟩).take i3).foldl addV [] by rw [hst.out]; exact addV_in hmb)
            rw [hmb] at HIN
            clear hmb
            go_wp2_with ((with_reducible refine HIN.out.mono ?_); rintro e w1 ⟨rfl, rfl⟩)
            go_roundw
            case rel => exact ⟨i3 + 1, A8, n8, c8, by omega, by go_num, rfl, by omega, by rw [Hid, hsk.out]; exact hO8.out, hX8.out⟩
            case measure => simp [intOf]; omega
          | false =>
            have hsk := hide (show ((oldQ ⟨nm, hd, as_⟩).take (i3 + 1)).foldl addV [] = ((oldQ ⟨nm, hd, as_⟩).take i3).foldl addV [] ++ [x] by rw [hst.out]; exact addV_out hmb)
            rw [hmb] at HIN
            clear hmb
            go_wp2_with (first | ((with_reducible refine HIN.out.mono ?_); rintro e w1 ⟨rfl, rfl⟩) | (at_builtin; refine wpList_append_sl rfl (.tmp 71) (.tmp 76) _ rfl 9 i0 _ 1 16 Try.underlying22 hi0 hz0 hz1 hz2 rfl (by omega) W3 (hX8.out.trans (Ext.alloc _ _)) _ n8 _ rfl (HO.out.alloc _) _ 1 1 [.string x] rfl Hsrc.out (fun v h => by obtain rfl := List.mem_singleton.1 h; rfl) (by unfold maxLen; omega) (by omega) ?_; intro A9 c9 w8 own8 E8 G8 L8))
            go_roundw
            case rel =>
              refine ⟨i3 + 1, A9, n8 + 1, c9, by omega, by go_num, rfl, by omega, ?_, E8.out⟩
              rw [Hid, hsk.out]
              exact ⟨by rw [List.length_append, ← hO8.out.1]; rfl, by rw [strC_snoc]; exact own8.out⟩
            case measure => simp [intOf]; omega
        · have HSN := hide (show OwnS W3 wr A8 n8 c8 (seenQ ⟨nm, hd, as_⟩) by
            have h1 := hO8.out
            rw [List.take_of_length_le (by have := hnl3.out; omega)] at h1
            exact h1)
          have HX4 := hide (HX3.out.trans hX8.out)
          have hn8 : n8 ≤ 2199023255552 := by omega
          clear hO8 hX8 h8
          obtain ⟨W4, hW4⟩ : ∃ x : World, x = wr := ⟨_, rfl⟩
          subst hW4
          have a0 : W4.cell? ⟨w.heap.size, 0, none⟩ = some (.string nm) := (HB0.out.ext HX4.out).cell 0
          have a1 : W4.cell? ⟨w.heap.size, 1, none⟩ = some (.slice A n c) := (HB0.out.ext HX4.out).cell 1
          have a2 : W4.cell? ⟨w.heap.size, 2, none⟩ = some (.slice B m d) := (HB0.out.ext HX4.out).cell 2
          go_wp2_with ((with_reducible refine (HCP.out _ (HE.out.trans HX4.out)).mono ?_); rintro e w1 ⟨Ac, nc, cc, Bc, mc, dc, rfl, hc, x1⟩; have HC := hide hc; have X1 := hide x1; clear hc x1 a0 a1 a2)
          obtain ⟨gh, ps, hA, hn, hc, hmc, hps, hpw, hge, hgh, hI0⟩ := PInv.start HC.out X1.out
          subst hA; subst hn; subst hc
          have HI1 := hide (show PInv W4 (w1.alloc (.cells #[.string nm, .slice (some ⟨gh, 0, none⟩) hd.length hd.length, .slice Bc mc dc] 25)) w1.heap.size gh nm hd (partL (ren ⟨nm, hd, as_⟩) 0 hd) ps (curT (renT ⟨nm, hd, as_⟩) 0 0) Bc mc dc by
            rw [partL_zero]; exact hI0.congr fun k p _ => (curT_zero _ _ _).symm)
          have HS8 := hide (show W4.heap.size ≤ w1.heap.size from X1.out.size)
          have HGH := hide hgh; have HGE := hide hge; have HPW := hide hpw; have HPS := hide hps; have HMC := hide hmc
          have hmc20 : mc ≤ 1048576 := by
            have h1 := congrArg List.length hps
            rw [List.length_map] at h1
            have := hml.out
            omega
          have HSL := hide HSN.out.lat
          clear hI0 hgh hge hpw hps hmc
          generalize hW5 : w1.alloc (.cells #[.string nm, .slice (some ⟨gh, 0, none⟩) hd.length hd.length, .slice Bc mc dc] 25) = W5 at *
          clear hW5
          generalize hg8 : w1.heap.size = g8 at *
          clear hg8
          go_wp2_with fail
          go_loopw [9] (fun s9 w' => ∃ i : Nat, i ≤ hd.length ∧ s9 = .int .i64 i ∧ Hid (PInv W4 w' g8 gh nm hd (partL (ren ⟨nm, hd, as_⟩) i hd) ps (curT (renT ⟨nm, hd, as_⟩) 0 0) Bc mc dc)) (fun s9 _ => hd.length - (intOf s9).toNat)
          case atStart => exact ⟨0, by omega, rfl, HI1.out⟩
          case round =>
            obtain ⟨i4, hi4, rfl, hI⟩ := hrel
            have v1 : wr.cell? ⟨g8, 1, none⟩ = some (.slice (some ⟨gh, 0, none⟩) hd.length hd.length) := hI.out.var.cell 1
            by_cases h : i4 < hd.length
            · have HXr := hide (HX4.out.trans hI.out.ext)
              have hin : i4 < n := by have := hnl.out; omega
              obtain ⟨b, off, x, rfl, hx, hb1, c0⟩ := ((HQ.out.head.ext RS.stab (HE.out.trans HXr.out)).str (i := i4) hin)
              have a1 : wr.cell? ⟨w.heap.size, 1, none⟩ = some (.slice (some ⟨b, off, none⟩) n c) := (HB0.out.ext HXr.out).cell 1
              obtain ⟨k, db, hk1, hkl, hdb, hdbs, hV⟩ := ren_parts (head_seen (q := ⟨nm, hd, as_⟩) (List.mem_of_getElem? hx)) (by have := HSN.out.1; omega)
              have HAT := hide (fun w1 (h1 : Ext W4 w1) => ref_at (seenQ ⟨nm, hd, as_⟩) x A8 n8 c8 w1 (HSL.out.ext RS.stab h1) (by omega))
              rw [hk1] at HAT
              have HDG := hide (fun w1 => ref_digits k w1 (by omega))
              rw [← hdb] at HDG
              have hsz : ¬ 9223372036854775807 < 1 + db.size := by omega
              have HV := hide hV; have HWK := hide (wrap_nat k (by omega))
              have hs1 : (⟨#[118]⟩ : ByteArray).size = 1 := rfl
              have Hx := hide hx
              clear hx hk1 hdb hb1 hV
              go_wp2_with fail
              refine wp_region_ext 14 (by kernel_rfl) (by kernel_rfl) (by kernel_rfl) ?_
              have c0 := cell_ext c0
              have v1 := cell_ext v1
              have a1 := cell_ext a1
              iterate 10
                refine wpE_k (by kernel_rfl) (by kernel_rfl) ?_
                apply Exists.intro
                refine ⟨fun w1 hw1 => ?_, fun K hK => ?_⟩
                · go_simp; first | done | rfl | exact sameCall (HAT.out w1 (hI.out.ext.trans hw1)) | exact HDG.out w1
                go_simp; refine hK _ _ ?_; clear hK K
              refine wpE_k (by kernel_rfl) (by kernel_rfl) ?_
              apply Exists.intro
              refine ⟨fun w1 hw1 => ?_, fun K hK => ?_⟩
              · go_simp; exact HWK.out
              go_simp; refine hK _ _ ?_; clear hK K
              iterate 3
                refine wpE_k (by kernel_rfl) (by kernel_rfl) ?_
                apply Exists.intro
                refine ⟨fun w1 hw1 => ?_, fun K hK => ?_⟩
                · go_simp; first | done | rfl | exact sameCall (HAT.out w1 (hI.out.ext.trans hw1)) | exact HDG.out w1
                go_simp; refine hK _ _ ?_; clear hK K
              refine wpE_nil ⟨rfl, by kernel_rfl, fun wq hwq => ?_⟩
              simp only [EndQ, List.drop]
              clear c0 v1 a1
              have HIq := hide (hI.out.mono hwq)
              clear hwq
              have u1 : wq.cell? ⟨gh, i4, none⟩ = some (.string x) := by
                rw [HIq.out.head.cell i4]
                have := partL_get (ren ⟨nm, hd, as_⟩) Hx.out
                simp [strC_get this]
              have u2 := HIq.out.head.frozen i4
              go_wp2_with fail
              go_roundw
              case rel => exact ⟨i4 + 1, by omega, by go_num, by rw [HV.out]; exact HIq.out.setH Hx.out HGH.out⟩
              case measure => simp [intOf]; omega
            · have HI5 := hide (show PInv W4 wr g8 gh nm hd (partL (ren ⟨nm, hd, as_⟩) hd.length hd) ps (curT (renT ⟨nm, hd, as_⟩) 0 0) Bc mc dc by
                have h1 := hI.out
                rwa [show i4 = hd.length by omega] at h1)
              clear hI HI1
              go_wp2_with fail
              go_loopw [10, 11] (fun s10 _ w' => ∃ i : Nat, i ≤ mc ∧ s10 = .int .i64 i ∧ Hid (PInv W4 w' g8 gh nm hd (partL (ren ⟨nm, hd, as_⟩) hd.length hd) ps (curT (renT ⟨nm, hd, as_⟩) i 0) Bc mc dc)) (fun s10 _ _ => mc - (intOf s10).toNat)
              case atStart => exact ⟨0, by omega, rfl, HI5.out⟩
              case round =>
                clear HI5
                obtain ⟨i5, hi5, rfl, hI⟩ := hrel
                have v2 : wr.cell? ⟨g8, 2, none⟩ = some (.slice Bc mc dc) := hI.out.var.cell 2
                by_cases h : i5 < mc
                · obtain ⟨bb, boff, p, cs, rfl, hp, hb1, hcl, hone, hcs, hcell⟩ := (hI.out.atoms HMC.out).get (by omega) h
                  obtain rfl : cs = cpC p := hcs
                  have e1 : wr.cell? ⟨bb, boff + i5 * 2 + 1, none⟩ = some (.slice (some ⟨p.2, 0, none⟩) p.1.terms.length p.1.terms.length) := hcell 1 (by omega)
                  have HP := hide hp
                  have hpa := hide (show as_[i5]? = some p.1 by rw [← HPS.out, List.getElem?_map, hp]; rfl)
                  have hpm := hide (HM.out.atoms p.1 (List.mem_of_getElem? hpa.out)).len
                  have hpl20 : p.1.terms.length ≤ 1048576 := hpm.out
                  have hlt := hide (hge_at HGE.out hp)
                  clear hp hb1 hcl hone hcell
                  have HXr := hide (HE.out.trans (HX4.out.trans hI.out.ext))
                  obtain ⟨sb, soff, a, B1, m1, d1, rfl, hx, hb1, c0, c1, hT⟩ := HQ.out.atoms.at_ (i := i5) (by show i5 < m; have h1 := congrArg List.length HPS.out; rw [List.length_map] at h1; have := hml.out; have := HMC.out; omega)
                  obtain rfl : a = p.1 := by rw [hpa.out] at hx; injection hx with hx; exact hx.symm
                  have HT := hide hT
                  have HC1 := hide c1
                  have hm1 := hide hT.len
                  clear hx hb1 c0 c1 hT
                  go_wp2_with fail
                  go_loopw [11] (fun s11 w' => ∃ j : Nat, j ≤ p.1.terms.length ∧ s11 = .int .i64 j ∧ Hid (PInv W4 w' g8 gh nm hd (partL (ren ⟨nm, hd, as_⟩) hd.length hd) ps (curT (renT ⟨nm, hd, as_⟩) i5 j) (some ⟨bb, boff, none⟩) mc dc)) (fun s11 _ => p.1.terms.length - (intOf s11).toNat)
                  case atStart => exact ⟨0, by omega, rfl, hI.out⟩
                  case round =>
                    clear hI v2 e1 HXr
                    obtain ⟨j, hj, rfl, hI⟩ := hrel
                    have v2 : wr.cell? ⟨g8, 2, none⟩ = some (.slice (some ⟨bb, boff, none⟩) mc dc) := hI.out.var.cell 2
                    have e1 := hI.out.atc HMC.out HP.out
                    by_cases h3 : j < p.1.terms.length
                    · have HXr := hide (HX4.out.trans hI.out.ext)
                      obtain ⟨tb, toff, t, rfl, ht, hb1, d0, d1_, d2, d3⟩ := HT.out.tm (i := j) (by have := hm1.out; omega)
                      have d0 := HXr.out.cell (HE.out.cell d0)
                      have c1 := HXr.out.cell (HE.out.cell HC1.out)
                      obtain ⟨u1, u2⟩ := hI.out.tmv HP.out ht
                      clear d1_ d2 d3 hb1
                      by_cases hv : 0 < t.v.size
                      · have he := size_some hv
                        have a2 : wr.cell? ⟨w.heap.size, 2, none⟩ = some (.slice (some ⟨sb, soff, none⟩) m d) := (HB0.out.ext HXr.out).cell 2
                        have hnv := noVar_false hv
                        obtain ⟨k, db, hk1, hkl, hdb, hdbs, hV⟩ := ren_parts (term_seen (q := ⟨nm, hd, as_⟩) (List.mem_of_getElem? hpa.out) (List.mem_of_getElem? ht) hnv) (by have := HSN.out.1; omega)
                        have HAT := hide (fun w1 (h1 : Ext W4 w1) => ref_at (seenQ ⟨nm, hd, as_⟩) t.v A8 n8 c8 w1 (HSL.out.ext RS.stab h1) (by omega))
                        rw [hk1] at HAT
                        have HDG := hide (fun w1 => ref_digits k w1 (by omega))
                        rw [← hdb] at HDG
                        have hsz : ¬ 9223372036854775807 < 1 + db.size := by omega
                        have HV := hide hV; have HWK := hide (wrap_nat k (by omega))
                        have hs1 : (⟨#[118]⟩ : ByteArray).size = 1 := rfl
                        have Ht := hide ht
                        have hrf := hide (show renT ⟨nm, hd, as_⟩ t = ⟨ren ⟨nm, hd, as_⟩ t.v, t.c⟩ by unfold renT; rw [if_neg (by rw [hnv]; decide)])
                        have hjm : j < m1 := by have := hm1.out; omega
                        have him : i5 < m := by have h1 := congrArg List.length HPS.out; rw [List.length_map] at h1; have := hml.out; have := HMC.out; omega
                        clear ht hk1 hdb hV hnv hv
                        go_wp2_with fail
                        refine wp_region_ext 24 (by kernel_rfl) (by kernel_rfl) (by kernel_rfl) ?_
                        have v2 := cell_ext v2
                        have e1 := cell_ext e1
                        have a2 := cell_ext a2
                        have c1 := cell_ext c1
                        have d0 := cell_ext d0
                        iterate 19
                          refine wpE_k (by kernel_rfl) (by kernel_rfl) ?_
                          apply Exists.intro
                          refine ⟨fun w1 hw1 => ?_, fun K hK => ?_⟩
                          · go_simp; first | done | rfl | exact sameCall (HAT.out w1 (hI.out.ext.trans hw1)) | exact HDG.out w1
                          go_simp; refine hK _ _ ?_; clear hK K
                        refine wpE_k (by kernel_rfl) (by kernel_rfl) ?_
                        apply Exists.intro
                        refine ⟨fun w1 hw1 => ?_, fun K hK => ?_⟩
                        · go_simp; exact HWK.out
                        go_simp; refine hK _ _ ?_; clear hK K
                        iterate 4
                          refine wpE_k (by kernel_rfl) (by kernel_rfl) ?_
                          apply Exists.intro
                          refine ⟨fun w1 hw1 => ?_, fun K hK => ?_⟩
                          · go_simp; first | done | rfl | exact sameCall (HAT.out w1 (hI.out.ext.trans hw1)) | exact HDG.out w1
                          go_simp; refine hK _ _ ?_; clear hK K
                        refine wpE_nil ⟨rfl, by kernel_rfl, fun wq hwq => ?_⟩
                        simp only [EndQ, List.drop]
                        clear v2 e1 a2 c1 d0
                        have HIq := hide (hI.out.mono hwq)
                        clear hwq
                        obtain ⟨u1, u2⟩ := HIq.out.tmv HP.out Ht.out
                        go_wp2_with fail
                        go_roundw
                        case rel => exact ⟨j + 1, by omega, by go_num, by rw [HV.out]; exact HIq.out.setT HPW.out HP.out Ht.out hrf.out hlt.out⟩
                        case measure => simp [intOf]; omega
                      · have he := size_empty (s := t.v) (by omega)
                        have hst := hide (show renT ⟨nm, hd, as_⟩ t = t by unfold renT; rw [if_pos (noVar_true (t := t) (by omega))])
                        have Ht := hide ht
                        clear ht hv c1 d0 u2
                        go_wp2_with fail
                        go_roundw
                        case rel =>
                          refine ⟨j + 1, by omega, by go_num, hI.out.congr fun k p' hp' => ?_⟩
                          by_cases hk : k = i5
                          · subst hk
                            obtain rfl : p' = p := by have h1 := HP.out; rw [hp'] at h1; injection h1
                            rw [curT_at, curT_at, partL_keep _ Ht.out hst.out]
                          · exact curT_ne _ hk _ _ _
                        case measure => simp [intOf]; omega
                    · have HI9 := hide (show PInv W4 wr g8 gh nm hd (partL (ren ⟨nm, hd, as_⟩) hd.length hd) ps (curT (renT ⟨nm, hd, as_⟩) (i5 + 1) 0) (some ⟨bb, boff, none⟩) mc dc from hI.out.congr fun k p' hp' => curT_next _ fun hk => by
                        subst hk
                        have h1 := HP.out
                        rw [hp'] at h1
                        injection h1 with h1
                        subst h1
                        omega)
                      clear hI
                      go_wp2_with fail
                      go_roundw
                      case rel => exact ⟨i5 + 1, by omega, by go_num, HI9.out⟩
                      case measure => simp [intOf]; omega
                · have HIe := hide (show PInv W4 wr g8 gh nm hd (partL (ren ⟨nm, hd, as_⟩) hd.length hd) ps (curT (renT ⟨nm, hd, as_⟩) ps.length 0) Bc mc dc by
                    have h1 := hI.out
                    rwa [show i5 = ps.length by have := HMC.out; omega] at h1)
                  clear hI
                  have v0 : wr.cell? ⟨g8, 0, none⟩ = some (.string nm) := HIe.out.var.cell 0
                  have v1 : wr.cell? ⟨g8, 1, none⟩ = some (.slice (some ⟨gh, 0, none⟩) hd.length hd.length) := HIe.out.var.cell 1
                  have r := HB1.out.ext (HX4.out.trans HIe.out.ext)
                  have r0 : wr.cell? ⟨w.heap.size + 1, 0, none⟩ = some (.string ⟨#[]⟩) := r.cell 0
                  have r1 : wr.cell? ⟨w.heap.size + 1, 1, none⟩ = some (.slice none 0 0) := r.cell 1
                  have r2 : wr.cell? ⟨w.heap.size + 1, 2, none⟩ = some (.slice none 0 0) := r.cell 2
                  have q0 := r.frozen 0
                  have q1 := r.frozen 1
                  have q2 := r.frozen 2
                  have HR := hide r; clear r
                  go_wp2_with fail
                  refine bodyPost_ret (v := .agg #[.string nm, .slice (some ⟨gh, 0, none⟩) hd.length hd.length, .slice Bc mc dc]) (by simp [results, Try.results18, go_sem, r0, r1, r2]) rfl ?_
                  have hXW := (HE.out.trans (HX4.out.trans HIe.out.ext))
                  have hC := PInv.done (W0 := w) (q := ⟨nm, hd, as_⟩) HIe.out (HE.out.trans HX4.out).size HMC.out HPS.out HPW.out HGE.out HGH.out
                  exact ⟨_, rfl, hC.set3 HR.out _ _ _, hXW.set3 (Nat.le_succ _) _ _ _⟩
end Go.Proofs.Ytpfjkjmimmklcaa
