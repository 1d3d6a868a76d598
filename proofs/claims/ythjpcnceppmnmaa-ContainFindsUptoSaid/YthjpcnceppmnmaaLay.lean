/-
  The laying itself: a function that calls itself.
-/
import Derived.Test.YthjpcnceppmnmaaLayP
namespace Go.Proofs.Ythjpcnceppmnmaa
open Go.RowKit

set_option maxHeartbeats 8000000 in
set_option maxRecDepth 100000 in
theorem lay_any (W0 : World) (f t : Qy) (LF LT : QLoc) (gF gT gM gI gL g base : Nat) (hqf : QAt W0 LF f) (hqt : QAt W0 LT t) (hMf : smallM 1048576 f) (h6 : f.atoms.length ≤ 6) (h6t : t.atoms.length ≤ 6) (h5 : ∀ a ∈ f.atoms, a.terms.length ≤ 5)
    (hg : W0.heap.size ≤ g) (hgI : W0.heap.size ≤ gI) (hbase : W0.heap.size ≤ base) :
    ∀ (r i : Nat) (x : Int) (k : Nat) (σ : Env) (im : List Nat) (A : Option Addr) (c : Nat) (w : World), i + r = f.atoms.length → x = (i : Int) → im.length = i → LSt W0 w f t LF LT gF gT gM gI gL g → base ≤ w.heap.size → IAt w gI base A c im → MapT w g k σ → k + Kb r ≤ 1073741824 →
    Calls Try.prog 37 #[.int .i64 x, .pointer (some ⟨gF, 0, none⟩), .pointer (some ⟨gT, 0, none⟩), .pointer (some ⟨gM, 0, none⟩), .pointer (some ⟨gI, 0, none⟩), .pointer (some ⟨gL, 0, none⟩)] w (LPost W0 w g gI base A (layP t.atoms (f.atoms.drop i) σ) (k + Kb r) σ im) := by
  obtain ⟨ii, hii, hiz0, hiz1, hiz2⟩ := info_parts infoI2
  have hml : LF.m ≤ 6 := by have := hqf.atoms.len; omega
  have hnl : LT.m ≤ 6 := by have := hqt.atoms.len; omega
  have HQF := hide hqf; have HQT := hide hqt; have HMF := hide hMf; have H5 := hide h5
  have hfl := hide hqf.atoms.len; have htl := hide hqt.atoms.len
  clear hqf hqt hMf h5
  intro r
  induction r with
  | zero =>
    intro i x k σ im A c w hir hx him hL hbw hI hm hkb
    have f2 : w.cell? ⟨gF, 2, none⟩ = some (.slice LF.B LF.m LF.d) := hL.bF.cell 2
    have hfin : LF.m = i := by have := hfl.out; omega
    have hr : layP t.atoms (f.atoms.drop i) σ = some [] := by rw [List.drop_of_length_le (by omega)]; rfl
    rw [hr]
    have HL := hide hL; have HI := hide hI; have HM := hide hm
    obtain ⟨fA, fn, fc, fB, fm, fd⟩ := LF
    dsimp only at *
    subst hfin
    subst hx
    clear hr hI hm hL hir him hkb
    go_enter Try.func37, Try.ntmps37
    go_wp2_with fail
    go_ret
    refine ⟨A, c, rfl, ExtS.refl _ _, From.refl HI.out.own _, ?_⟩
    · show IAt _ _ _ _ _ (im ++ [])
      rw [List.append_nil]; exact HI.out
  | succ r ih =>
    intro i x k σ im A c w hir hx him hL hbw hI hm hkb
    have hil : i < LF.m := by have := hfl.out; omega
    have hal : i < f.atoms.length := by omega
    obtain ⟨fA, fn, fc, fB, fm, fd⟩ := LF
    obtain ⟨tA, tn, tc, tB, tm, td⟩ := LT
    dsimp only at *
    obtain ⟨b, off, a, B1, m1, d1, rfl, hxa, hb1, C0, C1, hT⟩ := HQF.out.atoms.at_ hil
    have hm1 : m1 ≤ 5 := by have := H5.out a (List.mem_of_getElem? hxa); have := hT.len; omega
    have hdrop : f.atoms.drop i = a :: f.atoms.drop (i + 1) := by
      obtain ⟨h1, e1⟩ := List.getElem?_eq_some_iff.1 hxa
      rw [List.drop_eq_getElem_cons h1, e1]
    rw [hdrop, layP_cons]
    have HSA := hide (HMF.out.atoms a (List.mem_of_getElem? hxa))
    have ih' := hide (fun σ' im' A' c' w' k' => ih (i + 1) ((i : Int) + 1) k' σ' im' A' c' w' (by omega) (by omega))
    have hkk : k + 8 * (8 + Kb r) ≤ 1073741824 := by simpa [Kb] using hkb
    have him2 := hide him
    have HC0 := hide C0; have HC1 := hide C1; have HT := hide hT
    have HL := hide hL; have HI := hide hI; have HM := hide hm
    have f2 : w.cell? ⟨gF, 2, none⟩ = some (.slice (some ⟨b, off, none⟩) fm fd) := hL.bF.cell 2
    have t2 : w.cell? ⟨gT, 2, none⟩ = some (.slice tB tm td) := hL.bT.cell 2
    have hne : ((i : Int) == (fm : Int)) = false := by simp; omega
    have hnS : ∀ (w' : World) (A' : Option Addr) (c' k' : Nat) (σ' : Env), LSt W0 w' f t ⟨fA, fn, fc, some ⟨b, off, none⟩, fm, fd⟩ ⟨tA, tn, tc, tB, tm, td⟩ gF gT gM gI gL g → IAt w' gI base A' c' im → MapT w' g k' σ' → ¬ SL g gI A' gF ∧ ¬ SL g gI A' gT ∧ ¬ SL g gI A' gM ∧ ¬ SL g gI A' gL := fun w' A' c' k' σ' h1 h2 h3 =>
      ⟨SL.not h1.bF h3 h2.var h2.own (by decide) (by decide), SL.not h1.bT h3 h2.var h2.own (by decide) (by decide), SL.not h1.bM h3 h2.var h2.own (by decide) (by decide), SL.not h1.bL h3 h2.var h2.own (by decide) (by decide)⟩
    have HnS := hide hnS
    subst hx
    generalize hrest : f.atoms.drop (i + 1) = rest at *
    clear hL hI hm him ih hxa hT C0 C1 hdrop hrest hnS hkb
    go_enter Try.func37, Try.ntmps37
    go_wp2_with fail
    go_loopw [22] (fun s22 w' => ∃ (j : Nat) (A' : Option Addr) (c' : Nat), j ≤ tm ∧ s22 = .int .i64 j ∧ Hid (layFrom t.atoms a rest σ 0 = layFrom t.atoms a rest σ j) ∧ Hid (LSt W0 w' f t ⟨fA, fn, fc, some ⟨b, off, none⟩, fm, fd⟩ ⟨tA, tn, tc, tB, tm, td⟩ gF gT gM gI gL g) ∧ Hid (IAt w' gI base A' c' im) ∧ Hid (MapT w' g (k + j * (8 + Kb r)) σ) ∧ Hid (ExtS (SL g gI A) w w') ∧ Hid (From A w A'))
      (fun s22 _ => tm - (intOf s22).toNat)
    case atStart =>
      exact ⟨0, A, c, by omega, rfl, rfl, HL.out, HI.out, by rw [Nat.zero_mul, Nat.add_zero]; exact HM.out, ExtS.refl _ _, From.refl HI.out.own _⟩
    case round =>
      obtain ⟨j, A', c', hjm, rfl, hlf, hL, hI, hM, hX, hA⟩ := hrel
      by_cases hj : j < tm
      · obtain ⟨b2, off2, tb, B2, m2, d2, rfl, hxb, hb2, E0, E1, hT2⟩ := HQT.out.atoms.at_ hj
        have hstep := hide (layFrom_step (a := a) (rest := rest) (σ := σ) hxb)
        have hback := hide (uponP_back σ a tb)
        have hfr := uponP_fr σ a tb
        have hterm := hide HT.out.len
        have e0 := hL.out.ext.cell E0
        have e1 := hL.out.ext.cell E1
        have c0 := hL.out.ext.cell HC0.out
        have c1 := hL.out.ext.cell HC1.out
        have f2 : wr.cell? ⟨gF, 2, none⟩ = some (.slice (some ⟨b, off, none⟩) fm fd) := hL.out.bF.cell 2
        have mp : wr.cell? ⟨gM, 0, none⟩ = some (.map (some g)) := hL.out.bM.cell 0
        have HT2 := hide hT2
        clear hxb hT2 E0 E1
        have HUP := hide (fun w1 (h1 : Ext wr w1) => upon_any a tb σ g (k + j * (8 + Kb r)) B1 B2 m1 m2 d1 d2 w1 (HT.out.ext RT.stab (hL.out.ext.trans h1)) (HT2.out.ext RT.stab (hL.out.ext.trans h1)) (MapS.ext hM.out h1) HSA.out (by
          have : j * (8 + Kb r) ≤ 8 * (8 + Kb r) := Nat.mul_le_mul_right _ (by omega)
          omega))
        go_wp2_with fail
        have W1e := Ext.alloc wr (.cells #[.string tb.rel, .slice B2 m2 d2] 43)
        have x0 := cell_ext (CellsAt.new wr [.string tb.rel, .slice B2 m2 d2] 43 (0, 0) 0 _ rfl)
        have x1 := cell_ext (CellsAt.new wr [.string tb.rel, .slice B2 m2 d2] 43 (0, 0) 1 _ rfl)
        have f2 := cell_ext (W1e.cell f2)
        have mp := cell_ext (W1e.cell mp)
        have c0 := cell_ext (W1e.cell c0)
        have c1 := cell_ext (W1e.cell c1)
        have HW1e := hide W1e; clear W1e
        refine wp_region_two 7 _ (by kernel_rfl) (by kernel_rfl) rfl (by kernel_rfl) ?_
        iterate 7
          refine wpE_k (by kernel_rfl) (by kernel_rfl) ?_
          apply Exists.intro
          refine ⟨fun w1 hw1 => ?_, fun K hK => ?_⟩
          · go_simp; first | done | rfl
          go_simp; refine hK _ _ ?_; clear hK K
        refine wpE_nil ⟨rfl, by kernel_rfl, fun w1 hw1 => ?_⟩
        simp only [EndQ]
        clear x0 x1 f2 mp c0 c1 e0 e1
        have HX1 := hide (HW1e.out.trans hw1); clear hw1
        go_wp2_with ((with_reducible refine (HUP.out w1 HX1.out).mono ?_); intro e w2 hR; obtain ⟨A2, c2, rfl, hO2, hm2, hx2⟩ := hR)
        have HO2 := hide hO2; have HM2 := hide hm2; have HX2 := hide hx2
        clear hO2 hm2 hx2 HUP
        generalize uponP σ a tb = u at *
        obtain ⟨σ2, fr, ok⟩ := u
        dsimp only at *
        have HFR := hide hfr.2
        have hfl2 : fr.length ≤ 5 := by have := hterm.out; have := hfr.1; omega
        clear hfr
        refine ⟨rfl, ?_⟩
        simp only [List.drop]
        iterate 5
          refine wpE_k (by kernel_rfl) (by kernel_rfl) ?_
          apply Exists.intro
          refine ⟨fun w1 hw1 => ?_, fun K hK => ?_⟩
          · go_simp; first | done | rfl
          go_simp; refine hK _ _ ?_; clear hK K
        refine wpE_nil ⟨rfl, by kernel_rfl, fun wq hwq => ?_⟩
        simp only [EndQ]
        have hkj : j * (8 + Kb r) + (8 + Kb r) ≤ 8 * (8 + Kb r) := by
          have : (j + 1) * (8 + Kb r) ≤ 8 * (8 + Kb r) := Nat.mul_le_mul_right _ (by omega)
          rw [Nat.add_mul, Nat.one_mul] at this; exact this
        have xq : ExtS (SL g gI A') wr wq := (((ExtS.refl _ _).ext HX1.out).grown HX2.out (fun k hk _ => by cases hk; exact .inl rfl)).ext hwq
        have nS := HnS.out wr A' c' _ σ hL.out hI.out hM.out
        have Lq := hide (hL.out.go xq (SL.new hg hgI hbase hI.out.own) nS.1 nS.2.1 nS.2.2.1 nS.2.2.2)
        have hgne : gI ≠ g := fun e => hM.out.ne_blk hI.out.var e.symm
        have Iq := hide (show IAt wq gI base A' c' im from ⟨((HX2.out).blk (hI.out.var.ext HX1.out) hgne).ext hwq, own_ext (HX2.out.own (own_ext hI.out.own HX1.out) ((MapS.ext hM.out HX1.out).ne_own (own_ext hI.out.own HX1.out))) hwq⟩)
        have Mq := hide (show MapT wq g (k + j * (8 + Kb r) + m1) σ2 from MapS.ext HM2.out hwq)
        have Oq := hide (HO2.out.ext hwq)
        have Xq := hide (show ExtS (SL g gI A) w wq from hX.out.trans xq (fun k hk hs => SL.from_ hA.out hk hs))
        have Sq := hide xq.size
        clear xq nS hwq
        cases ok with
        | false =>
          have Hfin := hide (show layFrom t.atoms a rest σ j = layFrom t.atoms a rest σ (j + 1) by rw [hstep.out]; rfl)
          obtain ⟨wz, Hwz⟩ : ∃ wz, Hid (wz = wq) := ⟨_, rfl⟩
          obtain rfl := Hwz.out
          obtain ⟨kz, Hkz⟩ : ∃ kz, Hid (kz = k + j * (8 + Kb r) + m1) := ⟨_, rfl⟩
          have hkz : kz ≤ k + j * (8 + Kb r) + (8 + Kb r) := by rw [Hkz.out]; omega
          rw [← Hkz.out] at Mq
          have Lz := Lq; have Iz := Iq; have Mz := Mq; have Xz := Xq; have Az := hA
          have Oz := hide (show LAt RS 1 wz A2 fr.length fr from Oq.out.lat)
          obtain ⟨A5, HA5⟩ : ∃ A5, Hid (A5 = A') := ⟨_, rfl⟩
          obtain rfl := HA5.out
          obtain ⟨c5, Hc5⟩ : ∃ c5, Hid (c5 = c') := ⟨_, rfl⟩
          obtain rfl := Hc5.out
          go_wp2_with fail
          go_loopw [13, 52] (fun _ s52 w' => ∃ p : Nat, p ≤ fr.length ∧ s52 = .int .i64 p ∧ Hid (MapT w' g kz (σ2.dels (fr.take p))) ∧ Hid (ExtM g wz w')) (fun _ s52 _ => fr.length - (intOf s52).toNat)
          case atStart => exact ⟨0, by omega, rfl, Mz.out, ExtM.refl _ _⟩
          case round =>
            obtain ⟨p, hpn, rfl, hMp, hXp⟩ := hrel
            have hnrz := MapS.noRow Mz.out
            by_cases hp : p < fr.length
            · obtain ⟨b3, off3, v, rfl, hxv, hb3, v0⟩ := (hXp.out.strs hnrz Oz.out).str hp
              have hds := hide (dels_snoc σ2 fr p v hxv)
              have hvs : v.size ≤ maxLen := by
                obtain ⟨t', ht', e⟩ := HFR.out v (List.mem_of_getElem? hxv)
                have := (HSA.out.terms t' ht').1
                rw [e] at this
                unfold maxLen; omega
              have mz : wr.cell? ⟨gM, 0, none⟩ = some (.map (some g)) := (hXp.out.blk Lz.out.bM (fun e => Mz.out.ne_blk Lz.out.bM e.symm)).cell 0
              clear hxv
              go_wp2_with (at_delete; refine wpList_smap_del rfl (.tmp 56) (.tmp 57) _ 76 rfl Try.underlying71 g _ (valS (σ2.dels (fr.take p))) rfl hMp.out v rfl hvs ?_; intro w6 hm6 ht6)
              go_roundw
              case rel => exact ⟨p + 1, by omega, by go_num, by rw [Hid, hds.out, MapT, valS_del]; exact hm6.out, hXp.out.trans (.turned ht6.out)⟩
              case measure => simp [intOf]; omega
            · have efr : fr.take p = fr := List.take_of_length_le (by omega)
              have hM9 := hide (show MapT wr g (k + (j + 1) * (8 + Kb r)) σ by
                have := hMp.out
                rw [efr, hback.out] at this
                exact MapS.mono this (by rw [Nat.add_mul, Nat.one_mul]; omega))
              have nSz := HnS.out wz A5 c5 kz σ2 Lz.out Iz.out Mz.out
              have xg : ExtS (fun k => k = g) wz wr := (ExtS.refl _ _).grown hXp.out (fun k hk _ => by cases hk; rfl)
              have hL9 := hide (Lz.out.go xg (fun j hj => by omega) (fun e => nSz.1 (.inl e)) (fun e => nSz.2.1 (.inl e)) (fun e => nSz.2.2.1 (.inl e)) (fun e => nSz.2.2.2 (.inl e)))
              have hI9 := hide (show IAt wr gI base A5 c5 im from ⟨hXp.out.blk Iz.out.var hgne, hXp.out.own Iz.out.own (Mz.out.ne_own Iz.out.own)⟩)
              have hX9 := hide (show ExtS (SL g gI A) w wr from Xz.out.trans xg (fun k _ hk => .inl hk))
              go_wp2_with fail
              go_roundw
              case rel => exact ⟨j + 1, A5, c5, by omega, by go_num, hlf.out.trans Hfin.out, hL9.out, hI9.out, hM9.out, hX9.out, Az.out⟩
              case measure => simp [intOf]; omega
        | true =>
          have hgl : gL ≠ gI := blk_ne Lq.out.bL Iq.out.var (by decide)
          have i0 : wq.cell? ⟨gI, 0, none⟩ = some (.slice A' im.length c') := Iq.out.var.cell 0
          have l0 : wq.cell? ⟨gL, 0, none⟩ = some (.func (.func 37) #[] #[.pointer (some ⟨gF, 0, none⟩), .pointer (some ⟨gT, 0, none⟩), .pointer (some ⟨gM, 0, none⟩), .pointer (some ⟨gI, 0, none⟩), .pointer (some ⟨gL, 0, none⟩)]) := Lq.out.bL.cell 0
          have hbq : base ≤ wq.heap.size := by have := Xq.out.size; omega
          have hi6 : im.length + 1 ≤ 7 := by have := him2.out; omega
          have hgIq : gI < wq.heap.size := Iq.out.var.lt
          have hgLq : gL < wq.heap.size := Lq.out.bL.lt
          go_wp2_with (at_builtin
                       refine wpList_append_m rfl (.tmp 39) (.tmp 41) _ rfl 3 ii _ 1 8 Try.underlying27 hii hiz0 hiz1 hiz2 rfl (by omega) base (by simp; omega) (.slice A' im.length c') im.length (intC im) rfl (Iq.out.own.alloc _) _ 1 1 [.int .i64 (j : Int)] rfl (sl_lit wq [.int .i64 (j : Int)] 3 1 1 rfl) (fun v h => by obtain rfl := List.mem_singleton.1 h; rfl) (by unfold maxLen; omega) (by omega) ?_
                       intro A8 c8 w8 own8 G8 L8
                       have ow := Iq.out.own.alloc (.cells #[.int .i64 (j : Int)] 3)
                       have vI := (Iq.out.var.ext (Ext.alloc wq (.cells #[.int .i64 (j : Int)] 3))).grown G8.out (own_ne_blk ow (Iq.out.var.ext (Ext.alloc wq (.cells #[.int .i64 (j : Int)] 3))) (by decide))
                       have vL := (Lq.out.bL.ext (Ext.alloc wq (.cells #[.int .i64 (j : Int)] 3))).grown G8.out (own_ne_blk ow (Lq.out.bL.ext (Ext.alloc wq (.cells #[.int .i64 (j : Int)] 3))) (by decide))
                       have i8 : w8.cell? ⟨gI, 0, none⟩ = some (.slice A' im.length c') := vI.cell 0
                       have f8 := vI.frozen 0
                       have l8 : w8.cell? ⟨gL, 0, none⟩ = some (.func (.func 37) #[] #[.pointer (some ⟨gF, 0, none⟩), .pointer (some ⟨gT, 0, none⟩), .pointer (some ⟨gM, 0, none⟩), .pointer (some ⟨gI, 0, none⟩), .pointer (some ⟨gL, 0, none⟩)]) := vL.cell 0
                       have OW := hide ow; have VI := hide vI
                       clear ow vI vL)
          have Xa : ExtS (SL g gI A') wq (w8.setCell ⟨gI, 0, none⟩ (.slice A8 (im.length + 1) c8)) := ExtS.set (S := SL g gI A') (((ExtS.refl (SL g gI A') wq).ext (Ext.alloc wq _)).grown G8.out (fun k hk _ => SL.own hk)) (p := ⟨gI, 0, none⟩) (.inr (.inl rfl)) _
          have nSq := HnS.out wq A' c' _ σ2 Lq.out Iq.out Mq.out
          have L9 := hide (Lq.out.go Xa (SL.new hg hgI hbase Iq.out.own) nSq.1 nSq.2.1 nSq.2.2.1 nSq.2.2.2)
          have I9 := hide (show IAt (w8.setCell ⟨gI, 0, none⟩ (.slice A8 (im.length + 1) c8)) gI base A8 c8 (im ++ [j]) from by
            refine ⟨?_, ?_⟩
            · have := VI.out.set_ 0 (.slice A8 (im.length + 1) c8)
              simpa using this
            · have := own_set own8.out VI.out (by decide) 0 (.slice A8 (im.length + 1) c8)
              rw [intC_snoc, List.length_append]
              exact this)
          have M9 := hide (show MapT (w8.setCell ⟨gI, 0, none⟩ (.slice A8 (im.length + 1) c8)) g (k + j * (8 + Kb r) + m1) σ2 from MapS.setCell (MapS.grown (MapS.ext Mq.out (Ext.alloc wq _)) OW.out G8.out) (p := ⟨gI, 0, none⟩) (Ne.symm hgne) _)
          have F8 := hide ((From.refl Iq.out.own wq).trans (Ext.alloc wq _).size (From.grown OW.out L8.out))
          have XA := hide Xa
          have hb9 : base ≤ (w8.setCell ⟨gI, 0, none⟩ (.slice A8 (im.length + 1) c8)).heap.size := by have := Xa.size; omega
          clear Xa nSq i8 f8 l8 i0 l0
          refine (ih'.out σ2 (im ++ [j]) A8 c8 _ (k + j * (8 + Kb r) + m1) (by rw [List.length_append, him2.out]; rfl) L9.out hb9 I9.out M9.out (by omega)).mono ?_
          generalize hw9 : w8.setCell ⟨gI, 0, none⟩ (.slice A8 (im.length + 1) c8) = w9 at *
          clear hw9
          rintro e w10 ⟨A9, c9, rfl, X10, F10, P10⟩
          have HX10 := hide (show ExtS (SL g gI A) w w10 from (Xq.out.trans XA.out (fun k hk hs => SL.from_ hA.out hk hs)).trans X10 (fun k hk hs => SL.from_ (hA.out.trans Xq.out.size F8.out) hk hs))
          have HF10 := hide (show From A w A9 from (hA.out.trans Xq.out.size F8.out).trans (Nat.le_trans Xq.out.size XA.out.size) F10)
          cases hr : layP t.atoms rest σ2 with
          | some l =>
            have Hfin := hide (show layFrom t.atoms a rest σ 0 = some (j :: l) by rw [hlf.out, hstep.out, hr]; rfl)
            rw [hr] at P10
            have HP := hide P10
            clear P10 X10 F10 hr
            go_wp2_with fail
            go_ret
            rw [Hfin.out]
            refine ⟨A9, c9, rfl, HX10.out, HF10.out, ?_⟩
            have := HP.out
            simp only [List.append_assoc, List.cons_append, List.nil_append] at this
            exact this
          | none =>
            have Hfin := hide (show layFrom t.atoms a rest σ j = layFrom t.atoms a rest σ (j + 1) by rw [hstep.out, hr]; rfl)
            rw [hr] at P10
            obtain ⟨P10, M10⟩ := P10
            have nS9 := HnS.out wq A' c' _ σ2 Lq.out Iq.out Mq.out
            have n9 : ¬ SL g gI A8 gF ∧ ¬ SL g gI A8 gT ∧ ¬ SL g gI A8 gM ∧ ¬ SL g gI A8 gL :=
              ⟨SL.not L9.out.bF M9.out I9.out.var I9.out.own (by decide) (by decide), SL.not L9.out.bT M9.out I9.out.var I9.out.own (by decide) (by decide), SL.not L9.out.bM M9.out I9.out.var I9.out.own (by decide) (by decide), SL.not L9.out.bL M9.out I9.out.var I9.out.own (by decide) (by decide)⟩
            have L10 := hide (L9.out.go X10 (SL.new hg hgI hbase I9.out.own) n9.1 n9.2.1 n9.2.2.1 n9.2.2.2)
            have HP10 := hide P10; have HM10 := hide M10
            have HO9 := hide (show OwnS w1 w9 A2 fr.length c2 fr from ⟨Oq.out.1, XA.out.own Oq.out.2 (fun k hk hs => by
              rcases hs with h | h | ⟨ad, h, h2⟩
              · exact Mq.out.ne_own Oq.out.2 (by rw [hk, h])
              · exact own_ne_blk Oq.out.2 Iq.out.var (by decide) (by rw [hk, h])
              · subst h
                exact own_own Oq.out.2 Iq.out.own (by decide) hk (by simp [Value.ownBlock, h2]))⟩)
            have HO10 := hide (show OwnS w1 w10 A2 fr.length c2 fr from ⟨HO9.out.1, X10.own HO9.out.2 (fun k hk hs => by
              rcases hs with h | h | ⟨ad, h, h2⟩
              · exact M9.out.ne_own HO9.out.2 (by rw [hk, h])
              · exact own_ne_blk HO9.out.2 I9.out.var (by decide) (by rw [hk, h])
              · subst h
                exact own_own HO9.out.2 I9.out.own (by decide) hk (by simp [Value.ownBlock, h2]))⟩)
            obtain ⟨ga, rfl⟩ : ∃ ga, A9 = some ⟨ga, 0, none⟩ := by
              rcases P10.own.2 with ⟨h1, h2⟩ | ⟨g', cap, cur, h1, _⟩
              · simp at h2
              · injection h1 with h1
                exact ⟨g', h1⟩
            have hc9 : im.length + 1 ≤ c9 := by
              rcases P10.own.2 with ⟨h1, h2⟩ | ⟨g', cap, cur, h1, _, _, hle, _⟩
              · simp at h2
              · injection h1 with _ _ h3
                subst h3
                simpa using hle
            have i10 : w10.cell? ⟨gI, 0, none⟩ = some (.slice (some ⟨ga, 0, none⟩) (im.length + 1) c9) := by
              have := P10.var.cell 0
              simpa using this
            have f10 := P10.var.frozen 0
            have hio : i ≤ im.length + 1 := by have := him2.out; omega
            have hic : i ≤ c9 := by have := him2.out; omega
            have hlen := him2.out
            clear P10 M10 X10 F10 nS9 n9 hr hlen
            go_wp2_with fail
            have Iz := hide (show IAt (w10.setCell ⟨gI, 0, none⟩ (.slice (some ⟨ga, 0, none⟩) i c9)) gI base (some ⟨ga, 0, none⟩) c9 im from by
              have hv := HP10.out.var.set_ 0 (.slice (some ⟨ga, 0, none⟩) i c9)
              refine ⟨?_, ?_⟩
              · rw [him2.out]; simpa using hv
              · have h1 := own_take HP10.out.own i (by rw [List.length_append, him2.out]; simp)
                have h2 : (intC (im ++ [j])).take i = intC im := by rw [intC_snoc, ← him2.out, ← intC_len im]; simp
                rw [h2] at h1
                rw [him2.out]
                exact own_set h1 HP10.out.var (by decide) 0 _)
            have Mz := hide (show MapT (w10.setCell ⟨gI, 0, none⟩ (.slice (some ⟨ga, 0, none⟩) i c9)) g (k + j * (8 + Kb r) + m1 + Kb r) σ2 from MapS.setCell HM10.out (p := ⟨gI, 0, none⟩) (Ne.symm hgne) _)
            have x11 : ExtS (fun k => k = gI) w10 (w10.setCell ⟨gI, 0, none⟩ (.slice (some ⟨ga, 0, none⟩) i c9)) := ExtS.set (S := fun k => k = gI) (ExtS.refl _ w10) (p := ⟨gI, 0, none⟩) rfl _
            have Lz := hide (L10.out.go x11 (fun j hj => by omega) (blk_ne L10.out.bF HP10.out.var (by decide)) (blk_ne L10.out.bT HP10.out.var (by decide)) (blk_ne L10.out.bM HP10.out.var (by decide)) (blk_ne L10.out.bL HP10.out.var (by decide)))
            have Xz := hide (HX10.out.set (p := ⟨gI, 0, none⟩) (.inr (.inl rfl)) (.slice (some ⟨ga, 0, none⟩) i c9))
            have Az := HF10
            have Oz := hide (show LAt RS 1 (w10.setCell ⟨gI, 0, none⟩ (.slice (some ⟨ga, 0, none⟩) i c9)) A2 fr.length fr from (show OwnS w1 _ A2 fr.length c2 fr from ⟨HO10.out.1, own_set HO10.out.2 HP10.out.var (by decide) 0 _⟩).lat)
            clear x11 i10 f10
            generalize hwz : w10.setCell ⟨gI, 0, none⟩ (.slice (some ⟨ga, 0, none⟩) i c9) = wz at *
            obtain ⟨kz, Hkz⟩ : ∃ kz, Hid (kz = k + j * (8 + Kb r) + m1 + Kb r) := ⟨_, rfl⟩
            have hkz : kz ≤ k + j * (8 + Kb r) + (8 + Kb r) := by rw [Hkz.out]; omega
            rw [← Hkz.out] at Mz
            obtain ⟨A5, HA5⟩ : ∃ A5 : Option Addr, Hid (A5 = some ⟨ga, 0, none⟩) := ⟨_, rfl⟩
            rw [← HA5.out] at Iz Az
            obtain ⟨c5, Hc5⟩ : ∃ c5, Hid (c5 = c9) := ⟨_, rfl⟩
            rw [← Hc5.out] at Iz
            clear hwz
            go_loopw [13, 52] (fun _ s52 w' => ∃ p : Nat, p ≤ fr.length ∧ s52 = .int .i64 p ∧ Hid (MapT w' g kz (σ2.dels (fr.take p))) ∧ Hid (ExtM g wz w')) (fun _ s52 _ => fr.length - (intOf s52).toNat)
            case atStart => exact ⟨0, by omega, rfl, Mz.out, ExtM.refl _ _⟩
            case round =>
              obtain ⟨p, hpn, rfl, hMp, hXp⟩ := hrel
              have hnrz := MapS.noRow Mz.out
              by_cases hp : p < fr.length
              · obtain ⟨b3, off3, v, rfl, hxv, hb3, v0⟩ := (hXp.out.strs hnrz Oz.out).str hp
                have hds := hide (dels_snoc σ2 fr p v hxv)
                have hvs : v.size ≤ maxLen := by
                  obtain ⟨t', ht', e⟩ := HFR.out v (List.mem_of_getElem? hxv)
                  have := (HSA.out.terms t' ht').1
                  rw [e] at this
                  unfold maxLen; omega
                have mz : wr.cell? ⟨gM, 0, none⟩ = some (.map (some g)) := (hXp.out.blk Lz.out.bM (fun e => Mz.out.ne_blk Lz.out.bM e.symm)).cell 0
                clear hxv
                go_wp2_with (at_delete; refine wpList_smap_del rfl (.tmp 56) (.tmp 57) _ 76 rfl Try.underlying71 g _ (valS (σ2.dels (fr.take p))) rfl hMp.out v rfl hvs ?_; intro w6 hm6 ht6)
                go_roundw
                case rel => exact ⟨p + 1, by omega, by go_num, by rw [Hid, hds.out, MapT, valS_del]; exact hm6.out, hXp.out.trans (.turned ht6.out)⟩
                case measure => simp [intOf]; omega
              · have efr : fr.take p = fr := List.take_of_length_le (by omega)
                have hM9 := hide (show MapT wr g (k + (j + 1) * (8 + Kb r)) σ by
                  have := hMp.out
                  rw [efr, hback.out] at this
                  exact MapS.mono this (by rw [Nat.add_mul, Nat.one_mul]; omega))
                have nSz := HnS.out wz A5 c5 kz σ2 Lz.out Iz.out Mz.out
                have xg : ExtS (fun k => k = g) wz wr := (ExtS.refl _ _).grown hXp.out (fun k hk _ => by cases hk; rfl)
                have hL9 := hide (Lz.out.go xg (fun j hj => by omega) (fun e => nSz.1 (.inl e)) (fun e => nSz.2.1 (.inl e)) (fun e => nSz.2.2.1 (.inl e)) (fun e => nSz.2.2.2 (.inl e)))
                have hI9 := hide (show IAt wr gI base A5 c5 im from ⟨hXp.out.blk Iz.out.var hgne, hXp.out.own Iz.out.own (Mz.out.ne_own Iz.out.own)⟩)
                have hX9 := hide (show ExtS (SL g gI A) w wr from Xz.out.trans xg (fun k _ hk => .inl hk))
                go_wp2_with fail
                go_roundw
                case rel => exact ⟨j + 1, A5, c5, by omega, by go_num, hlf.out.trans Hfin.out, hL9.out, hI9.out, hM9.out, hX9.out, Az.out⟩
                case measure => simp [intOf]; omega
      · have hend := hide (show layFrom t.atoms a rest σ j = none from layFrom_end (by have := htl.out; omega))
        go_wp2_with fail
        go_ret
        have e := hlf.out.trans hend.out
        rw [e]
        refine ⟨A', c', rfl, hX.out, hA.out, hI.out, MapS.mono hM.out ?_⟩
        have : j * (8 + Kb r) ≤ 8 * (8 + Kb r) := Nat.mul_le_mul_right _ (by omega)
        simp only [Kb]; omega
end Go.Proofs.Ythjpcnceppmnmaa
