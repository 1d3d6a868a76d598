/-
  The document's Freeze: the walk.
-/
import Derived.Test.YthjpcnceppmnmaaFrzW
namespace Go.Proofs.Ythjpcnceppmnmaa
open Go.RowKit

/-- one table more -/
theorem FInv.pushT {W w w' : World} {A A' : Option Addr} {n c c' : Nat} {ps : List Pt} {p : Pt} (h : FInv W w A n c ps) (hp : PtOk W.heap.size w p) (hap : ∀ q ∈ ps, Apart q.A p.A) (hg : w.grownBy w' (Value.slice A n c).ownBlock) (hw : Ext W w')
    (ho : w'.ownsRow W.heap.size 96 2 (.slice A' (n + 1) c') (n + 1) (ps.flatMap Pt.cs ++ p.cs)) : FInv W w' A' (n + 1) c' (ps ++ [p]) := by
  refine ⟨by rw [List.length_append, ← h.len]; rfl, by rw [List.flatMap_append]; simpa using ho, fun q hq => ?_, ?_, hw⟩
  · rcases List.mem_append.1 hq with hq | hq
    · exact (h.rows q hq).other h.own (by decide) (by decide) hg
    · obtain rfl := List.mem_singleton.1 hq
      exact hp.other h.own (by decide) (by decide) hg
  · rw [List.pairwise_append]
    refine ⟨h.apart, List.pairwise_singleton _ _, fun p' hp' q hq => ?_⟩
    obtain rfl := List.mem_singleton.1 hq
    exact hap p' hp'
theorem PtOk.base {b b' : Nat} {w : World} {p : Pt} (h : PtOk b' w p) (hb : b ≤ b') : PtOk b w p := ⟨own_base h.own hb, h.els.mono fun _ _ hr => hr.base hb⟩
theorem els_mono_base {b b' : Nat} {w : World} {cells : List Value} {rows : List (List V)} (h : Els (ROwn b') 1 w cells rows) (hb : b ≤ b') : Els (ROwn b) 1 w cells rows := h.mono fun _ _ hr => hr.base hb

set_option maxHeartbeats 4000000 in
set_option maxRecDepth 100000 in
theorem ref_freeze_bad (q : Qy) (L : QLoc) (w : World) (hq : QAt w L q) (hM : smallM 1048576 q) (hs : shapeQ q ≠ 0) :
    Calls Try.prog 28 #[qval q.name L] w (RetFrz w (frzR q)) := by
  rw [frz_bad hs]
  have HSH := hide (fun w1 (h1 : Ext w w1) => ref_shape q L w1 (hq.ext h1) hM)
  have hb : (shapeQ q != 0) = true := by simpa using hs
  generalize shapeQ q = sq at *
  clear hs
  obtain ⟨nm, hd, as_⟩ := q
  obtain ⟨A, n, c, B, m, d⟩ := L
  simp only [qval] at *
  have HE := hide (Ext.alloc w (.cells #[.string nm, .slice A n c, .slice B m d] 25))
  clear hq hM
  go_enter Try.func28, Try.ntmps28
  go_wp2_with ((with_reducible refine (HSH.out _ HE.out).mono ?_); rintro e w1 ⟨rfl, x1⟩; have X1 := hide (HE.out.trans x1); clear x1)
  go_ret3
  exact ⟨none, 0, 0, none, 0, 0, rfl, LAt.nil _, RowAt.nil _ _, X1.out⟩

set_option maxHeartbeats 16000000 in
set_option maxRecDepth 100000 in
theorem ref_freeze_ok (q : Qy) (L : QLoc) (w : World) (hq : QAt w L q) (hM : smallM 1048576 q) (hs : shapeQ q = 0) :
    Calls Try.prog 28 #[qval q.name L] w (RetFrz w (frzR q)) := by
  rw [frz_good hs]
  obtain ⟨i0, hi0, hz0, hz1, hz2⟩ := info_parts infoV
  obtain ⟨j0, hj0, hy0, hy1, hy2⟩ := info_parts infoB
  obtain ⟨kr0, hkr0, hx0, hx1, hx2⟩ := info_parts infoR
  have hS := shapeQ_iff.1 hs
  have h6 := hS.six
  have hmlen : L.m = q.atoms.length := hq.atoms.len
  have hm6 : L.m ≤ 6 := by omega
  have HSH := hide (fun w1 (h1 : Ext w w1) => ref_shape q L w1 (hq.ext h1) hM)
  rw [hs] at HSH
  have HVR := hide (fun w1 (h1 : Ext w w1) => ref_vars q L w1 (hq.ext h1) hM (by omega))
  have hvl := vars_len hS
  have HA5 := hide (fun a (ha : a ∈ q.atoms) => (hS.atoms a ha).2.1)
  have hhd : L.n ≤ 1048576 := by have := hM.headL; have := hq.head.len; omega
  clear hS hs h6
  generalize varsQ q = vs at *
  obtain ⟨nm, hd, as_⟩ := q
  obtain ⟨A, n, c, B, m, d⟩ := L
  simp only [qval] at *
  have hml := hide hmlen
  have hnl := hide (show n = hd.length from hq.head.len)
  have HQ := hide hq
  clear hq hM hmlen
  have HE := hide (Ext.alloc w (.cells #[.string nm, .slice A n c, .slice B m d] 25))
  have HB0 := hide (Blk.new w 25 #[.string nm, .slice A n c, .slice B m d])
  generalize hW2 : w.alloc (.cells #[.string nm, .slice A n c, .slice B m d] 25) = W2 at *
  have HW2 := hide hW2; clear hW2
  have a0 : W2.cell? ⟨w.heap.size, 0, none⟩ = some (.string nm) := HB0.out.cell 0
  have a1 : W2.cell? ⟨w.heap.size, 1, none⟩ = some (.slice A n c) := HB0.out.cell 1
  have a2 : W2.cell? ⟨w.heap.size, 2, none⟩ = some (.slice B m d) := HB0.out.cell 2
  go_enter Try.func28, Try.ntmps28
  go_upto_region 5 with (first
    | (rw [HW2.out]; (with_reducible refine (HSH.out _ HE.out).mono ?_); rintro e w1 ⟨rfl, x1⟩; have X1 := hide x1; clear x1 a0 a1 a2
       have a0 : w1.cell? ⟨w.heap.size, 0, none⟩ = some (.string nm) := (HB0.out.ext X1.out).cell 0
       have a1 : w1.cell? ⟨w.heap.size, 1, none⟩ = some (.slice A n c) := (HB0.out.ext X1.out).cell 1
       have a2 : w1.cell? ⟨w.heap.size, 2, none⟩ = some (.slice B m d) := (HB0.out.ext X1.out).cell 2)
    | ((with_reducible refine (HVR.out _ (HE.out.trans X1.out)).mono ?_); rintro e W4 ⟨Av, cv, rfl, hv, x3⟩; have X4 := hide (X1.out.trans x3); have HV4 := hide hv.lat; clear hv x3 a0 a1 a2))
  have HEW := hide (HE.out.trans X4.out)
  go_wp2_with fail
  go_loopw [7, 8] (fun s7 s8 w' => ∃ (i : Nat) (D : Option Addr) (nD cD : Nat) (ps : List Pt), i ≤ m ∧ s8 = .int .i64 i ∧ s7 = .slice D nD cD ∧ Hid (ps.map (·.t) = refT vs as_ i) ∧ Hid (FInv W4 w' D nD cD ps)) (fun _ s8 _ => m - (intOf s8).toNat)
  case atStart => exact ⟨0, none, 0, 0, [], by omega, rfl, rfl, rfl, FInv.nil _⟩
  case round =>
    obtain ⟨i, D, nD, cD, ps, him, rfl, rfl, hps, hI⟩ := hrel
    have a2 : wr.cell? ⟨w.heap.size, 2, none⟩ = some (.slice B m d) := (HB0.out.ext (X4.out.trans hI.out.ext)).cell 2
    by_cases h : i < m
    · obtain ⟨b, off, a, B1, m1, d1, rfl, hx, hb1, c0, c1, hT⟩ := HQ.out.atoms.at_ h
      have HEr := hide (HEW.out.trans hI.out.ext)
      have HQr := hide (HQ.out.atoms.ext RA.stab HEr.out)
      have HBQ := hide (HB0.out.ext (X4.out.trans hI.out.ext))
      have c0 := HEr.out.cell c0
      have c1 := HEr.out.cell c1
      have Hx := hide hx
      have hnD := hide (show nD ≤ 6 by have h1 := hI.out.len; have h2 := congrArg List.length hps.out; rw [List.length_map] at h2; have h3 := refT_len vs as_ i; omega)
      clear hx hb1 hT
      go_upto_region 11 with fail
      have HE5 := hide (Ext.alloc wr (.cells #[.string a.rel, .slice B1 m1 d1] 43))
      have HBa := hide (Blk.new wr 43 #[.string a.rel, .slice B1 m1 d1])
      generalize hW5 : wr.alloc (.cells #[.string a.rel, .slice B1 m1 d1] 43) = W5 at *
      clear hW5 c0 c1 a2
      go_wp2_with fail
      go_loopw [10, 11] (fun s10 s11 w' => ∃ j : Nat, j ≤ i ∧ s11 = .int .i64 j ∧ s10 = .bool (knownB as_ a.rel j) ∧ Hid (Ext W5 w')) (fun _ s11 _ => i - (intOf s11).toNat)
      case atStart => exact ⟨0, by omega, rfl, rfl, Ext.refl _⟩
      case round =>
        obtain ⟨j, hji, rfl, rfl, hXj⟩ := hrel
        rename World => wk
        by_cases hj : j < i
        · obtain ⟨b', off', a', B2, m2, d2, hB', hx', hb2, e0, e1, _⟩ := (HQr.out.ext RA.stab (HE5.out.trans hXj.out)).at_ (i := j) (by omega)
          injection hB' with hB'
          injection hB' with hb' ho'
          subst hb'; subst ho'
          have hst := hide (known_step (x := a.rel) hx')
          have a2 := cell_ext (show wk.cell? ⟨w.heap.size, 2, none⟩ = some (.slice (some ⟨b, off, none⟩) m d) from (HBQ.out.ext (HE5.out.trans hXj.out)).cell 2)
          have e0 := cell_ext e0
          have g0 := cell_ext (show wk.cell? ⟨wr.heap.size, 0, none⟩ = some (.string a.rel) from (HBa.out.ext hXj.out).cell 0)
          have hjm : j < m := by omega
          have ht := hide (toList_iff a'.rel a.rel)
          clear hx' hb2 e1
          cases hk : knownB as_ a.rel j with
          | true =>
            have Hk := hide hk; clear hk
            go_wp2_with fail
            refine wp_region_ext 13 (by kernel_rfl) (by kernel_rfl) (by kernel_rfl) ?_
            iterate 13
              refine wpE_k (by kernel_rfl) (by kernel_rfl) ?_
              apply Exists.intro
              refine ⟨fun w1 hw1 => ?_, fun K hK => ?_⟩
              · go_simp; first | done | rfl
              go_simp; refine hK _ _ ?_; clear hK K
            refine wpE_nil ⟨rfl, by kernel_rfl, fun wq hwq => ?_⟩
            simp only [EndQ]
            refine wpList_nil ?_
            clear a2 e0 g0
            have HXq := hide (hXj.out.trans hwq); clear hwq
            go_wp2_with fail
            go_roundw
            case rel => exact ⟨j + 1, by omega, by go_num, by rw [hst.out, Hk.out]; rfl, HXq.out⟩
            case measure => simp [intOf]; omega
          | false =>
            have Hk := hide hk; clear hk
            go_wp2_with fail
            refine wp_region_ext 13 (by kernel_rfl) (by kernel_rfl) (by kernel_rfl) ?_
            iterate 10
              refine wpE_k (by kernel_rfl) (by kernel_rfl) ?_
              apply Exists.intro
              refine ⟨fun w1 hw1 => ?_, fun K hK => ?_⟩
              · go_simp; first | done | rfl
              go_simp; refine hK _ _ ?_; clear hK K
            refine wpE_k (by kernel_rfl) (by kernel_rfl) ?_
            refine ⟨.bool (decide (a'.rel = a.rel)), fun w1 hw1 => ?_, fun K hK => ?_⟩
            · clear a2 e0 g0
              go_simp
              first | done | (by_cases hq : a'.rel = a.rel <;> simp [ht.out, hq])
            clear a2 e0 g0
            go_simp; refine hK _ _ ?_; clear hK K
            iterate 2
              refine wpE_k (by kernel_rfl) (by kernel_rfl) ?_
              apply Exists.intro
              refine ⟨fun w1 hw1 => ?_, fun K hK => ?_⟩
              · go_simp; first | done | rfl
              go_simp; refine hK _ _ ?_; clear hK K
            refine wpE_nil ⟨rfl, by kernel_rfl, fun wq hwq => ?_⟩
            simp only [EndQ]
            refine wpList_nil ?_
            have HXq := hide (hXj.out.trans hwq); clear hwq
            go_wp2_with fail
            go_roundw
            case rel => exact ⟨j + 1, by omega, by go_num, by rw [hst.out, Hk.out]; rfl, HXq.out⟩
            case measure => simp [intOf]; omega
        · obtain rfl : j = i := by omega
          have HXk := hide (HE5.out.trans hXj.out)
          have hX4x := hide hI.out.ext
          have HI4k := hide (show W4.heap.size ≤ wk.heap.size from (hI.out.ext.trans HXk.out).size)
          have HBk := hide (HBa.out.ext hXj.out)
          have HIk := hide (hI.out.go HXk.out)
          clear hI hXj
          cases hk : knownB as_ a.rel j with
          | true =>
            have hres := hide (refT_old (vs := vs) Hx.out hk)
            clear hk
            go_wp2_with fail
            go_roundw
            case rel => exact ⟨j + 1, D, nD, cD, ps, by omega, by go_num, rfl, by rw [Hid, hres.out]; exact hps.out, HIk.out⟩
            case measure => simp [intOf]; omega
          | false =>
            have hres := hide (refT_new (vs := vs) Hx.out hk)
            have hempty := hide (show rowsOf vs (as_.take j) a.rel = [] from rowsOf_new fun hm => by
              have := memB_iff.2 hm
              unfold knownB at hk
              rw [this] at hk
              cases hk)
            clear hk
            have g0 : wk.cell? ⟨wr.heap.size, 0, none⟩ = some (.string a.rel) := HBk.out.cell 0
            go_upto_region 17 with fail
            have HEt := hide (Ext.alloc wk (.cells #[.string a.rel, .slice none 0 0] 96))
            have HBt := hide (Blk.new wk 96 #[.string a.rel, .slice none 0 0])
            generalize hWt : wk.alloc (.cells #[.string a.rel, .slice none 0 0] 96) = Wt at *
            clear hWt g0
            have hszt := hide (show wk.heap.size < Wt.heap.size from HBt.out.lt)
            go_wp2_with fail
            go_loopw [13] (fun s13 w' => ∃ (p : Nat) (R : Option Addr) (cR : Nat) (cells : List Value), p ≤ m ∧ s13 = .int .i64 p ∧ Hid (Blk w' wk.heap.size 96 #[.string a.rel, .slice R (rowsOf vs (as_.take p) a.rel).length cR]) ∧ Hid (PtOk wk.heap.size w' ⟨⟨a.rel, rowsOf vs (as_.take p) a.rel⟩, R, cR, cells⟩) ∧ Hid (Ext wk w')) (fun s13 _ => m - (intOf s13).toNat)
            case atStart => exact ⟨j, none, 0, [], by omega, rfl, by rw [hempty.out]; exact HBt.out, by rw [hempty.out]; exact ⟨World.ownsRow_nil _ _ _ _, .nil⟩, HEt.out⟩
            case round =>
              obtain ⟨p, R, cR, cells, hpm, rfl, hBR, hOK, hXp⟩ := hrel
              rename World => wp_
              have HXw := hide (HXk.out.trans hXp.out)
              have a2 : wp_.cell? ⟨w.heap.size, 2, none⟩ = some (.slice (some ⟨b, off, none⟩) m d) := (HBQ.out.ext HXw.out).cell 2
              have hrl := hide (show (rowsOf vs (as_.take p) a.rel).length ≤ 6 by have h1 := rowsOf_len vs (as_.take p) a.rel; have h2 := List.length_take_le p as_; omega)
              have hrr := hide (show ∀ x ∈ rowsOf vs (as_.take p) a.rel, x.length ≤ 5 from fun x hx => by
                obtain ⟨a', ha', rfl⟩ := frz_rows x hx
                rw [show (iceR vs a').length = a'.terms.length by simp [iceR]]
                exact HA5.out a' (List.mem_of_mem_take ha'))
              by_cases hp : p < m
              · obtain ⟨b', off', a', B2, m2, d2, hB', hx', hb2, e0, e1, hT2⟩ := (HQr.out.ext RA.stab HXw.out).at_ (i := p) hp
                injection hB' with hB'
                injection hB' with hb' ho'
                subst hb'; subst ho'
                have g0 : wp_.cell? ⟨wr.heap.size, 0, none⟩ = some (.string a.rel) := (HBk.out.ext hXp.out).cell 0
                have Hx' := hide hx'
                have hm2 : m2 ≤ 5 := by have := HA5.out a' (List.mem_of_getElem? hx'); have := hT2.len; omega
                have hm2l := hide hT2.len
                have HT2 := hide hT2
                have ht := hide (toList_iff a'.rel a.rel)
                clear hx' hb2 hT2
                by_cases hrel : a'.rel = a.rel
                · have Hrel := hide hrel
                  clear hrel
                  go_wp2_with fail
                  have a2x := cell_ext a2
                  have e0x := cell_ext e0
                  have g0x := cell_ext g0
                  refine wp_region_ext 9 (by kernel_rfl) (by kernel_rfl) (by kernel_rfl) ?_
                  iterate 8
                    refine wpE_k (by kernel_rfl) (by kernel_rfl) ?_
                    apply Exists.intro
                    refine ⟨fun w1 hw1 => ?_, fun K hK => ?_⟩
                    · go_simp; first | done | rfl
                    go_simp; refine hK _ _ ?_; clear hK K
                  refine wpE_k (by kernel_rfl) (by kernel_rfl) ?_
                  refine ⟨.bool false, fun w1 hw1 => ?_, fun K hK => ?_⟩
                  · clear a2x e0x g0x a2 e0 g0
                    go_simp
                    first | done | simp [ht.out, Hrel.out]
                  clear a2x e0x g0x
                  go_simp; refine hK _ _ ?_; clear hK K
                  refine wpE_nil ⟨rfl, by kernel_rfl, fun wq hwq => ?_⟩
                  simp only [EndQ]
                  refine wpList_nil ?_
                  have Hwq := hide hwq; clear hwq
                  clear a2 e0 g0
                  go_upto_region 22 with fail
                  have HO0 := hide (show (wq.alloc (.cells #[] 74)).ownsRow wq.heap.size 74 3 (.slice (some ⟨wq.heap.size, 0, none⟩) 0 0) 0 (cellsR ((a'.terms.take 0).map (iceT vs))) from World.ownsRow_lit wq #[] 0 (Nat.le_refl _) (by unfold maxLen; omega) rfl)
                  have HE7 := hide (Ext.alloc wq (.cells #[] 74))
                  generalize hW7 : wq.alloc (.cells #[] 74) = W7 at *
                  clear hW7
                  go_wp2_with fail
                  go_loopw [14, 15] (fun s14 s15 w' => ∃ (y : Nat) (R2 : Option Addr) (c2 : Nat), y ≤ m2 ∧ s15 = .int .i64 y ∧ s14 = .slice R2 y c2 ∧ Hid (w'.ownsRow wq.heap.size 74 3 (.slice R2 y c2) y (cellsR ((a'.terms.take y).map (iceT vs)))) ∧ Hid (Ext wq w')) (fun _ s15 _ => m2 - (intOf s15).toNat)
                  case atStart => exact ⟨0, _, _, by omega, rfl, rfl, HO0.out, HE7.out⟩
                  case round =>
                    obtain ⟨y, R2, c2, hym, rfl, rfl, hO2, hX2⟩ := hrel
                    rename World => wy
                    have HXy := hide (hXp.out.trans (Hwq.out.trans hX2.out))
                    have HXry := hide (HXw.out.trans (Hwq.out.trans hX2.out))
                    have a2 : wy.cell? ⟨w.heap.size, 2, none⟩ = some (.slice (some ⟨b, off, none⟩) m d) := (HBQ.out.ext HXry.out).cell 2
                    have e1y : wy.cell? ⟨b, off + p * 2 + 1, none⟩ = some (.slice B2 m2 d2) := (Hwq.out.trans hX2.out).cell e1
                    by_cases hy : y < m2
                    · obtain ⟨b3, off3, t, rfl, htt, hb3, f0, f1, f2, f3⟩ := (HT2.out.ext RT.stab (Hwq.out.trans hX2.out)).tm hy
                      have hst := hide (iceR_snoc (vs := vs) htt)
                      clear htt hb3
                      by_cases hv : 0 < t.v.size
                      · have he := size_some hv
                        have he3 : t.v.toList.isEmpty = false := by simpa using he
                        have hci := hide (show iceT vs t = iceV vs t.v by unfold iceT; rw [noVar_false hv]; rfl)
                        rw [hci.out] at hst
                        clear hv
                        have hxv := hX4x.out.trans (HXry.out.trans (Ext.alloc wy (.cells #[.string t.v, .int .i64 t.c.k, .int .i64 t.c.i, .string t.c.t] 76)))
                        have HAT := hide (ref_at vs t.v Av vs.length cv (wy.alloc (.cells #[.string t.v, .int .i64 t.c.k, .int .i64 t.c.i, .string t.c.t] 76)) (HV4.out.ext RS.stab hxv) (by omega))
                        clear hxv
                        have XA := hide ((Ext.alloc wy (.cells #[.string t.v, .int .i64 t.c.k, .int .i64 t.c.i, .string t.c.t] 76)).alloc' (.cells #[.int .i64 3, .int .i64 (firstI (eqB t.v) vs 0), .string ⟨#[]⟩] 74))
                        have HOa := hide (own_ext hO2.out XA.out)
                        have HS7 := hide (show Sl ((wy.alloc (.cells #[.string t.v, .int .i64 t.c.k, .int .i64 t.c.i, .string t.c.t] 76)).alloc (.cells #[.int .i64 3, .int .i64 (firstI (eqB t.v) vs 0), .string ⟨#[]⟩] 74)) (some ⟨wy.heap.size + 1, 0, none⟩) 1 3 [.int .i64 3, .int .i64 (firstI (eqB t.v) vs 0), .string ⟨#[]⟩] by
                          have := sl_lit (wy.alloc (.cells #[.string t.v, .int .i64 t.c.k, .int .i64 t.c.i, .string t.c.t] 76)) [.int .i64 3, .int .i64 (firstI (eqB t.v) vs 0), .string ⟨#[]⟩] 74 1 3 rfl
                          rwa [World.size_alloc] at this)
                        go_wp2_with (first
                          | ((with_reducible refine HAT.out.mono ?_); rintro e w1 ⟨rfl, rfl⟩)
                          | (at_builtin; refine wpList_append_sl rfl (.tmp 105) (.tmp 111) _ rfl 74 i0 _ 3 32 Try.underlying54 hi0 hz0 hz1 hz2 rfl (by omega) wq (hX2.out.trans XA.out) (.slice R2 y c2) y _ rfl HOa.out _ 1 1 [.int .i64 3, .int .i64 (firstI (eqB t.v) vs 0), .string ⟨#[]⟩] rfl HS7.out (v3_one _ _ _) (by unfold maxLen; omega) (by omega) ?_; intro R8 c8 w8 own8 E8 _ _))
                        go_roundw
                        case rel => exact ⟨y + 1, R8, c8, by omega, by go_num, rfl, by rw [hst.out]; exact own8.out, E8.out⟩
                        case measure => simp [intOf]; omega
                      · have he := size_empty (s := t.v) (by omega)
                        have he3 : t.v.toList.isEmpty = true := by simpa using he
                        have hci := hide (show iceT vs t = t.c by unfold iceT; rw [noVar_true (t := t) (by omega)]; rfl)
                        rw [hci.out] at hst
                        clear hv
                        have XA := hide ((Ext.alloc wy (.cells #[.string t.v, .int .i64 t.c.k, .int .i64 t.c.i, .string t.c.t] 76)).alloc' (.cells #[.int .i64 t.c.k, .int .i64 t.c.i, .string t.c.t] 74))
                        have HOa := hide (own_ext hO2.out XA.out)
                        have HS7 := hide (show Sl ((wy.alloc (.cells #[.string t.v, .int .i64 t.c.k, .int .i64 t.c.i, .string t.c.t] 76)).alloc (.cells #[.int .i64 t.c.k, .int .i64 t.c.i, .string t.c.t] 74)) (some ⟨wy.heap.size + 1, 0, none⟩) 1 3 [.int .i64 t.c.k, .int .i64 t.c.i, .string t.c.t] by
                          have := sl_lit (wy.alloc (.cells #[.string t.v, .int .i64 t.c.k, .int .i64 t.c.i, .string t.c.t] 76)) [.int .i64 t.c.k, .int .i64 t.c.i, .string t.c.t] 74 1 3 rfl
                          rwa [World.size_alloc] at this)
                        go_wp2_with (at_builtin; refine wpList_append_sl rfl (.tmp 100) (.tmp 103) _ rfl 74 i0 _ 3 32 Try.underlying54 hi0 hz0 hz1 hz2 rfl (by omega) wq (hX2.out.trans XA.out) (.slice R2 y c2) y _ rfl HOa.out _ 1 1 [.int .i64 t.c.k, .int .i64 t.c.i, .string t.c.t] rfl HS7.out (v3_one _ _ _) (by unfold maxLen; omega) (by omega) ?_; intro R8 c8 w8 own8 E8 _ _)
                        go_roundw
                        case rel => exact ⟨y + 1, R8, c8, by omega, by go_num, rfl, by rw [hst.out]; exact own8.out, E8.out⟩
                        case measure => simp [intOf]; omega
                    · have HRow := hide (show wy.ownsRow wq.heap.size 74 3 (.slice R2 m2 c2) m2 (cellsR (iceR vs a')) by
                        have h1 := hO2.out
                        rw [show y = m2 by omega, List.take_of_length_le (by have := hm2l.out; omega)] at h1
                        exact h1)
                      obtain rfl : y = m2 := by omega
                      clear hO2
                      have HXqy := hide (Hwq.out.trans hX2.out)
                      have HOKy := hide (hOK.out.ext HXqy.out)
                      have HBRy := hide (hBR.out.ext HXqy.out)
                      have HHA := hide (has_any (rowsOf vs (as_.take p) a.rel) (iceR vs a') R R2 (rowsOf vs (as_.take p) a.rel).length y cR c2 wy HOKy.out.lat (RowAt.own HRow.out) (by have := hrl.out; omega) (fun x hx => by have := hrr.out x hx; omega))
                      have t1 : wy.cell? ⟨wk.heap.size, 1, none⟩ = some (.slice R (rowsOf vs (as_.take p) a.rel).length cR) := HBRy.out.cell 1
                      have hstp := hide (rows_add (vs := vs) Hx'.out Hrel.out)
                      clear a2 e1y
                      cases hh : hasR (rowsOf vs (as_.take p) a.rel) (iceR vs a') with
                      | true =>
                        rw [hh] at HHA
                        have hres2 := hide (show rowsOf vs (as_.take (p + 1)) a.rel = rowsOf vs (as_.take p) a.rel by rw [hstp.out]; exact if_pos hh)
                        clear hh
                        have e1y : wy.cell? ⟨b, off + p * 2 + 1, none⟩ = some (.slice B2 y d2) := HXqy.out.cell e1
                        have a2 : wy.cell? ⟨w.heap.size, 2, none⟩ = some (.slice (some ⟨b, off, none⟩) m d) := (HBQ.out.ext HXry.out).cell 2
                        go_wp2_with ((with_reducible refine HHA.out.mono ?_); rintro e w9 ⟨rfl, x9⟩; have X9 := hide (HXqy.out.trans x9); clear x9)
                        go_roundw
                        case rel => exact ⟨p + 1, R, cR, cells, by omega, by go_num, by rw [hres2.out]; exact hBR.out.ext X9.out, by rw [hres2.out]; exact hOK.out.ext X9.out, hXp.out.trans X9.out⟩
                        case measure => simp [intOf]; omega
                      | false =>
                        rw [hh] at HHA
                        have hres2 := hide (show rowsOf vs (as_.take (p + 1)) a.rel = rowsOf vs (as_.take p) a.rel ++ [iceR vs a'] by rw [hstp.out]; exact if_neg (by rw [hh]; decide))
                        clear hh
                        have e1y : wy.cell? ⟨b, off + p * 2 + 1, none⟩ = some (.slice B2 y d2) := HXqy.out.cell e1
                        have a2 : wy.cell? ⟨w.heap.size, 2, none⟩ = some (.slice (some ⟨b, off, none⟩) m d) := (HBQ.out.ext HXry.out).cell 2
                        have hrl6 := hrl.out
                        go_wp2_with (first
                          | ((with_reducible refine HHA.out.mono ?_); rintro e w9 ⟨rfl, x9⟩; have X9 := hide (HXqy.out.trans x9); have HOK9 := hide (HOKy.out.ext x9); have HBR9 := hide (HBRy.out.ext x9); have HRow9 := hide (own_ext HRow.out x9); clear x9 t1
                             have t1 : w9.cell? ⟨wk.heap.size, 1, none⟩ = some (.slice R (rowsOf vs (as_.take p) a.rel).length cR) := HBR9.out.cell 1
                             have HSr := hide (sl_lit w9 [.slice R2 y c2] 54 1 1 rfl); have XAr := hide (Ext.alloc w9 (.cells #[.slice R2 y c2] 54)); have HBRa := hide (HBR9.out.ext XAr.out); have HOKa := hide (HOK9.out.ext XAr.out); have HRowa := hide (own_ext HRow9.out XAr.out))
                          | (at_builtin; refine wpList_append_sl rfl (.tmp 119) (.tmp 121) _ rfl 54 kr0 _ 1 24 Try.underlying61 hkr0 hx0 hx1 hx2 rfl (by omega) wk (hXp.out.trans (X9.out.trans XAr.out)) (.slice R (rowsOf vs (as_.take p) a.rel).length cR) (rowsOf vs (as_.take p) a.rel).length cells rfl HOKa.out.own _ 1 1 [.slice R2 y c2] rfl HSr.out (fun v h => by obtain rfl := List.mem_singleton.1 h; rfl) (by unfold maxLen; omega) (by omega) ?_; intro R8 c8 w8 own8 E8 G8 _
                             have HB8 := hide (HBRa.out.grown G8.out (own_ne_blk HOKa.out.own HBRa.out (by decide))); clear t1; have t1 := HB8.out.cell 1; have tf := HB8.out.frozen 1))
                        go_roundw
                        case rel =>
                          refine ⟨p + 1, R8, c8, cells ++ [.slice R2 y c2], by omega, by go_num, ?_, ?_, E8.out.setCell (p := ⟨wk.heap.size, 1, none⟩) (Nat.le_refl _) _⟩
                          · rw [hres2.out, List.length_append]
                            have := HB8.out.set_ 1 (.slice R8 ((rowsOf vs (as_.take p) a.rel).length + 1) c8)
                            simpa [Hid] using this
                          · rw [hres2.out]
                            have hwq : wk.heap.size ≤ wq.heap.size := (hXp.out.trans Hwq.out).size
                            refine ⟨?_, Els.snoc ?_ rfl (fun v h => by obtain rfl := List.mem_singleton.1 h; rfl) ⟨R2, y, c2, rfl, ?_⟩⟩
                            · have := own_set own8.out HB8.out (by decide) 1 (.slice R8 ((rowsOf vs (as_.take p) a.rel).length + 1) c8)
                              simpa using this
                            · refine HOKa.out.els.mono fun cs x hx => ?_
                              obtain ⟨A1, n1, c1, e1, e2⟩ := hx.other HOKa.out.own (by decide) G8.out
                              exact ⟨A1, n1, c1, e1, own_set e2 HB8.out (by decide) 1 _⟩
                            · exact own_set (own_base (own_other HRowa.out HOKa.out.own (by decide) G8.out) hwq) HB8.out (by decide) 1 _
                        case measure => simp [intOf]; omega
                · have Hrel := hide hrel
                  have hstp := hide (rows_skip (vs := vs) Hx'.out hrel)
                  clear hrel
                  go_wp2_with fail
                  have a2x := cell_ext a2
                  have e0x := cell_ext e0
                  have g0x := cell_ext g0
                  refine wp_region_ext 9 (by kernel_rfl) (by kernel_rfl) (by kernel_rfl) ?_
                  iterate 8
                    refine wpE_k (by kernel_rfl) (by kernel_rfl) ?_
                    apply Exists.intro
                    refine ⟨fun w1 hw1 => ?_, fun K hK => ?_⟩
                    · go_simp; first | done | rfl
                    go_simp; refine hK _ _ ?_; clear hK K
                  refine wpE_k (by kernel_rfl) (by kernel_rfl) ?_
                  refine ⟨.bool true, fun w1 hw1 => ?_, fun K hK => ?_⟩
                  · clear a2x e0x g0x a2 e0 g0
                    go_simp
                    first | done | simp [ht.out, Hrel.out]
                  clear a2x e0x g0x
                  go_simp; refine hK _ _ ?_; clear hK K
                  refine wpE_nil ⟨rfl, by kernel_rfl, fun wq hwq => ?_⟩
                  simp only [EndQ]
                  refine wpList_nil ?_
                  have Hwq := hide hwq; clear hwq
                  clear a2 e0 g0
                  go_wp2_with fail
                  go_roundw
                  case rel => exact ⟨p + 1, R, cR, cells, by omega, by go_num, by rw [hstp.out]; exact hBR.out.ext Hwq.out, by rw [hstp.out]; exact hOK.out.ext Hwq.out, hXp.out.trans Hwq.out⟩
                  case measure => simp [intOf]; omega
              · have hall : rowsOf vs (as_.take p) a.rel = rowsOf vs as_ a.rel := by rw [List.take_of_length_le (by have := hml.out; omega)]
                have Hall := hide hall
                clear hall
                rw [Hall.out] at hBR hOK hrl
                have HIp := hide (HIk.out.go hXp.out)
                have t0 : wp_.cell? ⟨wk.heap.size, 0, none⟩ = some (.string a.rel) := hBR.out.cell 0
                have t1 : wp_.cell? ⟨wk.heap.size, 1, none⟩ = some (.slice R (rowsOf vs as_ a.rel).length cR) := hBR.out.cell 1
                have Hsrc := hide (sl_lit wp_ [.string a.rel, .slice R (rowsOf vs as_ a.rel).length cR] 96 1 2 rfl)
                have XAp := hide (Ext.alloc wp_ (.cells #[.string a.rel, .slice R (rowsOf vs as_ a.rel).length cR] 96))
                have HIa := hide (HIp.out.go XAp.out)
                have hkn6 := hnD.out
                have hap := hide (show ∀ q ∈ ps, Apart q.A R from fun q hq a1 b1 ha1 hb1 => by
                  have h1 := (HIk.out.rows q hq).own
                  rw [ha1] at h1
                  have h2 := (h1.lt a1.block rfl).2
                  have h3 := hOK.out.own
                  simp only at h3
                  rw [hb1] at h3
                  have h4 := (h3.lt b1.block rfl).1
                  omega)
                go_wp2_with (at_builtin; refine wpList_append_sl rfl (.tmp 124) (.tmp 126) _ rfl 96 j0 _ 2 40 Try.underlying52 hj0 hy0 hy1 hy2 rfl (by omega) W4 HIa.out.ext (.slice D nD cD) nD (ps.flatMap Pt.cs) rfl HIa.out.own _ 1 1 _ rfl Hsrc.out (pt_one ⟨⟨a.rel, rowsOf vs as_ a.rel⟩, R, cR, cells⟩) (by unfold maxLen; omega) (by omega) ?_; intro D9 c9 w9 own9 E9 G9 L9)
                go_roundw
                case rel =>
                  exact ⟨j + 1, D9, nD + 1, c9, ps ++ [(⟨⟨a.rel, rowsOf vs as_ a.rel⟩, R, cR, cells⟩ : Pt)], by omega, by go_num, rfl, by rw [Hid, hres.out, List.map_append, hps.out]; rfl,
                    hide (HIa.out.pushT (p := ⟨⟨a.rel, rowsOf vs as_ a.rel⟩, R, cR, cells⟩) ((hOK.out.ext XAp.out).base (HI4k.out)) hap.out G9.out E9.out own9.out)⟩
                case measure => simp [intOf]; omega
    · have HD := hide (show ps.map (·.t) = frzT vs as_ by
        have h1 := hps.out
        rw [show i = as_.length by have := hml.out; omega, refT_all] at h1
        exact h1)
      have hI9 := hI
      clear hI
      obtain ⟨W9, hW9⟩ : ∃ x : World, x = wr := ⟨_, rfl⟩
      subst hW9
      go_upto_region 33 with fail
      have HO0 := hide (show (W9.alloc (.cells #[] 74)).ownsRow W9.heap.size 74 3 (.slice (some ⟨W9.heap.size, 0, none⟩) 0 0) 0 (cellsR ((hd.take 0).map (iceV vs))) from World.ownsRow_lit W9 #[] 0 (Nat.le_refl _) (by unfold maxLen; omega) rfl)
      have HE7 := hide (Ext.alloc W9 (.cells #[] 74))
      generalize hW7 : W9.alloc (.cells #[] 74) = W7 at *
      clear hW7 a2
      go_wp2_with fail
      go_loopw [17, 18] (fun s17 s18 w' => ∃ (y : Nat) (R2 : Option Addr) (c2 : Nat), y ≤ n ∧ s18 = .int .i64 y ∧ s17 = .slice R2 y c2 ∧ Hid (w'.ownsRow W9.heap.size 74 3 (.slice R2 y c2) y (cellsR ((hd.take y).map (iceV vs)))) ∧ Hid (Ext W9 w')) (fun _ s18 _ => n - (intOf s18).toNat)
      case atStart => exact ⟨0, _, _, by omega, rfl, rfl, HO0.out, HE7.out⟩
      case round =>
        obtain ⟨y, R2, c2, hyn, rfl, rfl, hO2, hX2⟩ := hrel
        have hxy := hI9.out.ext.trans hX2.out
        have HXY := hide hxy
        have a1 : wr.cell? ⟨w.heap.size, 1, none⟩ = some (.slice A n c) := (HB0.out.ext (X4.out.trans hxy)).cell 1
        clear hxy
        by_cases hy : y < n
        · obtain ⟨b3, off3, x, rfl, hx, hb3, f0⟩ := (HQ.out.head.ext RS.stab (HEW.out.trans HXY.out)).str hy
          have hst := hide (iceH_snoc (vs := vs) hx)
          have HAT := hide (ref_at vs x Av vs.length cv wr (HV4.out.ext RS.stab HXY.out) (by omega))
          clear hx hb3
          have XA := hide (Ext.alloc wr (.cells #[.int .i64 3, .int .i64 (firstI (eqB x) vs 0), .string ⟨#[]⟩] 74))
          have HOa := hide (own_ext hO2.out XA.out)
          have HS7 := hide (sl_lit wr [.int .i64 3, .int .i64 (firstI (eqB x) vs 0), .string ⟨#[]⟩] 74 1 3 rfl)
          go_wp2_with (first
            | ((with_reducible refine HAT.out.mono ?_); rintro e w1 ⟨rfl, rfl⟩)
            | (at_builtin; refine wpList_append_sl rfl (.tmp 136) (.tmp 145) _ rfl 74 i0 _ 3 32 Try.underlying54 hi0 hz0 hz1 hz2 rfl (by omega) W9 (hX2.out.trans XA.out) (.slice R2 y c2) y _ rfl HOa.out _ 1 1 [.int .i64 3, .int .i64 (firstI (eqB x) vs 0), .string ⟨#[]⟩] rfl HS7.out (v3_one _ _ _) (by unfold maxLen; omega) (by omega) ?_; intro R8 c8 w8 own8 E8 _ _))
          go_roundw
          case rel => exact ⟨y + 1, R8, c8, by omega, by go_num, rfl, by rw [hst.out]; exact own8.out, E8.out⟩
          case measure => simp [intOf]; omega
        · have hro := RowAt.own hO2.out
          rw [List.take_of_length_le (by have := hnl.out; omega)] at hro
          have HRO := hide hro
          have HDL := hide (hI9.out.go hX2.out)
          clear hro
          go_wp2_with fail
          go_ret3
          exact ⟨D, nD, cD, R2, y, c2, rfl, by rw [← HD.out]; exact HDL.out.lat, HRO.out, HEW.out.trans HXY.out⟩
theorem ref_freeze_any (q : Qy) (L : QLoc) (w : World) (hq : QAt w L q) (hM : smallM 1048576 q) : Calls Try.prog 28 #[qval q.name L] w (RetFrz w (frzR q)) := by
  by_cases hs : shapeQ q = 0
  · exact ref_freeze_ok q L w hq hM hs
  · exact ref_freeze_bad q L w hq hM hs
end Go.Proofs.Ythjpcnceppmnmaa
