/-
  The document's Match: the walk.
-/
import Derived.Test.YtpfjkjmimmklcaaNaiR
import Derived.Test.YtpfjkjmimmklcaaRefC
import Derived.Test.YtpfjkjmimmklcaaRowsG
namespace Go.Proofs.Ytpfjkjmimmklcaa
open Go.RowKit

theorem zeroR_made (n : Nat) : madeCells #[Value.int .i64 0, Value.int .i64 0, Value.string .empty] (n * 3) = (cellsR (List.replicate n zeroV)).toArray := by
  have h : ∀ m, (madeCells #[Value.int .i64 0, Value.int .i64 0, Value.string .empty] (m * 3)).toList = cellsR (List.replicate m zeroV) := by
    intro m
    induction m with
    | zero => simp [madeCells, cellsR]
    | succ m ih =>
      rw [List.replicate_succ', cellsR_append, ← ih]
      unfold madeCells
      simp only [Array.toList_map, Array.toList_range, Nat.succ_mul, List.range_succ, List.map_append, List.map_cons, List.map_nil]
      simp [List.append_assoc, Nat.add_mod, cellsR, V.cells, zeroV]
  rw [← h n]
/-- a block of values: one is read, one is written -/
theorem blkR_at {w : World} {g p : Nat} {l : List V} {x : V} (h : Blk w g 58 (cellsR l).toArray) (hx : l[p]? = some x) :
    w.cell? ⟨g, p * 3, none⟩ = some (.int .i64 x.k) ∧ w.cell? ⟨g, p * 3 + 1, none⟩ = some (.int .i64 x.i) ∧ w.cell? ⟨g, p * 3 + 2, none⟩ = some (.string x.t) := by
  have e : ∀ j, j < 3 → w.cell? ⟨g, p * 3 + j, none⟩ = x.cells[j]? := fun j hj => by rw [h.cell, List.getElem?_toArray, cellsR_get l p x j hx hj]
  exact ⟨e 0 (by omega), e 1 (by omega), e 2 (by omega)⟩
theorem blkR_put {w : World} {g p : Nat} {l : List V} (h : Blk w g 58 (cellsR l).toArray) (hp : p < l.length) (y : V) :
    Blk (((w.setCell ⟨g, p * 3, none⟩ (.int .i64 y.k)).setCell ⟨g, p * 3 + 1, none⟩ (.int .i64 y.i)).setCell ⟨g, p * 3 + 2, none⟩ (.string y.t)) g 58 (cellsR (l.set p y)).toArray := by
  have h5 := ((h.set_ (p * 3) (.int .i64 y.k)).set_ (p * 3 + 1) (.int .i64 y.i)).set_ (p * 3 + 2) (.string y.t)
  rw [List.setIfInBounds_toArray, List.setIfInBounds_toArray, List.setIfInBounds_toArray, cellsR_set, if_pos hp] at h5
  exact h5
theorem ext_put {w0 w : World} {g p : Nat} (h : Ext w0 w) (hg : w0.heap.size ≤ g) (u0 u1 u2 : Value) : Ext w0 (((w.setCell ⟨g, p * 3, none⟩ u0).setCell ⟨g, p * 3 + 1, none⟩ u1).setCell ⟨g, p * 3 + 2, none⟩ u2) :=
  ((h.setCell (p := ⟨g, p * 3, none⟩) hg _).setCell (p := ⟨g, p * 3 + 1, none⟩) hg _).setCell (p := ⟨g, p * 3 + 2, none⟩) hg _
/-- a valuation, or none, is handed back -/
def RetMt (w0 : World) (res : Option (List V)) (en : Ending) (w' : World) : Prop := match res with
  | none => en = .returned (.tuple #[.slice none 0 0, .bool false]) ∧ Ext w0 w'
  | some out => ∃ g, en = .returned (.tuple #[.slice (some ⟨g, 0, none⟩) out.length out.length, .bool true]) ∧ w0.heap.size ≤ g ∧ Blk w' g 58 (cellsR out).toArray ∧ Ext w0 w'

set_option maxHeartbeats 4000000 in
set_option maxRecDepth 100000 in
theorem ref_match (a : Atm) (r : List V) (A : Option Addr) (n c : Nat) (B : Option Addr) (m d : Nat) (w : World) (hT : LAt RT 4 w A n a.terms) (hn : n ≤ 1048576) (hR : RowAt w B m r) (hm : m ≤ 1048576) :
    Calls Try.prog 25 #[.agg #[.string a.rel, .slice A n c], .slice B m d] w (RetMt w (matchA a r)) := by
  have HL := hide (show n = a.terms.length ∧ m = r.length from ⟨hT.len, hR.len⟩)
  have HT := hide hT; have HR := hide hR
  have HB := hide (Blk.new w 40 #[.string a.rel, .slice A n c])
  have HE := hide (Ext.alloc w (.cells #[.string a.rel, .slice A n c] 40))
  clear hT hR
  generalize hW : w.alloc (.cells #[.string a.rel, .slice A n c] 40) = W at *
  have HW := hide hW; clear hW
  have a1 : W.cell? ⟨w.heap.size, 1, none⟩ = some (.slice A n c) := HB.out.cell 1
  by_cases hl : m = n
  · subst hl
    go_enter Try.func25, Try.ntmps25
    go_wp2_with (rw [HW.out])
    go_loopw [6, 7] (fun s6 _ w' => ∃ i : Nat, i ≤ m ∧ s6 = .int .i64 i ∧ Hid (∀ k, k < i → okM a.terms r k) ∧ Hid (Ext W w')) (fun s6 _ _ => m - (intOf s6).toNat)
    case atStart => exact ⟨0, by omega, rfl, fun k hk => absurd hk (Nat.not_lt_zero k), Ext.refl _⟩
    case round =>
      obtain ⟨i, hin, rfl, hK, hX⟩ := hrel
      have b1 := HB.out.ext hX.out |>.cell 1
      by_cases h : i < m
      · obtain ⟨b, off, t, rfl, hx, hb1, q0, q1, q2, q3⟩ := (HT.out.ext RT.stab (HE.out.trans hX.out)).tm h
        obtain ⟨b', off', y, rfl, hy, hb2, d0, d1, d2⟩ := (HR.out.ext (HE.out.trans hX.out)).get h
        have HX := hide hx; have HY := hide hy
        clear hx hy hb1 hb2
        by_cases hv : 0 < t.v.size
        · have he := size_some hv
          have Hv := hide (noVar_false hv)
          have he3 : t.v.toList.isEmpty = false := Hv.out
          clear hv
          go_upto_region 6 with fail
          have b1 := cell_ext b1
          have q0 := cell_ext q0
          have q1 := cell_ext q1
          have q2 := cell_ext q2
          have q3 := cell_ext q3
          have d0 := cell_ext d0
          have d1 := cell_ext d1
          have d2 := cell_ext d2
          refine wp_region_ext 20 (by kernel_rfl) (by kernel_rfl) (by kernel_rfl) ?_
          iterate 20
            refine wpE_k (by kernel_rfl) (by kernel_rfl) ?_
            apply Exists.intro
            refine ⟨fun w1 hw1 => ?_, fun K hK => ?_⟩
            · go_simp; first | done | rfl
            go_simp; refine hK _ _ ?_; clear hK K
          refine wpE_nil ⟨rfl, by kernel_rfl, fun wq hwq => ?_⟩
          simp only [EndQ]
          refine wpList_nil ?_
          clear b1 q0 q1 q2 q3 d0 d1 d2
          clear b1 q0 q1 q2 q3 d0 d1 d2
          have HXq := hide (hX.out.trans hwq)
          clear hwq
          go_wp2_with fail
          go_loopw [7] (fun s7 w' => ∃ j : Nat, j ≤ i ∧ s7 = .int .i64 j ∧ Hid (∀ k u z, k < j → a.terms[k]? = some u → r[k]? = some z → t.v = u.v → y = z) ∧ Hid (Ext W w')) (fun s7 _ => i - (intOf s7).toNat)
          case atStart => exact ⟨0, by omega, rfl, fun k u z hk => absurd hk (Nat.not_lt_zero k), HXq.out⟩
          case round =>
            obtain ⟨j, hji, rfl, hJ, hX2⟩ := hrel
            have b1 : wr.cell? ⟨w.heap.size, 1, none⟩ = some (.slice (some ⟨b, off, none⟩) m c) := (HB.out.ext hX2.out).cell 1
            by_cases h2 : j < i
            · have hjm : j < m := by omega
              obtain ⟨bb, oo, t', hA, hx', hb1, q0, q1, q2, q3⟩ := (HT.out.ext RT.stab (HE.out.trans hX2.out)).tm h
              injection hA with hA; injection hA with e1 e2; subst e1; subst e2
              obtain rfl : t' = t := Option.some.inj (hx'.symm.trans HX.out)
              obtain ⟨bb, oo, y', hA, hy', hb2, d0, d1, d2⟩ := (HR.out.ext (HE.out.trans hX2.out)).get h
              injection hA with hA; injection hA with e1 e2; subst e1; subst e2
              obtain rfl : y' = y := Option.some.inj (hy'.symm.trans HY.out)
              obtain ⟨bb, oo, u, hA, hu, hb3, r0, r1, r2, r3⟩ := (HT.out.ext RT.stab (HE.out.trans hX2.out)).tm (show j < m by omega)
              injection hA with hA; injection hA with e1 e2; subst e1; subst e2
              obtain ⟨bb, oo, z, hA, hz, hb4, g0, g1, g2⟩ := (HR.out.ext (HE.out.trans hX2.out)).get (show j < m by omega)
              injection hA with hA; injection hA with e1 e2; subst e1; subst e2
              have HU := hide hu; have HZ := hide hz
              clear hx' hy' hu hz hb1 hb2 hb3 hb4
              go_upto_region 11 with fail
              have b1 := cell_ext b1
              have q0 := cell_ext q0
              have d0 := cell_ext d0
              have d1 := cell_ext d1
              have d2 := cell_ext d2
              have r0 := cell_ext r0
              have g0 := cell_ext g0
              have g1 := cell_ext g1
              have g2 := cell_ext g2
              by_cases huv : t'.v = u.v
              · have HUV := hide huv
                have huv2 : (t'.v.toList == u.v.toList) = true := by rw [huv]; simp
                clear huv
                refine wp_region_ext 33 (by kernel_rfl) (by kernel_rfl) (by kernel_rfl) ?_
                iterate 31
                  refine wpE_k (by kernel_rfl) (by kernel_rfl) ?_
                  apply Exists.intro
                  refine ⟨fun w1 hw1 => ?_, fun K hK => ?_⟩
                  · go_simp; first | done | rfl
                  go_simp; refine hK _ _ ?_; clear hK K
                refine wpE_k (by kernel_rfl) (by kernel_rfl) ?_
                refine ⟨.bool (!sameV y' z), fun w1 hw1 => ?_, fun K hK => ?_⟩
                · clear b1 q0 q1 q2 q3 d0 d1 d2 r0 r1 r2 r3 g0 g1 g2
                  go_simp
                  unfold sameV
                  have ht := toList_iff y'.t z.t
                  by_cases h1 : y'.k = z.k <;> by_cases h2 : y'.i = z.i <;> by_cases h3 : y'.t = z.t <;> simp [h1, h2, h3, ht]
                go_simp; refine hK _ _ ?_; clear hK K
                iterate 1
                  refine wpE_k (by kernel_rfl) (by kernel_rfl) ?_
                  apply Exists.intro
                  refine ⟨fun w1 hw1 => ?_, fun K hK => ?_⟩
                  · go_simp; first | done | rfl
                  go_simp; refine hK _ _ ?_; clear hK K
                refine wpE_nil ⟨rfl, by kernel_rfl, fun wq hwq => ?_⟩
                simp only [EndQ]
                refine wpList_nil ?_
                have HXq := hide (hX2.out.trans hwq)
                clear hwq
                clear b1 q0 d0 d1 d2 r0 g0 g1 g2
                clear b1 q0 q1 q2 q3 d0 d1 d2 r0 r1 r2 r3 g0 g1 g2
                by_cases hs : sameV y' z = true
                · have he1 : (!sameV y' z) = false := by rw [hs]; rfl
                  simp only [he1]
                  have He := hide hs; clear hs he1
                  go_wp2_with fail
                  go_roundw
                  case rel =>
                    refine ⟨j + 1, by omega, by go_num, fun k u1 z1 hk hu1 hz1 hv1 => ?_, HXq.out⟩
                    by_cases hkj : k = j
                    · subst hkj
                      obtain rfl := Option.some.inj (hz1.symm.trans HZ.out)
                      exact sameV_iff.1 He.out
                    · exact hJ.out k u1 z1 (by omega) hu1 hz1 hv1
                  case measure => simp [intOf]; omega
                · have hs2 : sameV y' z = false := by simpa using hs
                  have he1 : (!sameV y' z) = true := by rw [hs2]; rfl
                  simp only [he1]
                  have hfin := hide (show matchA a r = none from matchA_bad (i := i) fun ho => hs (sameV_iff.2 ((ho t' y' HX.out HY.out).2 Hv.out j u z h2 HU.out HZ.out HUV.out)))
                  clear hs hs2 he1
                  go_wp2_with fail
                  go_ret2
                  rw [hfin.out]
                  exact ⟨rfl, HE.out.trans HXq.out⟩
              · have HUV := hide huv
                have huv2 : (t'.v.toList == u.v.toList) = false := by simpa using fun e => huv ((bytes_toList t'.v u.v).1 e)
                clear huv
                refine wp_region_ext 33 (by kernel_rfl) (by kernel_rfl) (by kernel_rfl) ?_
                iterate 33
                  refine wpE_k (by kernel_rfl) (by kernel_rfl) ?_
                  apply Exists.intro
                  refine ⟨fun w1 hw1 => ?_, fun K hK => ?_⟩
                  · go_simp; first | done | rfl
                  go_simp; refine hK _ _ ?_; clear hK K
                refine wpE_nil ⟨rfl, by kernel_rfl, fun wq hwq => ?_⟩
                simp only [EndQ]
                refine wpList_nil ?_
                have HXq := hide (hX2.out.trans hwq)
                clear hwq
                clear b1 q0 d0 d1 d2 r0 g0 g1 g2
                clear b1 q0 q1 q2 q3 d0 d1 d2 r0 r1 r2 r3 g0 g1 g2
                go_wp2_with fail
                go_roundw
                case rel =>
                  refine ⟨j + 1, by omega, by go_num, fun k u1 z1 hk hu1 hz1 hv1 => ?_, HXq.out⟩
                  by_cases hkj : k = j
                  · subst hkj
                    obtain rfl := Option.some.inj (hu1.symm.trans HU.out)
                    exact absurd hv1 HUV.out
                  · exact hJ.out k u1 z1 (by omega) hu1 hz1 hv1
                case measure => simp [intOf]; omega
            · obtain rfl : j = i := by omega
              go_wp2_with fail
              go_roundw
              case rel =>
                refine ⟨j + 1, by omega, by go_num, fun k hk => ?_, hX2.out⟩
                by_cases hkj : k = j
                · subst hkj
                  intro t1 y1 ht1 hy1
                  obtain rfl := Option.some.inj (ht1.symm.trans HX.out)
                  obtain rfl := Option.some.inj (hy1.symm.trans HY.out)
                  exact ⟨fun hn1 => (by rw [Hv.out] at hn1; cases hn1), fun _ k2 u1 z1 hk2 hu1 hz1 hv1 => hJ.out k2 u1 z1 hk2 hu1 hz1 hv1⟩
                · exact hK.out k (by omega)
              case measure => simp [intOf]; omega
        · have he := size_empty (s := t.v) (by omega)
          have Hv := hide (noVar_true (t := t) (by omega))
          have he3 : t.v.toList.isEmpty = true := Hv.out
          clear hv
          go_upto_region 6 with fail
          have b1 := cell_ext b1
          have q0 := cell_ext q0
          have q1 := cell_ext q1
          have q2 := cell_ext q2
          have q3 := cell_ext q3
          have d0 := cell_ext d0
          have d1 := cell_ext d1
          have d2 := cell_ext d2
          refine wp_region_ext 20 (by kernel_rfl) (by kernel_rfl) (by kernel_rfl) ?_
          iterate 18
            refine wpE_k (by kernel_rfl) (by kernel_rfl) ?_
            apply Exists.intro
            refine ⟨fun w1 hw1 => ?_, fun K hK => ?_⟩
            · go_simp; first | done | rfl
            go_simp; refine hK _ _ ?_; clear hK K
          refine wpE_k (by kernel_rfl) (by kernel_rfl) ?_
          refine ⟨.bool (!sameV t.c y), fun w1 hw1 => ?_, fun K hK => ?_⟩
          · clear b1 q0 q1 q2 q3 d0 d1 d2
            go_simp
            unfold sameV
            have ht := toList_iff t.c.t y.t
            by_cases h1 : t.c.k = y.k <;> by_cases h2 : t.c.i = y.i <;> by_cases h3 : t.c.t = y.t <;> simp [h1, h2, h3, ht]
          go_simp; refine hK _ _ ?_; clear hK K
          iterate 1
            refine wpE_k (by kernel_rfl) (by kernel_rfl) ?_
            apply Exists.intro
            refine ⟨fun w1 hw1 => ?_, fun K hK => ?_⟩
            · go_simp; first | done | rfl
            go_simp; refine hK _ _ ?_; clear hK K
          refine wpE_nil ⟨rfl, by kernel_rfl, fun wq hwq => ?_⟩
          simp only [EndQ]
          refine wpList_nil ?_
          have HXq := hide (hX.out.trans hwq)
          clear hwq
          clear b1 q0 q1 q2 q3 d0 d1 d2
          clear b1 q0 q1 q2 q3 d0 d1 d2
          by_cases hs : sameV t.c y = true
          · have he1 : (!sameV t.c y) = false := by rw [hs]; rfl
            simp only [he1]
            have He := hide hs; clear hs he1
            go_wp2_with fail
            go_loopw [7] (fun s7 w' => ∃ j : Nat, j ≤ i ∧ s7 = .int .i64 j ∧ Hid (Ext W w')) (fun s7 _ => i - (intOf s7).toNat)
            case atStart => exact ⟨0, by omega, rfl, HXq.out⟩
            case round =>
              obtain ⟨j, hji, rfl, hX2⟩ := hrel
              have b1 : wr.cell? ⟨w.heap.size, 1, none⟩ = some (.slice (some ⟨b, off, none⟩) m c) := (HB.out.ext hX2.out).cell 1
              by_cases h2 : j < i
              · obtain ⟨bb, oo, t', hA, hx', hb1, q0, q1, q2, q3⟩ := (HT.out.ext RT.stab (HE.out.trans hX2.out)).tm h
                injection hA with hA; injection hA with e1 e2; subst e1; subst e2
                obtain rfl : t' = t := Option.some.inj (hx'.symm.trans HX.out)
                clear hx' hb1
                go_upto_region 11 with fail
                have b1 := cell_ext b1
                have q0 := cell_ext q0
                refine wp_region_ext 33 (by kernel_rfl) (by kernel_rfl) (by kernel_rfl) ?_
                iterate 33
                  refine wpE_k (by kernel_rfl) (by kernel_rfl) ?_
                  apply Exists.intro
                  refine ⟨fun w1 hw1 => ?_, fun K hK => ?_⟩
                  · go_simp; first | done | rfl
                  go_simp; refine hK _ _ ?_; clear hK K
                refine wpE_nil ⟨rfl, by kernel_rfl, fun wq hwq => ?_⟩
                simp only [EndQ]
                refine wpList_nil ?_
                have HXq := hide (hX2.out.trans hwq)
                clear hwq
                clear b1 q0
                clear b1 q0 q1 q2 q3
                go_wp2_with fail
                go_roundw
                case rel => exact ⟨j + 1, by omega, by go_num, HXq.out⟩
                case measure => simp [intOf]; omega
              · obtain rfl : j = i := by omega
                go_wp2_with fail
                go_roundw
                case rel =>
                  refine ⟨j + 1, by omega, by go_num, fun k hk => ?_, hX2.out⟩
                  by_cases hkj : k = j
                  · subst hkj
                    intro t1 y1 ht1 hy1
                    obtain rfl := Option.some.inj (ht1.symm.trans HX.out)
                    obtain rfl := Option.some.inj (hy1.symm.trans HY.out)
                    exact ⟨fun _ => sameV_iff.1 He.out, fun hn1 => (by rw [Hv.out] at hn1; cases hn1)⟩
                  · exact hK.out k (by omega)
                case measure => simp [intOf]; omega
          · have hs2 : sameV t.c y = false := by simpa using hs
            have he1 : (!sameV t.c y) = true := by rw [hs2]; rfl
            simp only [he1]
            have hfin := hide (show matchA a r = none from matchA_bad (i := i) fun ho => hs (sameV_iff.2 ((ho t y HX.out HY.out).1 Hv.out)))
            clear hs hs2 he1
            go_wp2_with fail
            go_ret2
            rw [hfin.out]
            exact ⟨rfl, HE.out.trans HXq.out⟩
      · obtain rfl : i = m := by omega
        have HVS := hide (ref_atom_vars a.rel a.terms A i c wr (HT.out.ext RT.stab (HE.out.trans hX.out)) (by omega))
        have HMA := hide (matchA_ok (a := a) (r := r) (by have := HL.out; omega) (fun k hk => hK.out k (by have := HL.out; omega)))
        have HPC := hide (show ∀ (k : Nat) (t : Tm), a.terms[k]? = some t → noVar t = false → ∃ p : Nat, p < (varsA a).length ∧ atN (varsA a) t.v = p ∧ firstI (eqB t.v) (varsA a) 0 = (p : Int) from fun k t ht hn => by
          have hm := mem_varsA (List.mem_of_getElem? ht) hn
          obtain ⟨p, h1, h2⟩ := at_mem hm
          exact ⟨p, (List.getElem?_eq_some_iff.1 h2).1, by unfold atN; rw [h1]; rfl, h1⟩)
        have HOC := hide (fun (k : Nat) (t : Tm) (y : V) (ht : a.terms[k]? = some t) (hy : r[k]? = some y) (hn : noVar t = true) => outD_const (vars := varsA a) ht hy hn)
        have HOV := hide (fun (k : Nat) (t : Tm) (y : V) (ht : a.terms[k]? = some t) (hy : r[k]? = some y) (hn : noVar t = false) => outD_var (varsA_nodup a) (mem_varsA (List.mem_of_getElem? ht) hn) ht hy hn)
        have HO0 := hide (outD_end (vars := varsA a) (ts := a.terms) (r := r) (i := i) (by have := HL.out.1; omega))
        have HOL := hide (outD_len (varsA a) a.terms r)
        have HVL := hide (show (varsA a).length ≤ 1048576 from by have h1 := addTs_len [] a.terms; have := HL.out.1; simp only [List.length_nil] at h1; unfold varsA; omega)
        have HATC := hide (fun (x : ByteArray) (A3 : Option Addr) (n3 c3 : Nat) (w3 : World) (h3 : LAt RS 1 w3 A3 n3 (varsA a)) => ref_at (varsA a) x A3 n3 c3 w3 h3 (by have := h3.len; have := HVL.out; omega))
        change Hid (Calls _ _ _ _ (RetS wr (varsA a))) at HVS
        rw [← outD_zero] at HMA
        generalize varsA a = vs at *
        obtain ⟨i0, hi0, hz0, hz1, hz2⟩ := info_parts infoV
        have hmk := run_make_n (P := Try.prog) 35 58 i0 _ Try.underlying35 hi0 hz0 (by omega) .i64 .i64 vs.length (by have := HVL.out; omega)
        simp only [hz1, Value.cells] at hmk
        clear hz1 hz2 hz0 hi0
        have b0 : wr.cell? ⟨w.heap.size, 0, none⟩ = some (.string a.rel) := (HB.out.ext hX.out).cell 0
        have b1 : wr.cell? ⟨w.heap.size, 1, none⟩ = some (.slice A i c) := (HB.out.ext hX.out).cell 1
        go_wp2_with ((with_reducible refine HVS.out.mono ?_); rintro e w3 ⟨A3, c3, rfl, o3, x3⟩; have X3 := hide (hX.out.trans x3); have O3 := hide o3.lat; clear o3 x3 b0 b1)
        have HG0 := hide (show Blk (w3.alloc (.cells (madeCells #[Value.int .i64 0, Value.int .i64 0, Value.string .empty] (vs.length * 3)) 58)) w3.heap.size 58 (cellsR (outD vs a.terms r i)).toArray from by
          rw [HO0.out, ← zeroR_made]; exact Blk.new _ _ _)
        have HEG := hide (Ext.alloc w3 (.cells (madeCells #[Value.int .i64 0, Value.int .i64 0, Value.string .empty] (vs.length * 3)) 58))
        generalize hW4 : w3.alloc (.cells (madeCells #[Value.int .i64 0, Value.int .i64 0, Value.string .empty] (vs.length * 3)) 58) = W4 at *
        clear hW4
        have HG3 := hide (show w.heap.size ≤ w3.heap.size from Nat.le_trans HE.out.size X3.out.size)
        go_loopw [10] (fun s10 w' => ∃ k : Nat, k ≤ i ∧ s10 = .int .i64 ((k : Int) - 1) ∧ Hid (Blk w' w3.heap.size 58 (cellsR (outD vs a.terms r k)).toArray) ∧ Hid (Ext w3 w')) (fun s10 _ => (intOf s10 + 1).toNat)
        case atStart => exact ⟨i, by omega, by go_num, HG0.out, HEG.out⟩
        case round =>
          obtain ⟨k, hki, rfl, hG, hX4⟩ := hrel
          rcases Nat.eq_zero_or_pos k with h0 | h0
          · subst h0
            have e0 : ((0 : Nat) : Int) - 1 = -1 := rfl
            rw [e0]
            go_wp2_with fail
            go_ret2
            rw [HMA.out]
            have hl0 := HOL.out 0
            refine ⟨w3.heap.size, by rw [hl0]; rfl, HG3.out, hG.out, HE.out.trans (X3.out.trans hX4.out)⟩
          · obtain ⟨k, rfl⟩ : ∃ k', k = k' + 1 := ⟨k - 1, by omega⟩
            have e1 : (((k + 1 : Nat)) : Int) - 1 = (k : Int) := by omega
            rw [e1]
            clear e1 h0
            have hkm : k < i := by omega
            have b1 : wr.cell? ⟨w.heap.size, 1, none⟩ = some (.slice A i c) := (HB.out.ext (X3.out.trans hX4.out)).cell 1
            obtain ⟨b, off, t, rfl, hx, hb1, q0, q1, q2, q3⟩ := (HT.out.ext RT.stab (HE.out.trans (X3.out.trans hX4.out))).tm hkm
            obtain ⟨b', off', y, rfl, hy, hb2, d0, d1, d2⟩ := (HR.out.ext (HE.out.trans (X3.out.trans hX4.out))).get hkm
            have HX := hide hx; have HY := hide hy
            clear hx hy hb1 hb2 q1 q2 q3
            by_cases hv : 0 < t.v.size
            · have he := size_some hv
              have Hv := hide (noVar_false hv)
              have he3 : t.v.toList.isEmpty = false := Hv.out
              clear hv
              obtain ⟨p, hp, hp2, hp3⟩ := HPC.out k t HX.out Hv.out
              have HP3 := hide hp3; have HP2 := hide hp2
              clear hp2 hp3
              have HAC := hide (fun w1 (h1 : Ext wr w1) => (HP3.out ▸ (HATC.out t.v A3 vs.length c3 w1 (O3.out.ext RS.stab (hX4.out.trans h1))).mono fun _ _ h => ⟨h.1, h.2 ▸ Ext.refl _⟩ : Calls Try.prog 34 #[.slice A3 vs.length c3, .string t.v] w1 fun e w' => e = .returned (.int .i64 (p : Int)) ∧ Ext w1 w'))
              go_upto_region 19 with fail
              have b1 := cell_ext b1
              have q0 := cell_ext q0
              have d0 := cell_ext d0
              have d1 := cell_ext d1
              have d2 := cell_ext d2
              refine wp_region_ext 14 (by kernel_rfl) (by kernel_rfl) (by kernel_rfl) ?_
              iterate 14
                refine wpE_k (by kernel_rfl) (by kernel_rfl) ?_
                apply Exists.intro
                refine ⟨fun w1 hw1 => ?_, fun K hK => ?_⟩
                · go_simp; first | done | rfl | exact HAC.out w1 hw1
                go_simp; refine hK _ _ ?_; clear hK K
              refine wpE_nil ⟨rfl, by kernel_rfl, fun wq hwq => ?_⟩
              simp only [EndQ]
              clear b1 q0 d0 d1 d2
              clear b1 q0 d0 d1 d2
              simp only [List.drop]
              have HXq := hide (hX4.out.trans hwq)
              have HGq := hide (hG.out.ext hwq)
              clear hwq
              obtain ⟨x0, hx0⟩ : ∃ x0, (outD vs a.terms r (k + 1))[p]? = some x0 := ⟨_, List.getElem?_eq_getElem (by rw [HOL.out]; exact hp)⟩
              obtain ⟨g0, g1, g2⟩ := blkR_at HGq.out hx0
              have f0 := HGq.out.frozen (p * 3)
              have f1 := HGq.out.frozen (p * 3 + 1)
              have f2 := HGq.out.frozen (p * 3 + 2)
              clear hx0
              go_wp2_with fail
              go_roundw
              case rel =>
                refine ⟨k, by omega, by go_num, ?_, ext_put HXq.out (Nat.le_refl _) _ _ _⟩
                have h5 := blkR_put HGq.out (p := p) (by rw [HOL.out]; exact hp) y
                have h6 := HOV.out k t y HX.out HY.out Hv.out
                rw [HP2.out] at h6
                rw [Hid, h6]
                exact h5
              case measure => simp [intOf]
            · have he := size_empty (s := t.v) (by omega)
              have Hv := hide (noVar_true (t := t) (by omega))
              have he3 : t.v.toList.isEmpty = true := Hv.out
              clear hv
              go_wp2_with fail
              go_roundw
              case rel => exact ⟨k, by omega, by go_num, by rw [Hid, HOC.out k t y HX.out HY.out Hv.out]; exact hG.out, hX4.out⟩
              case measure => simp [intOf]
  · have hl2 : ((m : Int) != (n : Int)) = true := by simpa using fun e => hl (by exact_mod_cast e)
    have hfin := hide (show matchA a r = none from matchA_diff (by have := HL.out.1; have := HL.out.2; omega))
    go_enter Try.func25, Try.ntmps25
    go_wp2_with (rw [HW.out])
    go_ret2
    rw [hfin.out]
    exact ⟨rfl, HE.out⟩
end Go.Proofs.Ytpfjkjmimmklcaa
