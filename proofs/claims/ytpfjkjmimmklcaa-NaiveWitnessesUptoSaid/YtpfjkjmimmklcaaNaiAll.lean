/-
  The document's All: the answers, the trials, the error.
-/
import Derived.Test.YtpfjkjmimmklcaaNaiWalk
import Derived.Test.YtpfjkjmimmklcaaNaiH
import Derived.Test.YtpfjkjmimmklcaaArrR
import Derived.Test.YtpfjkjmimmklcaaCloseA
namespace Go.Proofs.Ytpfjkjmimmklcaa
open Go.RowKit

theorem leaf_small {q : Qy} {data : List Tbl} {M : Nat} (hd : ∀ t ∈ data, ∀ r ∈ t.rows, ∀ x ∈ r, x.t.size ≤ M) : ∀ v ∈ leavesQ q data, ∀ x ∈ v, x.t.size ≤ M := fun v hv x hx => by
  obtain ⟨rest, hr⟩ := pre_len q q.atoms.length
  have e0 : flatT q.atoms q.atoms.length = q.atoms.flatMap (·.terms) := by unfold flatT; rw [List.take_of_length_le (Nat.le_refl _)]
  rw [e0] at hr
  obtain ⟨σ, -, h2, h3⟩ := (leaves_iff (varsQ q) data q.atoms [] rest [] v hr rfl List.nodup_nil).1 hv
  rw [h3] at hx
  obtain ⟨y, hy, rfl⟩ := List.mem_map.1 hx
  rcases (mem_addTs _ _ _).1 hy with h1 | ⟨t, h4, h5, h6⟩
  · cases h1
  · obtain ⟨a, ha, hta⟩ := List.mem_flatMap.1 h4
    obtain ⟨tb, h7, -, h8⟩ := rowsOfP_mem (h2 a ha)
    refine hd tb h7 _ h8 _ (List.mem_map.2 ⟨t, hta, ?_⟩)
    simp [valT, h5, h6]
theorem head_small {hs : List Nat} {v : List V} {M : Nat} (h : ∀ x ∈ v, x.t.size ≤ M) : ∀ x ∈ headV hs v, x.t.size ≤ M := fun x hx => by
  unfold headV at hx
  obtain ⟨k, -, rfl⟩ := List.mem_map.1 hx
  rw [List.getD_eq_getElem?_getD]
  cases hk : v[k]? with
  | none => exact Nat.zero_le _
  | some y => exact h y (List.mem_of_getElem? hk)

/-- a row of the call's own, as a value -/
def HvIs (base : Nat) (r : List V) (u : Value) (w : World) : Prop := ∃ A c, u = .slice A r.length c ∧ w.ownsRow base 58 3 (.slice A r.length c) r.length (cellsR r)
theorem HvIs.ext {b : Nat} {r : List V} {u : Value} {w w' : World} (h : HvIs b r u w) (hw : Ext w w') : HvIs b r u w' := by
  obtain ⟨A, c, h1, h2⟩ := h
  exact ⟨A, c, h1, mine_ext h2 hw⟩
/-- what All hands back -/
def RetAl (w0 : World) (v : List (List V) × Nat × Int) (en : Ending) (w' : World) : Prop :=
  ∃ A c, en = .returned (.tuple #[.slice A v.1.length c, .int .i64 v.2.1, .int .i64 v.2.2]) ∧ LAt RRow 1 w' A v.1.length v.1 ∧ Ext w0 w'
theorem RetAl.none {w0 w' : World} {e : Int} (h : Ext w0 w') : RetAl w0 ([], 0, e) (.returned (.tuple #[.slice .none 0 0, .int .i64 0, .int .i64 e])) w' := ⟨.none, 0, rfl, LAt.nil _, h⟩

set_option maxHeartbeats 4000000 in
set_option maxRecDepth 100000 in
theorem ref_all (q : Qy) (L : QLoc) (data : List Tbl) (B : Option Addr) (m c : Nat) (w : World) (hq : QAt w L q) (hM : smallM 1048576 q)
    (hb : LAt RB 2 w B m data) (hd : ∀ t ∈ data, smallTb 1048576 t) (hm : m ≤ 1048576) :
    Calls Try.prog 29 #[qval q.name L, .slice B m c] w (RetAl w (collectP q data)) := by
  have hs1 : (data.flatMap Tbl.rows).length ≤ 1099511627776 := Nat.le_trans (sum_rows data hd) (by have := hb.len; have : data.length * 1048576 ≤ 1048576 * 1048576 := Nat.mul_le_mul_right _ (by omega); omega)
  have HSP := hide (fun w1 (h1 : Ext w w1) => ref_shape q L w1 (hq.ext h1) hM)
  have HWK := hide (fun w1 (h1 : Ext w w1) (hsh : Shaped q) => ref_walk q L data B m c w1 (hq.ext h1) hM hsh (hb.ext RB.stab h1) hm hs1 (fun t ht r hr => ((hd t ht).2.2 r hr).1))
  have HHD := hide (fun (vals : List V) (A1 : Option Addr) (n1 c1 : Nat) w1 (h1 : Ext w w1) (hsh : Shaped q) (hv : RowAt w1 A1 n1 vals) (hn : n1 = (varsQ q).length) => ref_head q L vals A1 n1 c1 w1 (hq.ext h1) hM hsh hv hn)
  have HSM := hide (leaf_small (q := q) (data := data) (M := 1048576) (fun t ht r hr x hx => ((hd t ht).2.2 r hr).2.1 x hx))
  have HHL := hide hM.headL
  have HLL := hide (show ∀ v ∈ leavesQ q data, v.length = (varsQ q).length from fun v hv => by
    rw [← partsI_done] at hv
    exact partsI_full v hv)
  have HCO := hide (show shapeQ q = 0 → costP q data ≤ 131072 → collectP q data = (arrP ((leavesQ q data).map (headV (q.head.map (atN (varsQ q))))), costP q data, 0) from fun h1 h2 => by unfold collectP ansP leavesQ; rw [if_pos h1, if_pos h2])
  have HCN := hide (show shapeQ q = 0 → ¬ costP q data ≤ 131072 → collectP q data = ([], 0, 120) from fun h1 h2 => by unfold collectP; rw [if_pos h1, if_neg h2])
  have HCS := hide (show ¬ shapeQ q = 0 → collectP q data = ([], 0, shapeQ q) from fun h1 => by unfold collectP; rw [if_neg h1])
  have HSH := hide (show shapeQ q = 0 → Shaped q from shapeQ_iff.1)
  clear hq hM hb hd hm hs1
  have HWY := hide (fun w1 h1 h2 (hc : costP q data ≤ 131072) => (HWK.out w1 h1 h2).mono fun _ _ h => RetWp.ok h hc)
  have HWN := hide (fun w1 h1 h2 (hc : ¬ costP q data ≤ 131072) => (HWK.out w1 h1 h2).mono fun _ _ h => RetWp.bad h hc)
  clear HWK
  generalize collectP q data = co at *
  generalize leavesQ q data = lv at *
  generalize costP q data = ct at *
  generalize shapeQ q = sq at *
  generalize varsQ q = vs at *
  obtain ⟨nm, hdl, as_⟩ := q
  obtain ⟨A, n, cA, AB, k, d⟩ := L
  simp only [qval] at *
  have HBk := hide (Blk.new w 25 #[.string nm, .slice A n cA, .slice AB k d])
  have HE := hide (Ext.alloc w (.cells #[.string nm, .slice A n cA, .slice AB k d] 25))
  generalize hW : w.alloc (.cells #[.string nm, .slice A n cA, .slice AB k d] 25) = W at *
  have HW := hide hW; clear hW
  have a0 : W.cell? ⟨w.heap.size, 0, none⟩ = some (.string nm) := HBk.out.cell 0
  have a1 : W.cell? ⟨w.heap.size, 1, none⟩ = some (.slice A n cA) := HBk.out.cell 1
  have a2 : W.cell? ⟨w.heap.size, 2, none⟩ = some (.slice AB k d) := HBk.out.cell 2
  by_cases h0 : sq = 0
  · subst h0
    have HSD := hide (HSH.out rfl)
    by_cases hc : ct ≤ 131072
    · rw [HCO.out rfl hc]
      go_enter Try.func29, Try.ntmps29
      obtain ⟨i0, hi0, hz0, hz1, hz2⟩ := info_parts infoRw
      go_wp2_with (first
        | (rw [HW.out]; (with_reducible refine (HSP.out _ HE.out).mono ?_); rintro e w3 ⟨rfl, x3⟩; have X3 := hide (HE.out.trans x3); have b0 := (HBk.out.ext x3).cell 0; have b1 := (HBk.out.ext x3).cell 1; have b2 := (HBk.out.ext x3).cell 2; have HB3 := hide (HBk.out.ext x3); clear x3 a0 a1 a2)
        | ((with_reducible refine (HWY.out _ X3.out HSD.out hc).mono ?_); rintro e w4 ⟨A8, c8, rfl, hl8, l8, x4⟩; have X4 := hide (X3.out.trans x4); have L8 := hide l8; have HB4 := hide (HB3.out.ext x4); clear l8 x4 b0 b1 b2
           have hmk := run_make_n (P := Try.prog) 27 35 i0 _ Try.underlying27 hi0 hz0 (by omega) .i64 .i64 lv.length (by omega)
           simp only [hz1] at hmk))
      have HLN := hide hl8
      clear hmk hl8
      have HRL := hide (show (lv.map (headV (hdl.map (atN vs)))).length = lv.length from List.length_map ..)
      have HRG := hide (fun i v (h : lv[i]? = some v) => (show (lv.map (headV (hdl.map (atN vs))))[i]? = some (headV (hdl.map (atN vs)) v) by rw [List.getElem?_map, h]; rfl))
      have HROK := hide (show ∀ r ∈ lv.map (headV (hdl.map (atN vs))), r.length ≤ 1048576 ∧ smallR r from fun r hr => by
        obtain ⟨v, hv, rfl⟩ := List.mem_map.1 hr
        exact ⟨by have := HHL.out; simpa [headV] using this, fun x hx => head_small (HSM.out v hv) x hx⟩)
      have HI0 := hide (show CpR w4 (w4.alloc (.cells (madeCells #[Value.slice none 0 0] lv.length) 35)) w4.heap.size (lv.map (headV (hdl.map (atN vs)))) lv.length 0 from by
        refine ⟨⟨[], rfl, ?_, by simpa using Els.nil⟩, Ext.alloc _ _⟩
        have h := Blk.new w4 35 (madeCells #[Value.slice none 0 0] lv.length)
        have e : (([] : List Value) ++ List.replicate (lv.length - 0) (Value.slice none 0 0)).toArray = madeCells #[Value.slice none 0 0] lv.length := by
          apply Array.toList_inj.1
          simpa using (toList_madeCells_one (Value.slice none 0 0) lv.length).symm
        rw [e]
        exact h)
      have HHV := hide (show ∀ v, (headV (hdl.map (atN vs)) v).length = hdl.length from fun v => by simp [headV])
      generalize hRR : lv.map (headV (hdl.map (atN vs))) = rr at *
      clear hRR
      generalize hHV : headV (hdl.map (atN vs)) = hv at *
      clear hHV
      generalize hW5 : w4.alloc (.cells (madeCells #[Value.slice none 0 0] lv.length) 35) = W5 at *
      clear hW5
      go_loopw [12] (fun s12 w' => ∃ i : Nat, i ≤ lv.length ∧ s12 = .int .i64 i ∧ Hid (CpR w4 w' w4.heap.size rr lv.length i)) (fun s12 _ => lv.length - (intOf s12).toNat)
      case atStart => exact ⟨0, by omega, rfl, HI0.out⟩
      case round =>
        obtain ⟨i, hin, rfl, hI⟩ := hrel
        have hln := HLN.out
        by_cases h : i < lv.length
        · obtain ⟨b, off, v, cs, rfl, hx, hb1, hcl, hone, ⟨A9, n9, c9, B9, m9, d9, xs, rfl, hR9, hN9, hm9⟩, hcell⟩ := (L8.out.ext (RPart.stab _) hI.out.ext).get (by decide) h
          have d0 := cell_ext (show wr.cell? ⟨b, off + i * 2, none⟩ = some (.slice A9 n9 c9) from hcell 0 (by decide))
          have a0 := cell_ext (show wr.cell? ⟨w.heap.size, 0, none⟩ = some (.string nm) from (HB4.out.ext hI.out.ext).cell 0)
          have a1 := cell_ext (show wr.cell? ⟨w.heap.size, 1, none⟩ = some (.slice A n cA) from (HB4.out.ext hI.out.ext).cell 1)
          have a2 := cell_ext (show wr.cell? ⟨w.heap.size, 2, none⟩ = some (.slice AB k d) from (HB4.out.ext hI.out.ext).cell 2)
          have HHC := hide (fun w1 (h1 : Ext wr w1) => HHD.out v A9 n9 c9 w1 (X4.out.trans (hI.out.ext.trans h1)) HSD.out (hR9.ext h1) (by rw [hR9.len, HLL.out v (List.mem_of_getElem? hx)]))
          have HRI := hide (HRG.out i v hx)
          have HH := hide h
          clear hx hb1 hcl hone hR9 hN9 hm9 hcell
          go_upto_region 11 with fail
          refine wp_region_ext 10 (by kernel_rfl) (by kernel_rfl) (by kernel_rfl) ?_
          iterate 8
            refine wpE_k (by kernel_rfl) (by kernel_rfl) ?_
            apply Exists.intro
            refine ⟨fun w1 hw1 => ?_, fun K hK => ?_⟩
            · go_simp; first | done | rfl
            go_simp; refine hK _ _ ?_; clear hK K
          refine wpE_p [] (HvIs w4.heap.size (hv v)) (fun u w1 w2 _ h2 h => HvIs.ext h h2) rfl (by kernel_rfl) (fun w1 hw1 => ?_) ?_
          · simp only [LookQ]
            clear a0 a1 a2 d0
            go_simp
            refine ⟨Ext.refl _, (HHC.out w1 hw1).mono ?_⟩
            rintro e w9 ⟨A5, c5, rfl, o5, x5⟩
            refine ⟨_, rfl, x5, A5, c5, by rw [HHV.out v], ?_⟩
            rw [HHV.out v]
            exact mine_base o5 (Nat.le_trans hI.out.ext.size hw1.size)
          iterate 1
            refine wpE_k (by kernel_rfl) (by kernel_rfl) ?_
            apply Exists.intro
            refine ⟨fun w1 hw1 => ?_, fun K hK => ?_⟩
            · go_simp; first | done | rfl
            go_simp; refine hK _ _ ?_; clear hK K
          refine wpE_nil ⟨rfl, by kernel_rfl, fun w1 hw1 => ?_⟩
          simp only [EndQ, List.drop]
          rintro _ ⟨A5, c5, rfl, o5⟩
          clear a0 a1 a2 d0
          have HO5 := hide o5
          have HI5 := hide (hI.out.go hw1)
          have c0 := (HI5.out.at_ HH.out).1
          have f0 := (HI5.out.at_ HH.out).2
          clear o5 hw1 hI
          go_wp2_with fail
          go_roundw
          case rel => exact ⟨i + 1, by omega, by go_num, HI5.out.put HH.out HRI.out (Nat.le_refl _) HO5.out⟩
          case measure => simp [intOf]; omega
        · obtain rfl : i = lv.length := by omega
          have hfin := hI.out.done HRL.out.symm (by unfold maxLen; omega) (Nat.le_refl _)
          have HX := hide hI.out.ext
          obtain ⟨A5, n5, c5, cells, e5, hn5, ho5, he5, -⟩ := hfin
          injection e5 with e5
          injection e5 with q1 q2 q3
          subst q1; subst q2; subst q3
          have HLR := hide (mine_lat hn5 ho5 he5)
          have HAR := hide (ref_arrange rr.length rr _ _ lv.length wr (Nat.le_refl _) HLR.out (Nat.le_refl _) (by omega) HROK.out)
          clear hn5 ho5 he5
          go_wp2_with ((with_reducible refine HAR.out.mono ?_); rintro e w6 ⟨A6, n6, c6, cells6, rfl, hn6, ho6, he6, x6⟩; have HL6 := hide (mine_lat hn6 ho6 he6); have HN6 := hide hn6; have X6 := hide (X4.out.trans (HX.out.trans x6)); clear hn6 ho6 he6 x6)
          go_ret3
          have hn6 := HN6.out
          subst hn6
          exact ⟨A6, c6, rfl, HL6.out, X6.out⟩
    · rw [HCN.out rfl hc]
      go_enter Try.func29, Try.ntmps29
      go_wp2_with (first
        | (rw [HW.out]; (with_reducible refine (HSP.out _ HE.out).mono ?_); rintro e w3 ⟨rfl, x3⟩; have X3 := hide (HE.out.trans x3); have b0 := (HBk.out.ext x3).cell 0; have b1 := (HBk.out.ext x3).cell 1; have b2 := (HBk.out.ext x3).cell 2; clear x3 a0 a1 a2)
        | ((with_reducible refine (HWN.out _ X3.out HSD.out hc).mono ?_); rintro e w4 ⟨rfl, x4⟩; have X4 := hide (X3.out.trans x4); clear x4 b0 b1 b2))
      go_ret3
      exact RetAl.none X4.out
  · rw [HCS.out h0]
    have hne : (sq != 0) = true := by simpa using h0
    go_enter Try.func29, Try.ntmps29
    go_wp2_with (rw [HW.out]; (with_reducible refine (HSP.out _ HE.out).mono ?_); rintro e w3 ⟨rfl, x3⟩; have X3 := hide (HE.out.trans x3); clear x3 a0 a1 a2)
    go_ret3
    exact RetAl.none X3.out
end Go.Proofs.Ytpfjkjmimmklcaa
