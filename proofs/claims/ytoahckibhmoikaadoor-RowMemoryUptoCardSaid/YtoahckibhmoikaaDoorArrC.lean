/-
  slices.CompactFunc at rows: of neighbours that are one, the first stays.
-/
import Derived.Test.YtoahckibhmoikaaDoorArrS
import Derived.Test.YtoahckibhmoikaaDoorCmp2
import Derived.IntWalk
namespace Go.Proofs.YtoahckibhmoikaaDoor
open Go.RowKit

theorem same_cmp (r s : List V) : (cmpR r s == 0) = sameR r s := by
  rw [Bool.eq_iff_iff, beq_iff_eq, sameR_iff, isCmp_row.eq]
theorem arr_eq1 (p q : RP) (w : World) (hp : p.ok w) (hq : q.ok w) :
    Calls Tryd.prog 51 #[p.val, q.val] w fun e w' => e = .returned (.bool (rpSame p q)) ∧ Ext w w' := by
  obtain ⟨A, n, c, r⟩ := p
  obtain ⟨B, m, d, s⟩ := q
  have HC := hide (row_cmp r s A B n m c d w hp.1 hq.1 hp.2 hq.2)
  have HB := hide (same_cmp r s)
  clear hp hq
  simp only [RP.val, rpSame]
  generalize cmpR r s = k at *
  go_enter Tryd.func51, Tryd.ntmps51
  go_wp2_with fail
  refine HC.out.mono ?_
  rintro e w1 ⟨rfl, x1⟩
  have X1 := hide x1; clear x1
  go_wp2_with fail
  go_ret
  exact ⟨ret_bool (by rw [← HB.out]), X1.out⟩

theorem Blk.setCells {g : Nat} {t : TypeId} : ∀ (vs : List Value) (o : Nat) {w : World} {cs : List Value}, Blk w g t cs.toArray → o + vs.length ≤ cs.length → Blk (w.setCells g o vs) g t (cs.take o ++ vs ++ cs.drop (o + vs.length)).toArray
  | [], o, w, cs, h, _ => by simpa [World.setCells] using h
  | v :: vs, o, w, cs, h, hl => by
    simp only [List.length_cons] at hl
    have h1 := h.set_ o v
    rw [List.setIfInBounds_toArray] at h1
    have h2 := Blk.setCells vs (o + 1) h1 (by rw [List.length_set]; omega)
    rw [World.setCells]
    have e : (cs.set o v).take (o + 1) ++ vs ++ (cs.set o v).drop (o + 1 + vs.length) = cs.take o ++ v :: vs ++ cs.drop (o + (vs.length + 1)) := by
      rw [List.take_succ_eq_append_getElem (by rw [List.length_set]; omega), List.getElem_set_self, List.take_set_of_le (Nat.le_refl _), List.drop_set_of_lt (by omega)]
      simp [Nat.add_assoc, Nat.add_comm 1]
    rw [e] at h2
    exact h2
theorem Ext.setCells {a : World} {g : Nat} (hg : a.heap.size ≤ g) : ∀ (vs : List Value) (o : Nat) {w : World}, Ext a w → Ext a (w.setCells g o vs)
  | [], _, _, h => h
  | v :: vs, o, _, h => Ext.setCells hg vs (o + 1) (h.setCell (p := ⟨g, o, none⟩) hg v)
theorem rpC_get {ps : List RP} {i : Nat} {p : RP} (h : ps[i]? = some p) : (rpC ps)[i]? = some p.val := by simp [rpC, h]
theorem rpC_size (ps : List RP) : (rpC ps).size = ps.length := by simp [rpC]
/-- while it is being compacted: kk are kept, the places from u on are as they were -/
structure CInv (w : World) (g : Nat) (ps : List RP) (kk u j : Nat) : Prop where
  len : kk = (ddBy rpSame (ps.take j)).length
  le : kk ≤ u
  blk : ∃ cs : List Value, cs.length = ps.length ∧ cs.take kk = (ddBy rpSame (ps.take j)).map RP.val ∧ (∀ (x : Nat) (p : RP), u ≤ x → ps[x]? = some p → cs[x]? = some p.val) ∧ Blk w g 23 cs.toArray
theorem CInv.go {w w' : World} {g : Nat} {ps : List RP} {kk u j : Nat} (h : CInv w g ps kk u j) (hw : Ext w w') : CInv w' g ps kk u j := by
  obtain ⟨cs, h1, h2, h3, h4⟩ := h.blk
  exact ⟨h.len, h.le, cs, h1, h2, h3, h4.ext hw⟩
theorem CInv.cell {w : World} {g : Nat} {ps : List RP} {kk u j : Nat} (h : CInv w g ps kk u j) {x : Nat} {p : RP} (hu : u ≤ x) (hp : ps[x]? = some p) : w.cell? ⟨g, x, none⟩ = some p.val := by
  obtain ⟨cs, _, _, h3, h4⟩ := h.blk
  rw [h4.cell x]
  simpa using h3 x p hu hp
theorem CInv.room {w : World} {g : Nat} {ps : List RP} {kk u j x : Nat} (h : CInv w g ps kk u j) (hx : x < ps.length) : (∃ v, w.cell? ⟨g, x, none⟩ = some v) ∧ w.frozen? ⟨g, x, none⟩ = false := by
  obtain ⟨cs, h1, _, _, h4⟩ := h.blk
  refine ⟨⟨cs[x]'(by omega), ?_⟩, h4.frozen x⟩
  rw [h4.cell x]
  simp [show x < cs.length by omega]
theorem CInv.skip {w : World} {g : Nat} {ps : List RP} {kk u : Nat} {p q : RP} (h : CInv w g ps kk u (u + 1)) (hp : ps[u + 1]? = some p) (hq : ps[u]? = some q) (hs : rpSame p q = true) : CInv w g ps kk (u + 1) (u + 2) := by
  obtain ⟨cs, h1, h2, h3, h4⟩ := h.blk
  have e := dd_next rpSame hp hq
  rw [hs] at e
  simp only [if_true, List.append_nil] at e
  exact ⟨by rw [e]; exact h.len, Nat.le_succ_of_le h.le, cs, h1, by rw [e]; exact h2, fun x p' hx hp' => h3 x p' (by omega) hp', h4⟩
theorem CInv.keep {w : World} {g : Nat} {ps : List RP} {kk u : Nat} {p q : RP} (h : CInv w g ps kk u (u + 1)) (hp : ps[u + 1]? = some p) (hq : ps[u]? = some q) (hs : rpSame p q = false) : CInv (w.setCell ⟨g, kk, none⟩ p.val) g ps (kk + 1) (u + 1) (u + 2) := by
  obtain ⟨cs, h1, h2, h3, h4⟩ := h.blk
  have e := dd_next rpSame hp hq
  rw [hs] at e
  simp only [Bool.false_eq_true, if_false] at e
  have hul := (List.getElem?_eq_some_iff.1 hp).1
  have hle := h.le
  have hb := h4.set_ kk p.val
  rw [List.setIfInBounds_toArray] at hb
  refine ⟨by rw [e, List.length_append, ← h.len]; rfl, by omega, cs.set kk p.val, by rw [List.length_set]; exact h1, ?_, fun x p' hx hp' => ?_, hb⟩
  · rw [List.take_succ_eq_append_getElem (by rw [List.length_set]; omega), List.getElem_set_self, List.take_set_of_le (Nat.le_refl _), h2, e, List.map_append]
    rfl
  · rw [List.getElem?_set_ne (by omega)]
    exact h3 x p' (by omega) hp'
theorem CInv.start {w : World} {g : Nat} {ps : List RP} {i : Nat} {p q : RP} (hB : Blk w g 23 (rpC ps)) (hd : ddBy rpSame (ps.take (i + 1)) = ps.take (i + 1)) (hp : ps[i + 1]? = some p) (hq : ps[i]? = some q) (hs : rpSame p q = true) : CInv w g ps (i + 1) (i + 1) (i + 2) := by
  have e := dd_next rpSame hp hq
  rw [hs] at e
  simp only [if_true, List.append_nil] at e
  have hul := (List.getElem?_eq_some_iff.1 hp).1
  refine ⟨?_, Nat.le_refl _, ps.map RP.val, by simp, ?_, fun x p' _ hp' => by simp [hp'], hB⟩
  · rw [e, hd, List.length_take]; omega
  · rw [e, hd, List.map_take]
/-- the slice that is handed back, and what lies behind it -/
structure Kept (w0 w : World) (g : Nat) (qs : List RP) (n : Nat) : Prop where
  blk : ∃ tail : List Value, (qs.map RP.val ++ tail).length = n ∧ Blk w g 23 (qs.map RP.val ++ tail).toArray
  ext : Ext w0 w

theorem zeroRow (w : World) : (zeroValue 23).run Tryd.prog w = .ok (.slice none 0 0) w := by kernel_rfl

set_option maxHeartbeats 4000000 in
set_option maxRecDepth 100000 in
theorem compact_rows (ps : List RP) (w0 w : World) (g c : Nat) (hE : Ext w0 w) (hg : w0.heap.size ≤ g) (hB : Blk w g 23 (rpC ps)) (hok : ∀ p ∈ ps, p.ok w0) (hn : ps.length ≤ 16777216) (hc : ps.length ≤ c) :
    Calls Tryd.prog 50 #[.slice (some ⟨g, 0, none⟩) ps.length c, .func (.func 51) #[] #[]] w fun e w' => e = .returned (.slice (some ⟨g, 0, none⟩) (ddBy rpSame ps).length c) ∧ Kept w0 w' g (ddBy rpSame ps) ps.length := by
  obtain ⟨n, hnl⟩ : ∃ n, n = ps.length := ⟨_, rfl⟩
  have Hn := hide hnl
  have HB := hide hB; have HOK := hide hok; have HE := hide hE
  clear hB hok hE
  rw [← hnl] at hn hc ⊢
  clear hnl
  have hkept : ∀ w', Ext w0 w' → Blk w' g 23 (rpC ps) → ddBy rpSame ps = ps → Kept w0 w' g (ddBy rpSame ps) n := fun w' h1 h2 h3 => by
    rw [h3]
    exact ⟨⟨[], by simp [Hn.out], by simpa [rpC] using h2⟩, h1⟩
  have HK := hide hkept; clear hkept
  have eg : ∀ args w, (callFunc 51 args).run Tryd.prog w = .ok (.enter 51 args) w := enters_of Tryd.func51 (by kernel_rfl) rfl
  by_cases h2 : n < 2
  · have hd : ddBy rpSame ps = ps := by
      have hl := Hn.out
      match ps, hl with
      | [], _ => rfl
      | [x], _ => rfl
      | x :: y :: l, h => simp only [List.length_cons] at h; omega
    have hret := hide (And.intro (show (ddBy rpSame ps).length = n by rw [hd]; exact Hn.out.symm) (HK.out w HE.out HB.out hd))
    clear hd
    go_enter Tryd.func50, Tryd.ntmps50
    go_wp2_with fail
    go_ret
    exact ⟨by rw [hret.out.1]; rfl, hret.out.2⟩
  · go_enter Tryd.func50, Tryd.ntmps50
    go_wp2_with fail
    go_loopw [5] (fun s5 w' => ∃ i : Nat, i + 1 ≤ n ∧ s5 = .int .i64 ((i : Int) + 1) ∧ Hid (ddBy rpSame (ps.take (i + 1)) = ps.take (i + 1)) ∧ Hid (Blk w' g 23 (rpC ps)) ∧ Hid (Ext w0 w')) (fun s5 _ => n + 1 - (intOf s5).toNat)
    case atStart =>
      have hp0 : ps[0]? = some (ps[0]'(by have := Hn.out; omega)) := List.getElem?_eq_getElem _
      refine ⟨0, by omega, rfl, ?_, HB.out, HE.out⟩
      rw [Hid, dd_one rpSame hp0, List.take_one, List.head?_eq_getElem?, hp0]
      rfl
    case round =>
      obtain ⟨i, hin, rfl, hd, hB, hX⟩ := hrel
      by_cases h : i + 1 < n
      · obtain ⟨p, hp⟩ : ∃ p, ps[i + 1]? = some p := ⟨_, List.getElem?_eq_getElem (by have := Hn.out; omega)⟩
        obtain ⟨q, hq⟩ : ∃ q, ps[i]? = some q := ⟨_, List.getElem?_eq_getElem (by have := Hn.out; omega)⟩
        have HP := hide hp; have HQ := hide hq
        have c1 := cell_ext (show wr.cell? ⟨g, i + 1, none⟩ = some p.val from (hB.out.cell (i + 1)).trans (rpC_get hp))
        have c0 := cell_ext (show wr.cell? ⟨g, i, none⟩ = some q.val from (hB.out.cell i).trans (rpC_get hq))
        have HAE := hide (fun w1 (h1 : Ext wr w1) => arr_eq1 p q w1 ((HOK.out p (List.mem_of_getElem? hp)).ext (hX.out.trans h1)) ((HOK.out q (List.mem_of_getElem? hq)).ext (hX.out.trans h1)))
        have hi1 : ((i : Int) + 1) < (n : Int) := by omega
        have hi0 : (0 : Int) ≤ (i : Int) := by omega
        have hin2 : ((i : Int)) < (n : Int) := by omega
        have hw0 : IntKind.i64.wrap (i : Int) = (i : Int) := IntWalk.i64_in _ (by omega)
        have hw1 : ((i : Int) + 1).toNat = i + 1 := by omega
        have hw2 : (0 : Int) ≤ (i : Int) + 1 := by omega
        clear hp hq
        go_wp2_with fail
        refine wp_region_ext 11 (by kernel_rfl) (by kernel_rfl) (by kernel_rfl) ?_
        iterate 11
          refine wpE_k (by kernel_rfl) (by kernel_rfl) ?_
          apply Exists.intro
          refine ⟨fun w1 hw1 => ?_, fun K hK => ?_⟩
          · go_simp; first | done | rfl | exact HAE.out w1 hw1
          go_simp; refine hK _ _ ?_; clear hK K
        refine wpE_nil ⟨rfl, by kernel_rfl, fun wq hwq => ?_⟩
        simp only [EndQ]
        refine wpList_nil ?_
        have Hwq := hide hwq; clear hwq
        clear c1 c0 hw0 hw1 hw2
        have hdn := dd_next rpSame HP.out HQ.out
        cases hs : rpSame p q with
        | false =>
          have hnx := hide (show ddBy rpSame (ps.take (i + 1 + 1)) = ps.take (i + 1 + 1) by
            rw [hdn, hs, hd.out, List.take_add_one (l := ps) (i := i + 1), HP.out]; rfl)
          clear hdn hs
          go_wp2_with fail
          go_roundw
          case rel => exact ⟨i + 1, by omega, by go_num, hnx.out, hB.out.ext Hwq.out, hX.out.trans Hwq.out⟩
          case measure => simp [intOf]; omega
        | true =>
          have HI0 := hide ((CInv.start hB.out hd.out HP.out HQ.out hs).go Hwq.out)
          have HXq := hide (hX.out.trans Hwq.out)
          clear hdn hs
          have hne : ¬ c = i + 1 := by omega
          have hle1 : (i : Int) + 1 ≤ (n : Int) := by omega
          have hle2 : (n : Int) ≤ (c : Int) := by omega
          go_wp2_with fail
          go_loopw [5, 7] (fun s5 s7 w' => ∃ kk m : Nat, s5 = .int .i64 (kk : Int) ∧ s7 = .int .i64 ((m : Int) + 1) ∧ i + 1 + m + 1 ≤ n ∧ kk ≤ i + 1 + m ∧ Hid (CInv w' g ps kk (i + 1 + m) (i + 1 + m + 1)) ∧ Hid (Ext w0 w')) (fun _ s7 _ => n + 1 - (intOf s7).toNat)
          case atStart => exact ⟨i + 1, 0, by go_num, by go_num, by omega, by omega, HI0.out, HXq.out⟩
          case round =>
            clear HI0 HXq hB hX hd
            obtain ⟨kk, m, rfl, rfl, hmn, hkm, hI, hX⟩ := hrel
            have hle3 : ((n - (i + 1) : Nat) : Int) = (n : Int) - (i : Int) - 1 := by omega
            have Hle3 := hide hle3; clear hle3
            by_cases hm : i + 1 + m + 1 < n
            · obtain ⟨p', hp'⟩ : ∃ p, ps[i + 1 + m + 1]? = some p := ⟨_, List.getElem?_eq_getElem (by have := Hn.out; omega)⟩
              obtain ⟨q', hq'⟩ : ∃ q, ps[i + 1 + m]? = some q := ⟨_, List.getElem?_eq_getElem (by have := Hn.out; omega)⟩
              have HP' := hide hp'; have HQ' := hide hq'
              have c1 := cell_ext (show wr.cell? ⟨g, i + 1 + (m + 1), none⟩ = some p'.val from hI.out.cell (x := i + 1 + (m + 1)) (by omega) hp')
              have c0 := cell_ext (show wr.cell? ⟨g, i + 1 + m, none⟩ = some q'.val from hI.out.cell (Nat.le_refl _) hq')
              have HAE' := hide (fun w1 (h1 : Ext wr w1) => arr_eq1 p' q' w1 ((HOK.out p' (List.mem_of_getElem? hp')).ext (hX.out.trans h1)) ((HOK.out q' (List.mem_of_getElem? hq')).ext (hX.out.trans h1)))
              have hm1 : ((m : Int) + 1) < ((n - (i + 1) : Nat) : Int) := by have := Hle3.out; omega
              have hm0 : (0 : Int) ≤ (m : Int) := by omega
              have hmn2 : (m : Int) < ((n - (i + 1) : Nat) : Int) := by have := Hle3.out; omega
              have hw0 : IntKind.i64.wrap (m : Int) = (m : Int) := IntWalk.i64_in _ (by omega)
              have hw1 : ((m : Int) + 1).toNat = m + 1 := by omega
              have hw2 : (0 : Int) ≤ (m : Int) + 1 := by omega
              clear hp' hq'
              go_wp2_with fail
              refine wp_region_ext 12 (by kernel_rfl) (by kernel_rfl) (by kernel_rfl) ?_
              iterate 12
                refine wpE_k (by kernel_rfl) (by kernel_rfl) ?_
                apply Exists.intro
                refine ⟨fun w1 hw1 => ?_, fun K hK => ?_⟩
                · go_simp; first | done | rfl | exact HAE'.out w1 hw1
                go_simp; refine hK _ _ ?_; clear hK K
              refine wpE_nil ⟨rfl, by kernel_rfl, fun wq2 hwq2 => ?_⟩
              simp only [EndQ]
              refine wpList_nil ?_
              have Hwq2 := hide hwq2; clear hwq2
              clear c1 c0 hw0 hw1 hw2
              have HI2 := hide (hI.out.go Hwq2.out)
              cases hs2 : rpSame p' q' with
              | true =>
                have HI3 := hide (HI2.out.skip HP'.out HQ'.out hs2)
                clear hs2
                go_wp2_with fail
                go_roundw
                case rel => exact ⟨kk, m + 1, rfl, by go_num, by omega, by omega, HI3.out, hX.out.trans Hwq2.out⟩
                case measure => simp [intOf]; omega
              | false =>
                have HI3 := hide (HI2.out.keep HP'.out HQ'.out hs2)
                clear hs2
                have c1 : wq2.cell? ⟨g, i + 1 + (m + 1), none⟩ = some p'.val := HI2.out.cell (x := i + 1 + (m + 1)) (by omega) HP'.out
                obtain ⟨⟨v0, c2⟩, f2⟩ := HI2.out.room (x := kk) (by have := Hn.out; omega)
                have hkn : kk < n := by omega
                clear HAE'
                obtain ⟨pA, pn, pc, pr⟩ := p'
                simp only [RP.val] at c1 HI3 ⊢
                go_wp2_with fail
                go_roundw
                case rel => first | exact ⟨kk + 1, m + 1, by go_num, by go_num, by omega, by omega, HI3.out, (hX.out.trans Hwq2.out).setCell (p := ⟨g, kk, none⟩) hg _⟩ | ((repeat apply Exists.intro); exact ⟨⟨kk + 1, m + 1, by go_num, by go_num, by omega, by omega, HI3.out, (hX.out.trans Hwq2.out).setCell (p := ⟨g, kk, none⟩) hg _⟩, rfl⟩)
                case measure => simp [intOf]; omega
            · have hkn : kk < n := by omega
              have hnk : ¬ c = kk := by omega
              have hcl : ∀ ty, (Builtin.clear_ #[47] ty #[.slice (some ⟨g, kk, none⟩) (n - kk) (c - kk)]).run Tryd.prog wr = .ok (.tuple #[]) (wr.setCells g kk (List.replicate (n - kk) (.slice none 0 0))) := fun ty => by
                have h1 := Lib.run_clear_slice (P := Tryd.prog) wr _ _ ty _ Tryd.underlying47 zeroRow rfl rfl g kk (n - kk) (c - kk) (by omega)
                  (fun j hj => by obtain ⟨⟨v, e⟩, _⟩ := hI.out.room (x := kk + j) (by have := Hn.out; omega); rw [e]; rfl) (fun j hj => (hI.out.room (x := kk + j) (by have := Hn.out; omega)).2)
                exact h1
              have hfin := hide (show (ddBy rpSame ps).length = kk ∧ Kept w0 (wr.setCells g kk (List.replicate (n - kk) (.slice none 0 0))) g (ddBy rpSame ps) n by
                have hall : ps.take (i + 1 + m + 1) = ps := List.take_of_length_le (by have := Hn.out; omega)
                obtain ⟨cs, h1, h2, _, h4⟩ := hI.out.blk
                have hlen := hI.out.len
                rw [hall] at h2 hlen
                have hn' := Hn.out
                have h5 := Blk.setCells (List.replicate (n - kk) (Value.slice none 0 0)) kk h4 (by rw [List.length_replicate]; omega)
                rw [List.length_replicate, List.drop_of_length_le (by omega), List.append_nil, h2] at h5
                exact ⟨hlen.symm, ⟨_, by rw [List.length_append, List.length_map, List.length_replicate]; omega, h5⟩, Ext.setCells hg _ _ hX.out⟩)
              go_wp2_with fail
              go_ret
              exact ⟨by rw [hfin.out.1]; rfl, hfin.out.2⟩
      · have hall := hide (And.intro (show ddBy rpSame ps = ps by
            have h1 := hd.out
            rwa [List.take_of_length_le (by have := Hn.out; omega)] at h1) Hn.out)
        have hret := hide (And.intro (show (ddBy rpSame ps).length = n by rw [hall.out.1]; exact hall.out.2.symm) (HK.out wr hX.out hB.out hall.out.1))
        go_wp2_with fail
        go_ret
        exact ⟨by rw [hret.out.1]; rfl, hret.out.2⟩
end Go.Proofs.YtoahckibhmoikaaDoor
