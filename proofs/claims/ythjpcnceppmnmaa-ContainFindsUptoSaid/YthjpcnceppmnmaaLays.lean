/-
  Lays: is it a laying so far?
-/
import Derived.Test.YthjpcnceppmnmaaApp2
namespace Go.Proofs.Ythjpcnceppmnmaa
open Go.RowKit

set_option maxHeartbeats 8000000 in
set_option maxRecDepth 100000 in
theorem lays_any (f t : Qy) (LF LT : QLoc) (im : List Nat) (A0 : Option Addr) (n0 c0 : Nat) (w : World) (hf : QAt w LF f) (ht : QAt w LT t) (hMf : smallM 1048576 f) (hMt : smallM 1048576 t) (hd : dblB f.head = false) (hh : f.head.length = t.head.length)
    (hI : LAt RN 1 w A0 n0 im) (hil : n0 ≤ f.atoms.length) (hij : ∀ j ∈ im, j < t.atoms.length) :
    Calls Try.prog 65 #[qval f.name LF, qval t.name LT, .slice A0 n0 c0] w fun e w' => e = .returned (.bool (envIm f.atoms t.atoms im 0 (env0 f.head t.head envNone)).isSome) ∧ Ext w w' := by
  obtain ⟨i0, hi0, hz0, hz1, hz2⟩ := info_parts infoS
  obtain ⟨j0, hj0, hy0, hy1, hy2⟩ := info_parts infoT
  rw [env0_heads (ys := t.head) hd]
  have hnf := hf.head.len; have hnt := ht.head.len
  have hnl : LF.n ≤ 1048576 := by have := hMf.headL; omega
  have hfa := hf.atoms.len; have hta := ht.atoms.len; have hni := hI.len
  have hfal : f.atoms.length ≤ 1048576 := hMf.atomsL
  have HL := hide (And.intro hnf (And.intro hnt (And.intro hh (And.intro hfa (And.intro hta (And.intro hni (And.intro hil hfal)))))))
  have HQF := hide hf; have HQT := hide ht; have HMF := hide hMf; have HMT := hide hMt; have HI := hide hI; have HIJ := hide hij
  have htn : LT.n = LF.n := by omega
  have hcap := hide ht.cap
  clear hnf hnt hf ht hMf hMt hI hij hd hfa hta hil hfal hh hni
  obtain ⟨A, n, c, B, m, d⟩ := LF
  obtain ⟨A', n', c', B', m', d'⟩ := LT
  dsimp only at htn
  subst htn
  simp only [qval] at *
  generalize hW2 : (w.alloc (.cells #[.string f.name, .slice A n' c, .slice B m d] 25)).alloc (.cells #[.string t.name, .slice A' n' c', .slice B' m' d'] 25) = W2
  have hs2 : W2.heap.size = w.heap.size + 1 + 1 := by rw [← hW2]; simp
  have HE := hide (show Ext w W2 from hW2 ▸ (Ext.alloc w (.cells #[.string f.name, .slice A n' c, .slice B m d] 25)).alloc' (.cells #[.string t.name, .slice A' n' c', .slice B' m' d'] 25))
  have HB0 := hide (show Blk W2 w.heap.size 25 #[.string f.name, .slice A n' c, .slice B m d] from hW2 ▸ (Blk.new w 25 #[.string f.name, .slice A n' c, .slice B m d]).ext (Ext.alloc _ _))
  have HB1 := hide (show Blk W2 (w.heap.size + 1) 25 #[.string t.name, .slice A' n' c', .slice B' m' d'] from by
    have := Blk.new (w.alloc (.cells #[.string f.name, .slice A n' c, .slice B m d] 25)) 25 #[.string t.name, .slice A' n' c', .slice B' m' d']
    rw [World.size_alloc, hW2] at this
    exact this)
  have HS2 := hide hs2
  have HW2 := hide hW2; clear hW2 hs2
  have HT := hide (ref_texts_copy f.head A n' c W2 (HQF.out.head.ext RS.stab HE.out) (by omega))
  have a1 : W2.cell? ⟨w.heap.size, 1, none⟩ = some (.slice A n' c) := HB0.out.cell 1
  generalize hR : (envIm f.atoms t.atoms im 0 (lk f.head (t.head.map hdTm))).isSome = R
  have HR := hide hR; clear hR
  go_enter Try.func65, Try.ntmps65
  go_wp2_with (rw [HW2.out]; (with_reducible refine HT.out.mono ?_); rintro e w1 ⟨g, rfl, hg, hB, hx⟩; have HG := hide hg; have HB := hide hB; have HX := hide hx; clear hg hB hx)
  have hown := hide (own_blk HB.out HG.out (strC_len f.head) (by have := HL.out; unfold maxLen; omega))
  have hfl := hide (show f.head.length = n' by have := HL.out; omega)
  rw [hfl.out] at hown ⊢
  go_loopw [8, 9] (fun s8 s9 w' => ∃ (i : Nat) (B2 : Option Addr) (d2 : Nat), i ≤ n' ∧ s9 = .int .i64 i ∧ s8 = .slice B2 i d2 ∧ Hid (w'.ownsRow w1.heap.size 76 4 (.slice B2 i d2) i (tmC ((t.head.map hdTm).take i))) ∧ Hid (Ext w1 w')) (fun _ s9 _ => n' - (intOf s9).toNat)
  case atStart => exact ⟨0, none, 0, by omega, rfl, rfl, World.ownsRow_nil _ _ _ _, Ext.refl _⟩
  case round =>
    obtain ⟨i, B2, d2, hin, rfl, rfl, ho, hX⟩ := hrel
    have b1 : wr.cell? ⟨w.heap.size + 1, 1, none⟩ = some (.slice A' n' c') := (HB1.out.ext (HX.out.trans hX.out)).cell 1
    by_cases h : i < n'
    · obtain ⟨bb, off, y, rfl, hy, hb1, e0⟩ := (HQT.out.head.ext RS.stab (HE.out.trans (HX.out.trans hX.out))).str h
      have htk := hide (show (t.head.map hdTm).take (i + 1) = (t.head.map hdTm).take i ++ [hdTm y] from take_next _ _ _ (by rw [List.getElem?_map, hy]; rfl))
      have hyn : y.size ≤ 1048576 := HMT.out.heads y (List.mem_of_getElem? hy)
      clear hy
      go_wp2_with (at_builtin; refine wpList_append_sl rfl (.tmp 25) (.tmp 32) _ rfl 76 j0 _ 4 48 Try.underlying41 hj0 hy0 hy1 hy2 rfl (by omega) w1 (hX.out.trans (Ext.alloc _ _)) _ i (tmC ((t.head.map hdTm).take i)) rfl (ho.out.alloc _) _ 1 1 (tmC [hdTm y]) rfl (sl_lit wr (tmC [hdTm y]) 76 1 4 rfl) (tmC_els w [hdTm y]).one (by unfold maxLen; omega) (by omega) ?_; intro A8 c8 w8 own8 E8 G8 L8)
      go_roundw
      case rel =>
        refine ⟨i + 1, A8, c8, by omega, by go_num, rfl, ?_, ?_⟩
        · rw [Hid, htk.out, tmC_append]; exact own8.out
        · exact E8.out
      case measure => simp [intOf]; omega
    · obtain rfl : i = n' := by omega
      have hxs := hide (show i = (t.head.map hdTm).length by have := HL.out; simp; omega)
      have H0 := hide (show LayInv W2 wr (lk f.head (t.head.map hdTm)) (some ⟨g, 0, none⟩) f.head.length B2 d2 f.head (t.head.map hdTm) from by
        have o1 := own_ext hown.out hX.out
        have o2 := own_base ho.out HX.out.size
        rw [List.take_of_length_le (by have := hxs.out; omega)] at o2
        have e1 := hfl.out
        have e2 := hxs.out
        exact LayInv.mk (by omega) rfl (by rw [e1]; exact o1) (by rw [← e2]; exact o2) (HX.out.trans hX.out))
      generalize hσ0 : lk f.head (t.head.map hdTm) = σ0 at *
      clear hσ0 ho hown
      have hfl2 := hide (And.intro hfl.out hxs.out)
      generalize hxs0 : f.head = xs0 at *
      generalize hys0 : t.head.map hdTm = ys0 at *
      clear hxs0 hys0
      go_wp2_with fail
      go_loopw [6, 7, 8, 10, 11, 12, 13, 14] (fun _ s7 s8 s10 _ _ _ _ w' => ∃ (k : Nat) (σi : Env) (xs : List ByteArray) (ys : List Tm) (A2 : Option Addr) (c2 : Nat) (B3 : Option Addr) (d3 : Nat), k ≤ n0 ∧ s10 = .int .i64 k ∧ s7 = .slice A2 xs.length c2 ∧ s8 = .slice B3 ys.length d3 ∧ xs.length ≤ (k + 1) * 1048576 ∧
        Hid (envIm f.atoms t.atoms im 0 σ0 = envIm f.atoms t.atoms (im.drop k) k σi) ∧ Hid (LayInv W2 w' σi A2 c2 B3 d3 xs ys)) (fun _ _ _ s10 _ _ _ _ _ => n0 - (intOf s10).toNat)
      case atStart =>
        have e1 := hfl2.out
        exact ⟨0, σ0, xs0, ys0, some ⟨g, 0, none⟩, xs0.length, B2, d2, by omega, rfl, by rw [e1.1], by rw [← e1.2], by omega, rfl, H0.out⟩
      case round =>
        obtain ⟨k, σi, xs, ys, A2, c2, B3, d3, hk, rfl, rfl, rfl, hxl, hev, hV⟩ := hrel
        have hk6 : k ≤ 1048576 := by have := HL.out; omega
        by_cases h2 : k < n0
        · have hkm : k < m := by have := HL.out; omega
          obtain ⟨ib, io, j, rfl, hj, hib, ci⟩ := (HI.out.ext RN.stab (HE.out.trans hV.out.ext)).num h2
          have hjm : j < m' := by have := HL.out; have := HIJ.out j (List.mem_of_getElem? hj); omega
          obtain ⟨ba, oa, a, B1, m1, d1, rfl, hxa, hb1, C0, C1, hTa⟩ := (HQF.out.atoms.ext RA.stab HE.out).at_ hkm
          obtain ⟨bb, ob, b, B5, m5, d5, rfl, hxb, hb2, D0, D1, hTb⟩ := (HQT.out.atoms.ext RA.stab HE.out).at_ hjm
          have C0 := hV.out.ext.cell C0
          have C1 := hV.out.ext.cell C1
          have D0 := hV.out.ext.cell D0
          have D1 := hV.out.ext.cell D1
          have hst := hide (hev.out.trans (envIm_drop hj hxa hxb))
          have f2 : wr.cell? ⟨w.heap.size, 2, none⟩ = some (.slice (some ⟨ba, oa, none⟩) m d) := (HB0.out.ext hV.out.ext).cell 2
          have t2 : wr.cell? ⟨w.heap.size + 1, 2, none⟩ = some (.slice (some ⟨bb, ob, none⟩) m' d') := (HB1.out.ext hV.out.ext).cell 2
          have hma : smallA 1048576 a := HMF.out.atoms a (List.mem_of_getElem? hxa)
          have HTA := hide hTa; have HTB := hide hTb
          have hln := hide (And.intro hTa.len hTb.len)
          have hm1 : m1 ≤ 1048576 := by have := hma.len; have := hTa.len; omega
          clear hj hxa hxb hTa hTb hma hev
          go_upto_region 10 with fail
          have n1 := World.new_ne wr _ ci
          have n2 := World.new_ne wr _ C0
          have n4 := World.new_ne wr _ D0
          have n6 := World.new_ne wr _ f2
          have n7 := World.new_ne wr _ t2
          go_cut [11, 12] from 129 (fun s11 s12 wx => ∃ g1 g2, s11 = .pointer (some ⟨g1, 0, none⟩) ∧ s12 = .pointer (some ⟨g2, 0, none⟩) ∧ Hid (Ext wr wx) ∧ Hid (Blk wx g1 43 #[.string a.rel, .slice B1 m1 d1]) ∧ Hid (Blk wx g2 43 #[.string b.rel, .slice B5 m5 d5]))
          case first =>
            go_region_held3 (fun w' => w'.cell? ⟨ib, io + k, none⟩ = some (.int .i64 (j : Int)) ∧ w'.cell? ⟨ba, oa + k * 2, none⟩ = some (.string a.rel) ∧ w'.cell? ⟨ba, oa + k * 2 + 1, none⟩ = some (.slice B1 m1 d1) ∧ w'.cell? ⟨bb, ob + j * 2, none⟩ = some (.string b.rel) ∧ w'.cell? ⟨bb, ob + j * 2 + 1, none⟩ = some (.slice B5 m5 d5) ∧
              w'.cell? ⟨w.heap.size, 2, none⟩ = some (.slice (some ⟨ba, oa, none⟩) m d) ∧ w'.cell? ⟨w.heap.size + 1, 2, none⟩ = some (.slice (some ⟨bb, ob, none⟩) m' d')) (go_keep) (fail)
            all_goals go_wp2_with fail
            all_goals go_meet
            · refine ⟨wr.heap.size, wr.heap.size + 1, rfl, rfl, Ext.drew' ((Ext.alloc wr _).alloc' _), ((Blk.new wr 43 _).ext (Ext.alloc _ _)).ext (Ext.drew _), ?_⟩
              have := (Blk.new (wr.alloc (.cells #[.string a.rel, .slice B1 m1 d1] 43)) 43 #[.string b.rel, .slice B5 m5 d5]).ext (Ext.drew _)
              rw [World.size_alloc] at this; exact this
            · refine ⟨wr.heap.size + 1, wr.heap.size, rfl, rfl, Ext.drew' ((Ext.alloc wr _).alloc' _), ?_, ((Blk.new wr 43 _).ext (Ext.alloc _ _)).ext (Ext.drew _)⟩
              have := (Blk.new (wr.alloc (.cells #[.string b.rel, .slice B5 m5 d5] 43)) 43 #[.string a.rel, .slice B1 m1 d1]).ext (Ext.drew _)
              rw [World.size_alloc] at this; exact this
          case rest =>
          obtain ⟨g1, g2, rfl, rfl, HQ, HA1, HA2⟩ := hcut
          have HVq := hide (hV.out.go HQ.out)
          clear ci C0 C1 D0 D1 f2 t2 n1 n2 n4 n6 n7
          have r1 : wc.cell? ⟨g1, 0, none⟩ = some (.string a.rel) := HA1.out.cell 0
          have r2 : wc.cell? ⟨g1, 1, none⟩ = some (.slice B1 m1 d1) := HA1.out.cell 1
          have r3 : wc.cell? ⟨g2, 0, none⟩ = some (.string b.rel) := HA2.out.cell 0
          have r4 : wc.cell? ⟨g2, 1, none⟩ = some (.slice B5 m5 d5) := HA2.out.cell 1
          by_cases hrel : a.rel = b.rel
          · by_cases hlen : m1 = m5
            · rw [hrel] at r1
              subst hlen
              have hup := hide (show uponP σi a b = uponGo σi a.terms b.terms by rw [uponP, if_pos ⟨hrel, by have := hln.out; omega⟩])
              have hgo := hide (UGo.start σi a.terms b.terms)
              rw [hup.out] at hst
              have HVq := hide (hV.out.go HQ.out)
              clear hrel hV
              go_wp2_with fail
              go_loopw [6, 7, 8, 13, 14] (fun _ s7 s8 s13 _ w' => ∃ (p : Nat) (σj : Env) (xs2 : List ByteArray) (ys2 : List Tm) (fr : List ByteArray) (A5 : Option Addr) (c5 : Nat) (B6 : Option Addr) (d6 : Nat), p ≤ m1 ∧ s13 = .int .i64 p ∧ s7 = .slice A5 xs2.length c5 ∧ s8 = .slice B6 ys2.length d6 ∧ Hid (xs2.length ≤ (k + 1) * 1048576 + p) ∧
                Hid (UGo σi σj a.terms b.terms p fr) ∧ Hid (LayInv W2 w' σj A5 c5 B6 d6 xs2 ys2) ∧ Hid (Blk w' g1 43 #[.string a.rel, .slice B1 m1 d1]) ∧ Hid (Blk w' g2 43 #[.string b.rel, .slice B5 m1 d5])) (fun _ _ _ s13 _ _ => m1 - (intOf s13).toNat)
              case atStart => exact ⟨0, σi, xs, ys, [], A2, c2, B3, d3, by omega, rfl, rfl, rfl, Nat.le_trans hxl (Nat.le_add_right _ _), hgo.out, HVq.out, HA1.out, HA2.out⟩
              case round =>
                obtain ⟨p, σj, xs2, ys2, fr, A5, c5, B6, d6, hpm, rfl, rfl, rfl, hxl2, hG, hV2, hA1, hA2⟩ := hrel
                have r2 := hA1.out.cell 1
                have r4 := hA2.out.cell 1
                have hxl3 : xs2.length ≤ 2000000000000 := by have := hxl2.out; omega
                by_cases h3 : p < m1
                · obtain ⟨b1, off1, x, rfl, hx, hxb, CC0, CC1, CC2, CC3⟩ := HTA.out.tm h3
                  have c0 := hV2.out.ext.cell CC0
                  have c1 := hV2.out.ext.cell CC1
                  have c2 := hV2.out.ext.cell CC2
                  have c3 := hV2.out.ext.cell CC3
                  have CS := hide CC0; clear CC0 CC1 CC2 CC3
                  obtain ⟨b2, off2, y, rfl, hy, hyb, E0, E1, E2, E3⟩ := HTB.out.tm h3
                  have e0 := hV2.out.ext.cell E0
                  have e1 := hV2.out.ext.cell E1
                  have e2 := hV2.out.ext.cell E2
                  have e3 := hV2.out.ext.cell E3
                  have ES := hide (And.intro E0 (And.intro E1 (And.intro E2 E3))); clear E0 E1 E2 E3
                  have HS := hide (fun hs => hG.out.step hx hy hs)
                  have HQ2 := hide (fun hs => hG.out.stop hx hy hs)
                  have hr2 : wr.cell? ⟨g1, 1, none⟩ = some (.slice (some ⟨b1, off1, none⟩) m1 d1) := r2
                  have hr4 : wr.cell? ⟨g2, 1, none⟩ = some (.slice (some ⟨b2, off2, none⟩) m1 d5) := r4
                  clear hx hy r2 r4
                  have r2 := hr2; have r4 := hr4; clear hr2 hr4
                  by_cases hv : 0 < x.v.size
                  · have he := size_some hv
                    have he3 : x.v.toList.isEmpty = false := by simpa using he
                    clear he
                    have Hnv := hide (noVar_false hv); clear hv
                    have HCon := hide (ref_at xs2 x.v A5 xs2.length c5 wr (LAt.own rfl (strC_els wr xs2) hV2.out.ownV) (by omega))
                    have hlk := hide (And.intro hV2.out.len hV2.out.env)
                    by_cases hf : firstI (eqB x.v) xs2 0 < 0
                    · have HN := hide (lk_first_neg (ys := ys2) x.v hf)
                      generalize firstI (eqB x.v) xs2 0 = fi at *
                      have hyl := hide hlk.out.1
                      have hσ : σj x.v = none := by rw [← hlk.out.2]; exact HN.out
                      have HX0 := hide (show stepX σj x y = y by simp [stepX, Hnv.out, hσ])
                      have HS0 := hide (show stepS σj x y = σj.put x.v y by simp [stepS, Hnv.out, hσ])
                      have Hσ := hide hσ; clear hσ
                      have Hne := hide (show ∀ g, wr.heap.size ≤ g → some g ≠ (Value.slice A5 xs2.length c5).ownBlock from fun g hg e => by
                        have := (hV2.out.ownV.lt g e.symm).2
                        omega)
                      go_wp2_with ((with_reducible refine HCon.out.mono ?_); rintro e w1 ⟨rfl, rfl⟩)
                      clear c1 c2 c3
                      have S0 : wr.cell? ⟨g1, 1, none⟩ = some (.slice (some ⟨b1, off1, none⟩) m1 d1) := r2
                      go_region_held3 (fun w' => w'.cell? ⟨g1, 1, none⟩ = some (.slice (some ⟨b1, off1, none⟩) m1 d1) ∧ w'.cell? ⟨g2, 1, none⟩ = some (.slice (some ⟨b2, off2, none⟩) m1 d5) ∧ w'.cell? ⟨b1, off1 + p * 4, none⟩ = some (.string x.v) ∧
                          w'.cell? ⟨b2, off2 + p * 4, none⟩ = some (.string y.v) ∧ w'.cell? ⟨b2, off2 + p * 4 + 1, none⟩ = some (.int .i64 y.c.k) ∧ w'.cell? ⟨b2, off2 + p * 4 + 2, none⟩ = some (.int .i64 y.c.i) ∧ w'.cell? ⟨b2, off2 + p * 4 + 3, none⟩ = some (.string y.c.t))
                        (first
                          | (exact ⟨hP1.b1.cell 1, hP1.b2.cell 1, hP1.ext.cell CS.out, hP1.ext.cell ES.out.1, hP1.ext.cell ES.out.2.1, hP1.ext.cell ES.out.2.2.1, hP1.ext.cell ES.out.2.2.2⟩)
                          | (exact ⟨hP3.cell 1, hP4.cell 1, hP2.ext.cell CS.out, hP2.ext.cell ES.out.1, hP2.ext.cell ES.out.2.1, hP2.ext.cell ES.out.2.2.1, hP2.ext.cell ES.out.2.2.2⟩)
                          | go_keep)
                        (first
                          | ((refine step_ap1 hi0 hz0 hz1 hz2 hV2.out hA1.out hA2.out x.v (by rfl) _ _ (by rfl) (by rfl) (Ext.drew' (Ext.alloc wr _)) wr.heap.size (by rfl) ((Blk.new wr _ _).ext (Ext.drew _)) hxl3 ?_); intro A6 c6 w5 hP1 hP5)
                          | ((refine step_ap1 hi0 hz0 hz1 hz2 hV2.out hA1.out hA2.out x.v (by rfl) _ _ (by rfl) (by rfl) (Ext.drew' (Ext.alloc' (Ext.alloc wr _) _)) wr.heap.size (by rfl) (((Blk.new wr _ _).ext (Ext.alloc _ _)).ext (Ext.drew _)) hxl3 ?_); intro A6 c6 w5 hP1 hP5)
                          | ((refine step_ap1 hi0 hz0 hz1 hz2 hV2.out hA1.out hA2.out x.v (by rfl) _ _ (by rfl) (by rfl) (Ext.drew' (Ext.alloc' (Ext.alloc wr _) _)) (wr.heap.size + 1) (by rfl) ((Blk.newAt (World.size_alloc _ _)).ext (Ext.drew _)) hxl3 ?_); intro A6 c6 w5 hP1 hP5)
                          | ((refine step_ap2 hj0 hy0 (by rfl) hy1 hy2 x.v y (hP1.go (Ext.alloc w5 _)) hV2.out.len hV2.out.env Hσ.out (by rfl) _ _ (by rfl) (by rfl) w5.heap.size (by rfl) (Blk.new w5 _ _) hxl3 ?_); intro B7 d7 w6 hP2 hP3 hP4)
                          | ((refine step_ap2 hj0 hy0 (by rfl) hy1 hy2 x.v y hP1 hV2.out.len hV2.out.env Hσ.out (by rfl) _ _ (by rfl) (by rfl) (wr.heap.size + 1) (by rfl) (((Blk.newAt (World.size_alloc _ _)).ext (Ext.drew _)).grown hP5 (Hne.out _ (Nat.le_succ _))) hxl3 ?_); intro B7 d7 w6 hP2 hP3 hP4)
                          | ((refine step_ap2 hj0 hy0 (by rfl) hy1 hy2 x.v y hP1 hV2.out.len hV2.out.env Hσ.out (by rfl) _ _ (by rfl) (by rfl) wr.heap.size (by rfl) ((((Blk.new wr _ _).ext (Ext.alloc _ _)).ext (Ext.drew _)).grown hP5 (Hne.out _ (Nat.le_refl _))) hxl3 ?_); intro B7 d7 w6 hP2 hP3 hP4))
                      all_goals
                        have hx2 := hide (HS.out (by rw [HX0.out]; exact sameT_iff.2 rfl))
                        rw [HS0.out] at hx2
                        have HP2 := hide hP2; have HP3 := hide hP3; have HP4 := hide hP4
                        clear hP1 hP2 hP3 hP4 hP5
                        go_wp2_with fail
                        go_roundw
                        case rel => exact ⟨p + 1, _, xs2 ++ [x.v], ys2 ++ [y], stepF σj fr x, A6, c6, B7, d7, by omega, by go_num, by simp, by simp, by rw [Hid, List.length_append]; exact Nat.succ_le_succ hxl2.out, hx2.out, HP2.out, HP3.out, HP4.out⟩
                        case measure => simp [intOf]; omega
                    · obtain ⟨q, o, hfi, ho, hlo⟩ := lk_first hlk.out.1 x.v (by omega)
                      have hq : q < ys2.length := (List.getElem?_eq_some_iff.1 ho).1
                      obtain ⟨b3, off3, o', rfl, ho', hob, o0, o1, o2, o3⟩ := (LAt.own (R := RT) (xs := ys2) rfl (tmC_els wr ys2) hV2.out.ownT).tm hq
                      obtain rfl : o = o' := by rw [ho] at ho'; exact Option.some.inj ho'
                      have hσ : σj x.v = some o := by rw [← hlk.out.2]; exact hlo
                      have HX0 := hide (show stepX σj x y = o by simp [stepX, Hnv.out, hσ])
                      have HS0 := hide (show stepS σj x y = σj by simp [stepS, Hnv.out, hσ])
                      rw [hfi] at HCon
                      clear hf hfi ho ho' hlo hσ
                      have hyl := hide hlk.out.1
                      have hq2 : ys2.length ≤ 1125899906842624 := by have := hlk.out.1; omega
                      generalize hyn : ys2.length = yn at *
                      go_wp2_with ((with_reducible refine HCon.out.mono ?_); rintro e w1 ⟨rfl, rfl⟩)
                      have e0 := cell_ext e0
                      have e1 := cell_ext e1
                      have e2 := cell_ext e2
                      have e3 := cell_ext e3
                      have o0 := cell_ext o0
                      have o1 := cell_ext o1
                      have o2 := cell_ext o2
                      have o3 := cell_ext o3
                      have r4 := cell_ext r4
                      refine wp_region_ext 10 (by kernel_rfl) (by kernel_rfl) (by kernel_rfl) ?_
                      iterate 9
                        refine wpE_k (by kernel_rfl) (by kernel_rfl) ?_
                        apply Exists.intro
                        refine ⟨fun w1 hw1 => ?_, fun K hK => ?_⟩
                        · go_simp; first | done | rfl
                        go_simp; refine hK _ _ ?_; clear hK K
                      clear e0 e1 e2 e3 o0 o1 o2 o3 r4
                      subst hyn
                      refine wpE_k (by kernel_rfl) (by kernel_rfl) ?_
                      refine ⟨.bool (!sameT o y), fun w1 hw1 => ?_, fun K hK => ?_⟩
                      · go_simp
                        unfold sameT sameV
                        have ht := toList_iff o.c.t y.c.t
                        have hv := toList_iff o.v y.v
                        by_cases h0 : o.v = y.v <;> by_cases h1 : o.c.k = y.c.k <;> by_cases h2 : o.c.i = y.c.i <;> by_cases h3 : o.c.t = y.c.t <;> simp [h0, h1, h2, h3, ht, hv]
                      go_simp; refine hK _ _ ?_; clear hK K
                      refine wpE_nil ⟨rfl, by kernel_rfl, fun wq hwq => ?_⟩
                      simp only [EndQ]
                      refine wpList_nil ?_
                      have HF := hide hwq; clear hwq
                      cases he : sameT o y with
                      | true =>
                        have hx2 := hide (HS.out (by rw [HX0.out]; exact he)); clear he
                        rw [HS0.out] at hx2
                        go_wp2_with fail
                        go_roundw
                        case rel => exact ⟨p + 1, σj, xs2, ys2, stepF σj fr x, _, _, _, _, by omega, by go_num, rfl, rfl, Nat.le_succ_of_le hxl2.out, hx2.out, hV2.out.go HF.out, hA1.out.ext HF.out, hA2.out.ext HF.out⟩
                        case measure => simp [intOf]; omega
                      | false =>
                        have hx2 := hide (HQ2.out (by rw [HX0.out]; exact he)); clear he
                        go_wp2_with fail
                        go_ret
                        exact ⟨ret_bool (by rw [← HR.out, hst.out, hx2.out]; rfl), HE.out.trans (hV2.out.ext.trans HF.out)⟩
                  · have he := size_empty (s := x.v) (by omega)
                    have he3 : x.v.toList.isEmpty = true := by rw [he]; rfl
                    clear he
                    have Hnv := hide (noVar_true (t := x) (by omega)); clear hv
                    have HX0 := hide (show stepX σj x y = x by simp [stepX, Hnv.out])
                    have HS0 := hide (show stepS σj x y = σj by simp [stepS, Hnv.out])
                    go_wp2_with fail
                    have c0 := cell_ext c0
                    have c1 := cell_ext c1
                    have c2 := cell_ext c2
                    have c3 := cell_ext c3
                    have e0 := cell_ext e0
                    have e1 := cell_ext e1
                    have e2 := cell_ext e2
                    have e3 := cell_ext e3
                    have r2 := cell_ext r2
                    have r4 := cell_ext r4
                    refine wp_region_ext 11 (by kernel_rfl) (by kernel_rfl) (by kernel_rfl) ?_
                    iterate 10
                      refine wpE_k (by kernel_rfl) (by kernel_rfl) ?_
                      apply Exists.intro
                      refine ⟨fun w1 hw1 => ?_, fun K hK => ?_⟩
                      · go_simp; first | done | rfl
                      go_simp; refine hK _ _ ?_; clear hK K
                    clear c0 c1 c2 c3 e0 e1 e2 e3 r2 r4
                    refine wpE_k (by kernel_rfl) (by kernel_rfl) ?_
                    refine ⟨.bool (!sameT x y), fun w1 hw1 => ?_, fun K hK => ?_⟩
                    · go_simp
                      unfold sameT sameV
                      have ht := toList_iff x.c.t y.c.t
                      have hv := toList_iff x.v y.v
                      by_cases h0 : x.v = y.v <;> by_cases h1 : x.c.k = y.c.k <;> by_cases h2 : x.c.i = y.c.i <;> by_cases h3 : x.c.t = y.c.t <;> simp [h0, h1, h2, h3, ht, hv]
                    go_simp; refine hK _ _ ?_; clear hK K
                    refine wpE_nil ⟨rfl, by kernel_rfl, fun wq hwq => ?_⟩
                    simp only [EndQ]
                    refine wpList_nil ?_
                    have HF := hide hwq; clear hwq
                    cases he : sameT x y with
                    | true =>
                      have hx2 := hide (HS.out (by rw [HX0.out]; exact he)); clear he
                      rw [HS0.out] at hx2
                      go_wp2_with fail
                      go_roundw
                      case rel => exact ⟨p + 1, σj, xs2, ys2, stepF σj fr x, _, _, _, _, by omega, by go_num, rfl, rfl, Nat.le_succ_of_le hxl2.out, hx2.out, hV2.out.go HF.out, hA1.out.ext HF.out, hA2.out.ext HF.out⟩
                      case measure => simp [intOf]; omega
                    | false =>
                      have hx2 := hide (HQ2.out (by rw [HX0.out]; exact he)); clear he
                      go_wp2_with fail
                      go_ret
                      exact ⟨ret_bool (by rw [← HR.out, hst.out, hx2.out]; rfl), HE.out.trans (hV2.out.ext.trans HF.out)⟩
                · have hdn := hide (hG.out.done (by have := hln.out; omega))
                  obtain rfl : p = m1 := by omega
                  go_wp2_with fail
                  go_roundw
                  case rel =>
                    refine ⟨k + 1, σj, xs2, ys2, A5, c5, B6, d6, by omega, by go_num, rfl, rfl, Nat.le_trans hxl2.out (by rw [Nat.add_mul (k + 1) 1 1048576, Nat.one_mul]; exact Nat.add_le_add_left hm1 _), ?_, hV2.out⟩
                    rw [Hid, hst.out, hdn.out]; rfl
                  case measure => simp [intOf]; omega
            · rw [hrel] at r1
              have hne : ((m1 : Int) != (m5 : Int)) = true := by simp; omega
              have hup := hide (show uponP σi a b = (σi, [], false) by rw [uponP, if_neg (fun e => hlen (by have := hln.out; omega))])
              go_wp2_with fail
              go_ret
              refine ⟨ret_bool (by rw [← HR.out, hst.out, hup.out]; rfl), HE.out.trans HVq.out.ext⟩
          · have hne : (a.rel.toList == b.rel.toList) = false := by simpa using fun e => hrel ((bytes_toList a.rel b.rel).1 e)
            have hup := hide (show uponP σi a b = (σi, [], false) by rw [uponP, if_neg (fun e => hrel e.1)])
            go_wp2_with fail
            go_ret
            refine ⟨ret_bool (by rw [← HR.out, hst.out, hup.out]; rfl), HE.out.trans HVq.out.ext⟩
        · go_wp2_with fail
          go_ret
          have e1 := hev.out.trans (envIm_end (by have := HL.out; omega))
          refine ⟨ret_bool (by rw [← HR.out, e1]; rfl), HE.out.trans hV.out.ext⟩
end Go.Proofs.Ythjpcnceppmnmaa
