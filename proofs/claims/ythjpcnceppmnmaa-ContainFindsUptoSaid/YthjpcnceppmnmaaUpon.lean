/-
  upon: one atom laid upon another.
-/
import Derived.Test.YthjpcnceppmnmaaUponP
namespace Go.Proofs.Ythjpcnceppmnmaa
open Go.RowKit

/-- what upon leaves -/
def RetU (w0 : World) (g k : Nat) (r : Env × List ByteArray × Bool) (en : Ending) (w' : World) : Prop :=
  ∃ A c, en = .returned (.tuple #[.slice A r.2.1.length c, .bool r.2.2]) ∧ OwnS w0 w' A r.2.1.length c r.2.1 ∧ MapT w' g k r.1 ∧ ExtM g w0 w'

structure UInv (W w : World) (g k : Nat) (σ : Env) (ts us : List Tm) (i : Nat) (σi : Env) (fr : List ByteArray) (A : Option Addr) (c : Nat) : Prop where
  go : UGo σ σi ts us i fr
  map : MapT w g (k + i) σi
  own : w.ownsRow W.heap.size 9 1 (.slice A fr.length c) fr.length (strC fr)
  ext : ExtM g W w
structure UMid (W wx : World) (s10 g k : Nat) (x : Tm) (σ' : Env) (fr : List ByteArray) (A : Option Addr) (c : Nat) : Prop where
  x : Blk wx s10 76 #[.string x.v, .int .i64 x.c.k, .int .i64 x.c.i, .string x.c.t]
  map : MapT wx g k σ'
  own : wx.ownsRow W.heap.size 9 1 (.slice A fr.length c) fr.length (strC fr)
  ext : ExtM g W wx
theorem zeroT (w : World) : (zeroValue 76).run Try.prog w = .ok (.agg #[.string ⟨#[]⟩, .int .i64 0, .int .i64 0, .string ⟨#[]⟩]) w := by kernel_rfl

set_option maxHeartbeats 4000000 in
set_option maxRecDepth 100000 in
theorem upon_any (a b : Atm) (σ : Env) (g k : Nat) (A B : Option Addr) (n m c d : Nat) (w : World) (ha : LAt RT 4 w A n a.terms) (hb : LAt RT 4 w B m b.terms) (hm : MapT w g k σ) (hMa : smallA 1048576 a) (hk : k ≤ 1125899906842624) :
    Calls Try.prog 38 #[.agg #[.string a.rel, .slice A n c], .agg #[.string b.rel, .slice B m d], .map (some g)] w (RetU w g (k + n) (uponP σ a b)) := by
  obtain ⟨i0, hi0, hz0, hz1, hz2⟩ := info_parts infoS
  obtain ⟨ra, ta⟩ := a
  obtain ⟨rb, tb⟩ := b
  dsimp only at *
  have hnl : n ≤ 1048576 := by have := ha.len; have := hMa.len; simp only at *; omega
  have Ha := hide ha; have Hb := hide hb; have Hm := hide hm; have HMa := hide hMa
  have hgl := hm.lt
  have hnr := hide hm.noRow
  clear ha hb hm hMa
  generalize hW2 : (w.alloc (.cells #[.string ra, .slice A n c] 43)).alloc (.cells #[.string rb, .slice B m d] 43) = W2
  have hs2 : W2.heap.size = w.heap.size + 1 + 1 := by rw [← hW2]; simp
  have HE := hide (show Ext w W2 from hW2 ▸ (Ext.alloc w (.cells #[.string ra, .slice A n c] 43)).alloc' (.cells #[.string rb, .slice B m d] 43))
  have HB0 := hide (show CellsAt W2 w.heap.size [.string ra, .slice A n c] from hW2 ▸ (CellsAt.new w [.string ra, .slice A n c] 43 (0, 0)).ext (Ext.alloc _ _))
  have HB1 := hide (show CellsAt W2 (w.heap.size + 1) [.string rb, .slice B m d] from by
    have := CellsAt.new (w.alloc (.cells #[.string ra, .slice A n c] 43)) [.string rb, .slice B m d] 43 (0, 0)
    rw [World.size_alloc] at this
    rw [← hW2]; exact this)
  have HS2 := hide hs2
  have HW2 := hide hW2; clear hW2 hs2
  by_cases hr : ra = rb
  · subst hr
    by_cases hl : n = m
    · subst hl
      have hup := hide (show uponP σ ⟨ra, ta⟩ ⟨ra, tb⟩ = uponGo σ ta tb by rw [uponP, if_pos ⟨rfl, by have := Ha.out.len; have := Hb.out.len; simp only; omega⟩])
      have hla := hide Ha.out.len
      have hne : ((n : Int) != (n : Int)) = false := by simp
      have HU := hide (show UInv W2 W2 g k σ ta tb 0 σ [] none 0 from UInv.mk (UGo.start _ _ _) (Hm.out.ext HE.out) (World.ownsRow_nil _ _ _ _) (ExtM.refl _ _))
      go_enter Try.func38, Try.ntmps38
      go_wp2_with fail
      rw [HW2.out]
      go_loopw [6, 8, 9, 10, 11, 12, 30] (fun s6 _ _ _ _ _ s30 w' => ∃ (i : Nat) (A' : Option Addr) (c' : Nat) (σi : Env) (fr : List ByteArray), i ≤ n ∧ s30 = .int .i64 i ∧ s6 = .slice A' fr.length c' ∧ fr.length ≤ i ∧ Hid (UInv W2 w' g k σ ta tb i σi fr A' c')) (fun _ _ _ _ _ _ s30 _ => n - (intOf s30).toNat)
      case atStart => exact ⟨0, none, 0, σ, [], by omega, rfl, rfl, by simp, HU.out⟩
      case round =>
        obtain ⟨i, A', c', σi, fr, him, rfl, rfl, hfl, hI⟩ := hrel
        have hXw : ExtM g w wr := (ExtM.of HE.out).trans hI.out.ext
        by_cases h : i < n
        · obtain ⟨b, off, t, rfl, hx, hb1, c0, c1, c2, c3⟩ := (hXw.tms hnr.out Ha.out).tm h
          obtain ⟨b', off', u, rfl, hy, hb2w, D0, D1, D2, D3⟩ := Hb.out.tm h
          have hbg : b' ≠ g := fun e => by
            have := hnr.out (off' + i * 4)
            rw [← e, D0] at this
            cases this
          have hb2 : b' < wr.heap.size := Nat.lt_of_lt_of_le hb2w hXw.size
          have d0 := hXw.cell D0 hbg
          have d1 := hXw.cell D1 hbg
          have d2 := hXw.cell D2 hbg
          have d3 := hXw.cell D3 hbg
          have D0 := hide D0; have D1 := hide D1; have D2 := hide D2; have D3 := hide D3
          have e1 := hI.out.ext.cells HB1.out (by omega) 1 _ rfl
          have hws1 : w.heap.size + 1 < wr.heap.size := by have := hI.out.ext.size; have := HS2.out; omega
          have hb2a : b' < wr.heap.size + 1 := by omega
          have hb2b : b' < wr.heap.size + 1 + 1 := by omega
          have hq1 : w.heap.size < wr.heap.size := by omega
          have hq2 : w.heap.size < wr.heap.size + 1 := by omega
          have hq3 : w.heap.size < wr.heap.size + 1 + 1 := by omega
          have HTT := hide (HMa.out.terms t (List.mem_of_getElem? hx))
          have Hx := hide hx; have Hy := hide hy
          have HXw := hide hXw
          clear hx hy hXw
          go_upto_if 38 with fail
          have hmap := hide (hI.out.map)
          have H9 := hide (Blk.new wr 76 #[.string t.v, .int .i64 t.c.k, .int .i64 t.c.i, .string t.c.t])
          have h10 := Blk.new (wr.alloc (.cells #[.string t.v, .int .i64 t.c.k, .int .i64 t.c.i, .string t.c.t] 76)) 76 #[.string t.v, .int .i64 t.c.k, .int .i64 t.c.i, .string t.c.t]
          rw [World.size_alloc] at h10
          have H10 := hide h10; clear h10
          have hE2 := hide ((Ext.alloc wr (.cells #[.string t.v, .int .i64 t.c.k, .int .i64 t.c.i, .string t.c.t] 76)).alloc' (.cells #[.string t.v, .int .i64 t.c.k, .int .i64 t.c.i, .string t.c.t] 76))
          go_cut [6, 38] from 73 (fun s6 _ wx => ∃ A8 c8, s6 = .slice A8 (stepF σi fr t).length c8 ∧ Hid (UMid W2 wx (wr.heap.size + 1) g (k + (i + 1)) (stepX σi t u) (stepS σi t u) (stepF σi fr t) A8 c8))
          case first =>
            by_cases hv : 0 < t.v.size
            · have he := size_some hv
              have Hnv := hide (noVar_false hv); clear hv
              rw [he]
              have hkv : t.v.size ≤ maxLen := by have := HTT.out.1; unfold maxLen; omega
              cases hσ : σi t.v with
              | some o =>
                have hval : valS σi t.v = some (.agg #[.string o.v, .int .i64 o.c.k, .int .i64 o.c.i, .string o.c.t]) := by rw [valS, hσ]; rfl
                have Hσ := hide hσ; clear hσ
                go_wp2_with (at_lookup; refine wpList_smap_lookup rfl _ _ _ 76 rfl Try.underlying71 (zeroT _) g _ (valS σi) rfl (MapS.ext hmap.out hE2.out) t.v rfl hkv ?_; rintro v rfl; rw [hval])
                go_meet
                have h10 := Blk.new (wr.alloc (.cells #[.string t.v, .int .i64 t.c.k, .int .i64 t.c.i, .string t.c.t] 76)) 76 #[.string o.v, .int .i64 o.c.k, .int .i64 o.c.i, .string o.c.t]
                rw [World.size_alloc] at h10
                have hE3 := ((Ext.alloc wr (.cells #[.string t.v, .int .i64 t.c.k, .int .i64 t.c.i, .string t.c.t] 76)).alloc' (.cells #[.string o.v, .int .i64 o.c.k, .int .i64 o.c.i, .string o.c.t] 76)).alloc' (.cells #[.string o.v, .int .i64 o.c.k, .int .i64 o.c.i, .string o.c.t] 76)
                refine ⟨A', c', by rw [stepF, Hnv.out, Hσ.out]; rfl, ?_⟩
                have e1 : stepX σi t u = o := by simp [stepX, Hnv.out, Hσ.out]
                have e2 : stepS σi t u = σi := by simp [stepS, Hnv.out, Hσ.out]
                have e3 : stepF σi fr t = fr := by simp [stepF, Hnv.out, Hσ.out]
                rw [e1, e2, e3]
                exact UMid.mk (h10.ext (Ext.alloc _ _)) (MapS.mono (MapS.ext hmap.out hE3) (by omega)) (own_ext hI.out.own hE3) (hI.out.ext.trans (.of hE3))
              | none =>
                have hval : valS σi t.v = none := by rw [valS, hσ]; rfl
                have Hσ := hide hσ; clear hσ
                have hE3 := hide (((Ext.alloc wr (.cells #[.string t.v, .int .i64 t.c.k, .int .i64 t.c.i, .string t.c.t] 76)).alloc' (.cells #[.string t.v, .int .i64 t.c.k, .int .i64 t.c.i, .string t.c.t] 76)).alloc' (.cells #[.string u.v, .int .i64 u.c.k, .int .i64 u.c.i, .string u.c.t] 76))
                have hB9 := hide (((Blk.new wr 76 #[.string t.v, .int .i64 t.c.k, .int .i64 t.c.i, .string t.c.t]).ext (Ext.alloc _ (.cells #[.string t.v, .int .i64 t.c.k, .int .i64 t.c.i, .string t.c.t] 76))).ext (Ext.alloc _ (.cells #[.string u.v, .int .i64 u.c.k, .int .i64 u.c.i, .string u.c.t] 76)))
                have hB10 := hide (H10.out.ext (Ext.alloc _ (.cells #[.string u.v, .int .i64 u.c.k, .int .i64 u.c.i, .string u.c.t] 76)))
                have hb11 := Blk.new ((wr.alloc (.cells #[.string t.v, .int .i64 t.c.k, .int .i64 t.c.i, .string t.c.t] 76)).alloc (.cells #[.string t.v, .int .i64 t.c.k, .int .i64 t.c.i, .string t.c.t] 76)) 76 #[.string u.v, .int .i64 u.c.k, .int .i64 u.c.i, .string u.c.t]
                rw [World.size_alloc, World.size_alloc] at hb11
                have hB11 := hide hb11; clear hb11
                have hgn : g ≠ wr.heap.size + 1 := by omega
                have hnn1 : wr.heap.size ≠ g := by omega
                have hnn2 : wr.heap.size + 1 ≠ g := by omega
                have hnn3 : wr.heap.size + 1 + 1 ≠ g := by omega
                have hmax : k + i < maxLen := by unfold maxLen; omega
                have Hgn := hide (And.intro hgn (And.intro hnn1 (And.intro hnn2 (And.intro hnn3 hmax)))); clear hgn hnn1 hnn2 hnn3 hmax
                go_wp2_with (first
                  | (at_lookup; refine wpList_smap_lookup rfl _ _ _ 76 rfl Try.underlying71 (zeroT _) g _ (valS σi) rfl (MapS.ext hmap.out hE2.out) t.v rfl hkv ?_; rintro v rfl; rw [hval])
                  | (at_mapUpdate; refine wpList_smap_put rfl _ _ _ _ 76 rfl Try.underlying71 g _ (valS σi) rfl (MapS.ext hmap.out hE3.out) Hgn.out.2.2.2.2 t.v _ rfl rfl hkv ?_; intro w5 hm5 ht5; have b9 := turned_blk ht5.out hB9.out Hgn.out.2.1; have q9 : w5.cell? ⟨wr.heap.size, 0, none⟩ = some (.string t.v) := b9.cell 0; have l5 : wr.heap.size + 1 + 1 < w5.heap.size := (turned_blk ht5.out hB11.out Hgn.out.2.2.2.1).lt; have B9 := hide b9; clear b9)
                  | (at_builtin
                     refine wpList_append_m rfl (.tmp 57) (.tmp 60) _ rfl 9 i0 _ 1 16 Try.underlying22 hi0 hz0 hz1 hz2 rfl (by omega) W2.heap.size (by have := hI.out.ext.size; simp; omega) (.slice A' fr.length c') fr.length (strC fr) rfl ((own_turned (own_ext hI.out.own hE3.out) (MapS.ext hmap.out hE3.out) ht5.out).alloc _) _ 1 1 [.string t.v] rfl (sl_lit w5 [.string t.v] 9 1 1 rfl) (fun v h => by obtain rfl := List.mem_singleton.1 h; rfl) (by unfold maxLen; omega) (by omega) ?_
                     intro A8 c8 w8 own8 G8 L8
                     have ow := ((own_turned (own_ext hI.out.own hE3.out) (MapS.ext hmap.out hE3.out) ht5.out).alloc (.cells #[.string t.v] 9))
                     have b10 := (turned_blk ht5.out hB10.out Hgn.out.2.2.1).ext (Ext.alloc w5 (.cells #[.string t.v] 9))
                     have b10 := b10.grown G8.out (own_ne_blk ow b10 (by decide))
                     have b11 := (turned_blk ht5.out hB11.out Hgn.out.2.2.2.1).ext (Ext.alloc w5 (.cells #[.string t.v] 9))
                     have b11 := b11.grown G8.out (own_ne_blk ow b11 (by decide))
                     have x0 : w8.cell? ⟨wr.heap.size + 1 + 1, 0, none⟩ = some (.string u.v) := b11.cell 0
                     have x1 : w8.cell? ⟨wr.heap.size + 1 + 1, 1, none⟩ = some (.int .i64 u.c.k) := b11.cell 1
                     have x2 : w8.cell? ⟨wr.heap.size + 1 + 1, 2, none⟩ = some (.int .i64 u.c.i) := b11.cell 2
                     have x3 : w8.cell? ⟨wr.heap.size + 1 + 1, 3, none⟩ = some (.string u.c.t) := b11.cell 3
                     have y0 : w8.cell? ⟨wr.heap.size + 1, 0, none⟩ = some (.string t.v) := b10.cell 0
                     have y1 : w8.cell? ⟨wr.heap.size + 1, 1, none⟩ = some (.int .i64 t.c.k) := b10.cell 1
                     have y2 : w8.cell? ⟨wr.heap.size + 1, 2, none⟩ = some (.int .i64 t.c.i) := b10.cell 2
                     have y3 : w8.cell? ⟨wr.heap.size + 1, 3, none⟩ = some (.string t.c.t) := b10.cell 3
                     have z0 := b10.frozen 0
                     have z1 := b10.frozen 1
                     have z2 := b10.frozen 2
                     have z3 := b10.frozen 3
                     have B10 := hide b10
                     have OW := hide ow
                     clear b10 b11 ow))
                go_meet
                have e1 : stepX σi t u = u := by simp [stepX, Hnv.out, Hσ.out]
                have e2 : stepS σi t u = σi.put t.v u := by simp [stepS, Hnv.out, Hσ.out]
                have e3 : stepF σi fr t = fr ++ [t.v] := by simp [stepF, Hnv.out, Hσ.out]
                refine ⟨A8, c8, by rw [e3]; simp, ?_⟩
                rw [e1, e2, e3]
                have m5 : MapT w5 g (k + (i + 1)) (σi.put t.v u) := by
                  unfold MapT
                  rw [valS_put]
                  exact hm5.out
                have m6 := MapS.ext m5 (Ext.alloc w5 (.cells #[.string t.v] 9))
                have m8 := MapS.grown m6 OW.out G8.out
                have x5 : ExtM g W2 w5 := (hI.out.ext.trans (.of hE3.out)).trans (.turned ht5.out)
                have x8 : ExtM g W2 w8 := (x5.alloc (.cells #[.string t.v] 9)).grown G8.out (fun j hj => (OW.out.lt j hj).1)
                have hw2 : W2.heap.size ≤ wr.heap.size + 1 := by have := hI.out.ext.size; omega
                refine UMid.mk (B10.out.set4 rfl _ _ _ _) (MapS.set4 m8 Hgn.out.1 _ _ _ _) ?_ (x8.set4 hw2 _ _ _ _)
                have := own_set4 own8.out B10.out (by decide) (.string u.v) (.int .i64 u.c.k) (.int .i64 u.c.i) (.string u.c.t)
                rw [strC_snoc, List.length_append]
                exact this
            · have he := size_empty (s := t.v) (by omega)
              have he2 : (!t.v.toList.isEmpty) = false := by rw [he]; rfl
              have Hnv := hide (noVar_true (t := t) (by omega)); clear hv
              rw [he2]
              have He := hide he; clear he he2
              go_wp2_with fail
              go_meet
              have e1 : stepX σi t u = t := by simp [stepX, Hnv.out]
              have e2 : stepS σi t u = σi := by simp [stepS, Hnv.out]
              have e3 : stepF σi fr t = fr := by simp [stepF, Hnv.out]
              refine ⟨A', c', by rw [e3], ?_⟩
              rw [e1, e2, e3]
              exact UMid.mk H10.out (MapS.mono (MapS.ext hmap.out hE2.out) (by omega)) (own_ext hI.out.own hE2.out) (hI.out.ext.trans (.of hE2.out))
          case rest =>
            obtain ⟨A8, c8, rfl, hMid⟩ := hcut
            have Hgo := hide hI.out.go
            have hXc : ExtM g w wc := (ExtM.of HE.out).trans hMid.out.ext
            have d0 := hXc.cell D0.out hbg
            have d1 := hXc.cell D1.out hbg
            have d2 := hXc.cell D2.out hbg
            have d3 := hXc.cell D3.out hbg
            have e1 := hMid.out.ext.cells HB1.out (by omega) 1 _ rfl
            have hl8 := stepF_len σi fr t
            have HM2 := hide (fun hs => hI.out.go.step Hx.out Hy.out hs)
            have HM3 := hide (fun hs => hI.out.go.stop Hx.out Hy.out hs)
            generalize hfx : stepF σi fr t = fr2 at *
            generalize hsx : stepS σi t u = σ2 at *
            generalize hxx : stepX σi t u = x at *
            clear hfx hsx hxx
            have x0 : wc.cell? ⟨wr.heap.size + 1, 0, none⟩ = some (.string x.v) := hMid.out.x.cell 0
            have x1 : wc.cell? ⟨wr.heap.size + 1, 1, none⟩ = some (.int .i64 x.c.k) := hMid.out.x.cell 1
            have x2 : wc.cell? ⟨wr.heap.size + 1, 2, none⟩ = some (.int .i64 x.c.i) := hMid.out.x.cell 2
            have x3 : wc.cell? ⟨wr.heap.size + 1, 3, none⟩ = some (.string x.c.t) := hMid.out.x.cell 3
            have hin1 : i < n := h
            go_wp2_with fail
            have d0 := cell_ext d0
            have d1 := cell_ext d1
            have d2 := cell_ext d2
            have d3 := cell_ext d3
            have x0 := cell_ext x0
            have x1 := cell_ext x1
            have x2 := cell_ext x2
            have x3 := cell_ext x3
            have e1 := cell_ext e1
            refine wp_region_ext 7 (by kernel_rfl) (by kernel_rfl) (by kernel_rfl) ?_
            iterate 6
              refine wpE_k (by kernel_rfl) (by kernel_rfl) ?_
              apply Exists.intro
              refine ⟨fun w1 hw1 => ?_, fun K hK => ?_⟩
              · go_simp; first | done | rfl
              go_simp; refine hK _ _ ?_; clear hK K
            clear d0 d1 d2 d3 x0 x1 x2 x3 e1
            refine wpE_k (by kernel_rfl) (by kernel_rfl) ?_
            refine ⟨.bool (!sameT x u), fun w1 hw1 => ?_, fun K hK => ?_⟩
            · go_simp
              unfold sameT sameV
              have ht := toList_iff x.c.t u.c.t
              have hv := toList_iff x.v u.v
              by_cases h0 : x.v = u.v <;> by_cases h1 : x.c.k = u.c.k <;> by_cases h2 : x.c.i = u.c.i <;> by_cases h3 : x.c.t = u.c.t <;> simp [h0, h1, h2, h3, ht, hv]
            go_simp; refine hK _ _ ?_; clear hK K
            refine wpE_nil ⟨rfl, by kernel_rfl, fun wq hwq => ?_⟩
            simp only [EndQ]
            refine wpList_nil ?_
            have HF := hide hwq; clear hwq
            cases he : sameT x u with
            | true =>
              have He := hide he; clear he
              go_wp2_with fail
              go_roundw
              case rel => exact ⟨i + 1, A8, c8, σ2, fr2, by omega, by go_num, rfl, by omega, UInv.mk (HM2.out He.out) (MapS.ext hMid.out.map HF.out) (own_ext hMid.out.own HF.out) (hMid.out.ext.trans (.of HF.out))⟩
              case measure => simp [intOf]; omega
            | false =>
              have He := hide he; clear he
              go_wp2_with fail
              go_ret2
              have hu := hup.out.trans (HM3.out He.out)
              rw [hu]
              have h1 := HE.out.size
              exact ⟨A8, c8, rfl, ⟨rfl, own_base (own_ext hMid.out.own HF.out) h1⟩, MapS.mono (MapS.ext hMid.out.map HF.out) (by omega), (hXc.trans (.of HF.out))⟩
        · have hdn := hide (hI.out.go.done (by have := hla.out; omega))
          go_wp2_with fail
          go_ret2
          have hu := hup.out.trans hdn.out
          rw [hu]
          obtain rfl : i = n := by omega
          exact ⟨A', c', rfl, ⟨rfl, own_base hI.out.own HE.out.size⟩, hI.out.map, hXw⟩
    · have hne : ((n : Int) != (m : Int)) = true := by simp; omega
      have hup := hide (show uponP σ ⟨ra, ta⟩ ⟨ra, tb⟩ = (σ, [], false) by rw [uponP, if_neg (by have := Ha.out.len; have := Hb.out.len; simp only; omega)])
      go_enter Try.func38, Try.ntmps38
      go_wp2_with fail
      rw [HW2.out]
      go_ret2
      rw [hup.out]
      exact ⟨none, 0, rfl, OwnS.nil _ _, MapS.mono (MapS.ext Hm.out HE.out) (by omega), .of HE.out⟩
  · have hup := hide (show uponP σ ⟨ra, ta⟩ ⟨rb, tb⟩ = (σ, [], false) by rw [uponP, if_neg (fun e => hr e.1)])
    have hr2 : (ra.toList == rb.toList) = false := by simpa using fun e => hr ((bytes_toList ra rb).1 e)
    have Hr := hide hr; clear hr
    go_enter Try.func38, Try.ntmps38
    go_wp2_with fail
    rw [HW2.out]
    go_ret2
    rw [hup.out]
    exact ⟨none, 0, rfl, OwnS.nil _ _, MapS.mono (MapS.ext Hm.out HE.out) (by omega), .of HE.out⟩
end Go.Proofs.Ythjpcnceppmnmaa
