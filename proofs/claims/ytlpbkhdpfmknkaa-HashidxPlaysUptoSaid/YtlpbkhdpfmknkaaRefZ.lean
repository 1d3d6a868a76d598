/-
  The document's index: Put of a new key.
-/
import Derived.Test.YtlpbkhdpfmknkaaRefY
import Derived.Deep.RegionHeld3
import Derived.Deep.DrawnRows
namespace Go.Proofs.Ytlpbkhdpfmknkaa
open Go.RowKit

theorem insAt_get {α : Type} {L : List α} {k : Nat} (x : α) {s : α} (hs : L[k]? = some s) : (insAt L (k + 1) x)[k]? = some s := by
  have hk : k < L.length := (List.getElem?_eq_some_iff.1 hs).1
  rw [insAt, List.getElem?_append_left (by simp; omega), List.getElem?_take_of_lt (by omega)]
  exact hs
theorem insAt_step {α : Type} {L : List α} {k : Nat} (x : α) {s : α} (hs : L[k]? = some s) : (insAt L (k + 1) x).set (k + 1) s = insAt L k s := by
  obtain ⟨hk, rfl⟩ := List.getElem?_eq_some_iff.1 hs
  have hl : (L.take (k + 1)).length = k + 1 := by simp; omega
  unfold insAt
  rw [List.set_append_right _ _ (by omega), hl, Nat.sub_self, List.set_cons_zero, List.take_succ_eq_append_getElem hk, List.drop_eq_getElem_cons hk, List.append_assoc]
  rfl
theorem insAt_set {α : Type} {L : List α} {p : Nat} (x y : α) (hp : p ≤ L.length) : (insAt L p x).set p y = insAt L p y := by
  have hl : (L.take p).length = p := by simp; omega
  unfold insAt
  rw [List.set_append_right _ _ (by omega), hl, Nat.sub_self, List.set_cons_zero]
theorem insAt_end {α : Type} (L : List α) (x : α) : insAt L L.length x = L ++ [x] := by simp [insAt]
theorem mem_insAt {α : Type} {L : List α} {p : Nat} {x s : α} (h : s ∈ insAt L p x) : s = x ∨ s ∈ L := by
  rcases List.mem_append.1 h with h | h
  · exact .inr (List.mem_of_mem_take h)
  · rcases List.mem_cons.1 h with h | h
    · exact .inl h
    · exact .inr (List.mem_of_mem_drop h)

theorem infoInt : (Try.prog.info? 3).map (fun i => (i.zero, i.size, i.bytes)) = some (some (.int .i64 0), 1, 8) := by kernel_rfl
set_option maxHeartbeats 2000000 in
set_option maxRecDepth 100000 in
theorem rput_new {w : World} {R : Nat → Prop} {d most probes a m : Nat} {A M : Option Addr} {L : List ByteArray} {N : List Int} (h : RIx w R d most probes A a M m L N) (hpr : probes ≤ 4611686018427387904) (key : ByteArray) (v : Int) (hk : key.size ≤ 4096) (hin : key ∉ L) (hl : L.length < most) :
    Calls Try.prog 23 #[.pointer (some ⟨d, 0, none⟩), .string key, .int .i64 v] w (RPutPost w R d most probes L N key v) := by
  have HP := hide h.probe
  have HA := hide (at_any HP.out.1 key (by omega))
  have a1 : w.cell? ⟨d, 1, none⟩ = some (.int .i64 probes) := h.blk.cell 1
  have f1 : w.frozen? ⟨d, 1, none⟩ = false := h.blk.frozen 1
  have HIN := hide hin
  have hm2 := h.most.2
  obtain ⟨i0, hi0, hz0, hz1, hz2⟩ := info_parts infoStr
  obtain ⟨i1, hi1, hy0, hy1, hy2⟩ := info_parts infoInt
  have HLN := hide h.len
  have hNl : N.length ≤ 1048576 := by have := h.len; omega
  clear h hin
  go_enter Try.func23, Try.ntmps23
  go_wp2_with fail
  refine HA.out.mono ?_
  rintro e w1 ⟨r, rfl, hr, x1⟩
  have HI := hide (HP.out.1.ext x1)
  have HC := hide (HP.out.2.trans' (Chg.of x1))
  clear x1 a1 f1
  rcases hr with ⟨p, rfl, hp⟩ | ⟨rfl, hno⟩
  · exact absurd (List.mem_of_getElem? hp) HIN.out
  · clear hno
    have a0 : w1.cell? ⟨d, 0, none⟩ = some (.int .i64 most) := HI.out.blk.cell 0
    have a2 : w1.cell? ⟨d, 2, none⟩ = some (.slice A L.length a) := HI.out.blk.cell 2
    have a0 := cell_ext a0
    have a2 := cell_ext a2
    have hne : ((L.length : Int) == (most : Int)) = false := by simp; omega
    go_wp2_with fail
    refine wp_region_ext 10 (by kernel_rfl) (by kernel_rfl) (by kernel_rfl) ?_
    iterate 10
      refine wpE_k (by kernel_rfl) (by kernel_rfl) ?_
      apply Exists.intro
      refine ⟨fun w1 hw1 => ?_, fun K hK => ?_⟩
      · go_simp; first | done | rfl
      go_simp; refine hK _ _ ?_; clear hK K
    refine wpE_nil ⟨rfl, by kernel_rfl, fun wq hwq => ?_⟩
    simp only [EndQ]
    refine wpList_nil ?_
    have HI2 := hide (HI.out.ext hwq)
    have HC2 := hide (HC.out.trans' (Chg.of hwq))
    clear hwq a0 a2
    have HPL := hide (place_any HI2.out key (by omega))
    go_wp2_with fail
    refine HPL.out.mono ?_
    rintro e w2 ⟨p, rfl, hcut, x2⟩
    have HI3 := hide (HI2.out.ext x2)
    have HC3 := hide (HC2.out.trans' (Chg.of x2))
    have HCUT := hide hcut
    have hpl := hcut.le
    clear x2 hcut HI HI2 HC HC2 HPL hne
    have a2 : w2.cell? ⟨d, 2, none⟩ = some (.slice A L.length a) := HI3.out.blk.cell 2
    have f2 : w2.frozen? ⟨d, 2, none⟩ = false := HI3.out.blk.frozen 2
    have hdl := HI3.out.blk.lt
    have HKS := hide (HI3.out.ks.alloc (.cells #[.string ⟨#[]⟩] 9))
    have HN2 := hide (Blk.new w2 9 #[.string ⟨#[]⟩])
    go_upto_region 13 with (at_builtin; refine wpList_append_lies _ rfl (.tmp 60) (.tmp 61) 22 rfl 0 9 i0 _ 1 16 Try.underlying22 hi0 hz0 hz1 hz2 rfl (by omega) (.slice A L.length a) L.length (txtC L) rfl HKS.out ⟨w2.heap.size, 0, none⟩ 1 1 [.string ⟨#[]⟩] rfl rfl (World.news_of_block HN2.out) (by intro u hu; obtain rfl := List.mem_singleton.1 hu; rfl) (by omega) (by unfold maxLen; omega) (by omega) (Nat.zero_le _) (w2.heap.size + 1) (by simp) ?_; intro g3 c3 w3 o3 k3 l3 z3; have O3 := hide o3; have K3 := hide k3; have L3 := hide l3; clear o3 k3 l3; have HB3 := hide (show Blk w3 d 43 _ from (chg_grown K3.out).blk (HI3.out.blk.ext (Ext.alloc w2 (.cells #[.string ⟨#[]⟩] 9))) (fun e => own_type HKS.out (HI3.out.blk.ext (Ext.alloc w2 (.cells #[.string ⟨#[]⟩] 9))) (by decide) e)); have e3 : w3.cell? ⟨d, 2, none⟩ = some (.slice A L.length a) := HB3.out.cell 2; have e4 : w3.frozen? ⟨d, 2, none⟩ = false := HB3.out.frozen 2)
    obtain ⟨R4, hK4⟩ := HI3.out.toRRaw.appKey (Ext.alloc w2 (.cells #[.string ⟨#[]⟩] 9)) O3.out K3.out (by simpa using L3.out) z3
    have HI4 := hide hK4.1
    have HC4 := hide (HC3.out.trans hK4.2.1 fun g hg _ => hg)
    have HR4 := hide (fun x (hx : R4 x) => (hK4.2.2 x hx).imp id fun h => Nat.le_trans HC3.out.size h)
    generalize w3.setCell ⟨d, 2, none⟩ (.slice (some ⟨g3, 0, none⟩) (L.length + 1) c3) = w4 at *
    clear hK4 O3 K3 L3 HB3 e3 e4 a2 f2 HKS HN2 z3 hdl
    have a3 : w4.cell? ⟨d, 3, none⟩ = some (.slice M N.length m) := HI4.out.blk.cell 3
    have f3 : w4.frozen? ⟨d, 3, none⟩ = false := HI4.out.blk.frozen 3
    have hdl := HI4.out.blk.lt
    have HNS := hide (HI4.out.ns.alloc (.cells #[.int .i64 0] 3))
    have HN4 := hide (Blk.new w4 3 #[.int .i64 0])
    go_upto_region 14 with (at_builtin; refine wpList_append_lies _ rfl (.tmp 69) (.tmp 70) 41 rfl 0 3 i1 _ 1 8 Try.underlying41 hi1 hy0 hy1 hy2 rfl (by omega) (.slice M N.length m) N.length (numC N) rfl HNS.out ⟨w4.heap.size, 0, none⟩ 1 1 [.int .i64 0] rfl rfl (World.news_of_block HN4.out) (by intro u hu; obtain rfl := List.mem_singleton.1 hu; rfl) (by omega) (by unfold maxLen; omega) (by omega) (Nat.zero_le _) (w4.heap.size + 1) (by simp) ?_; intro g5 c5 w5 o5 k5 l5 z5; have O5 := hide o5; have K5 := hide k5; have L5 := hide l5; clear o5 k5 l5; have HB5 := hide (show Blk w5 d 43 _ from (chg_grown K5.out).blk (HI4.out.blk.ext (Ext.alloc w4 (.cells #[.int .i64 0] 3))) (fun e => own_type HNS.out (HI4.out.blk.ext (Ext.alloc w4 (.cells #[.int .i64 0] 3))) (by decide) e)); have e3 : w5.cell? ⟨d, 3, none⟩ = some (.slice M N.length m) := HB5.out.cell 3; have e4 : w5.frozen? ⟨d, 3, none⟩ = false := HB5.out.frozen 3)
    obtain ⟨R6, hK6⟩ := HI4.out.appNum (Ext.alloc w4 (.cells #[.int .i64 0] 3)) O5.out K5.out (by simpa using L5.out) z5
    have HI6 := hide hK6.1
    have HC6 := hide (HC4.out.trans hK6.2.1 fun g hg hgl => (HR4.out g hg).elim id fun h => absurd h (by omega))
    have HR6 := hide (fun x (hx : R6 x) => (hK6.2.2 x hx).elim (HR4.out x) fun h => .inr (Nat.le_trans HC4.out.size h))
    generalize w5.setCell ⟨d, 3, none⟩ (.slice (some ⟨g5, 0, none⟩) (N.length + 1) c5) = w6 at *
    clear hK6 O5 K5 L5 HB5 e3 e4 a3 f3 HNS HN4 z5 hdl HI4 HC4 HR4
    rw [← insAt_end, ← insAt_end] at HI6
    have a2 : w6.cell? ⟨d, 2, none⟩ = some (.slice (some ⟨g3, 0, none⟩) (insAt L L.length ⟨#[]⟩).length c3) := HI6.out.blk.cell 2
    rw [insAt_len _ (Nat.le_refl _)] at a2
    go_wp2_with fail
    clear a2
    go_loopw [12] (fun s12 w' => ∃ (j : Nat) (s : ByteArray) (u : Int), p ≤ j ∧ j ≤ L.length ∧ s12 = .int .i64 j ∧ Hid (RRaw w' R6 d most (probes + 1) (some ⟨g3, 0, none⟩) c3 (some ⟨g5, 0, none⟩) c5 (insAt L j s) (insAt N j u)) ∧ Hid (Chg R w w')) (fun s12 _ => (intOf s12).toNat - p)
    case atStart => exact ⟨L.length, ⟨#[]⟩, 0, hpl, Nat.le_refl _, rfl, by have := HI6.out; rwa [HLN.out] at this, HC6.out⟩
    case round =>
      obtain ⟨j, s, u, hpj, hjl, rfl, hI, hC⟩ := hrel
      clear HI6 HC6
      by_cases hj : p < j
      · obtain ⟨k, rfl⟩ : ∃ k, j = k + 1 := ⟨j - 1, by omega⟩
        have hkL : k < L.length := by omega
        have hs := List.getElem?_eq_getElem hkL
        have hkN : k < N.length := by rw [HLN.out]; exact hkL
        have hu := List.getElem?_eq_getElem hkN
        have hz := insAt_len (L := L) s (p := k + 1) (by omega)
        have hy := insAt_len (L := N) u (p := k + 1) (by omega)
        obtain ⟨_, e, b0, _⟩ := hI.out.key (insAt_get s hs)
        injection e with e; injection e with e; subst e
        obtain ⟨_, e, b1, _⟩ := hI.out.num (insAt_get u hu)
        injection e with e; injection e with e; subst e
        have a2 : wr.cell? ⟨d, 2, none⟩ = some (.slice (some ⟨g3, 0, none⟩) (insAt L (k + 1) s).length c3) := hI.out.blk.cell 2
        have a3 : wr.cell? ⟨d, 3, none⟩ = some (.slice (some ⟨g5, 0, none⟩) (insAt N (k + 1) u).length c5) := hI.out.blk.cell 3
        rw [hz] at a2
        rw [hy] at a3
        have HS := hide hs; have HU := hide hu
        have HZ := hide hz; have HY := hide hy
        clear hs hu hz hy
        generalize L[k] = s' at *
        generalize N[k] = u' at *
        have hwk : IntKind.i64.wrap (k : Int) = (k : Int) := IntWalk.i64_in _ (by omega)
        have hk0 : (0 : Int) ≤ (k : Int) := by omega
        have hk1 : (k : Int) < (L.length : Int) + 1 := by omega
        have hk2 : (k : Int) < (N.length : Int) + 1 := by omega
        have hkL1 : k + 1 < (insAt L (k + 1) s).length := by rw [HZ.out]; omega
        have hkN1 : k + 1 < (insAt N (k + 1) u).length := by rw [HY.out]; omega
        obtain ⟨_, e, d0, d1⟩ := hI.out.key (List.getElem?_eq_getElem hkL1)
        injection e with e; injection e with e; subst e
        obtain ⟨_, e, d2, d3⟩ := hI.out.num (List.getElem?_eq_getElem hkN1)
        injection e with e; injection e with e; subst e
        have hgg := hI.out.apart
        have hgg2 := Ne.symm hgg
        have hgd : d ≠ g3 := fun e => own_type hI.out.ks hI.out.blk (by decide) (by rw [e]; rfl)
        have hgd2 := Ne.symm hgd
        have hgn : d ≠ g5 := fun e => own_type hI.out.ns hI.out.blk (by decide) (by rw [e]; rfl)
        have hgn2 := Ne.symm hgn
        have HS8 := hide (hI.out.setKey hkL1 s')
        have HN8 := hide (HS8.out.1.setNum hkN1 u')
        have HI9 := hide (show RRaw (((wr.setCell ⟨g3, k + 1, none⟩ (.string s')).setCell ⟨g5, k + 1, none⟩ (.int .i64 u')).drew) R6 d most (probes + 1) (some ⟨g3, 0, none⟩) c3 (some ⟨g5, 0, none⟩) c5 (insAt L k s') (insAt N k u') from by
          have := HN8.out.1.ext (Ext.drew _)
          rwa [insAt_step s HS.out, insAt_step u HU.out] at this)
        have HC9 := hide (show Chg R w (((wr.setCell ⟨g3, k + 1, none⟩ (.string s')).setCell ⟨g5, k + 1, none⟩ (.int .i64 u')).drew) from ((hC.out.trans HS8.out.2 fun g hg hgl => (HR6.out g hg).elim id fun h => absurd h (by omega)).trans HN8.out.2 fun g hg hgl => (HR6.out g hg).elim id fun h => absurd h (by omega)).trans' (Chg.of (Ext.drew _)))
        have hk3 : (k : Int) + 1 < (L.length : Int) + 1 := by omega
        have hk4 : (k : Int) + 1 < (N.length : Int) + 1 := by omega
        have hk5 : (0 : Int) ≤ (k : Int) + 1 := by omega
        have hfar : ∀ (w : World) (v : Value), (w.setCell ⟨g3, k + 1, none⟩ v).cell? ⟨g3, k, none⟩ = w.cell? ⟨g3, k, none⟩ := fun w v => World.cell?_setCell_other w _ _ v (by intro e; injection e with _ e; omega)
        have hfar2 : ∀ (w : World) (v : Value), (w.setCell ⟨g5, k + 1, none⟩ v).cell? ⟨g5, k, none⟩ = w.cell? ⟨g5, k, none⟩ := fun w v => World.cell?_setCell_other w _ _ v (by intro e; injection e with _ e; omega)
        go_wp2_with fail
        go_region_held3 (fun w' => w'.cell? ⟨d, 2, none⟩ = some (.slice (some ⟨g3, 0, none⟩) (L.length + 1) c3) ∧ w'.cell? ⟨d, 3, none⟩ = some (.slice (some ⟨g5, 0, none⟩) (N.length + 1) c5) ∧ w'.cell? ⟨g3, k, none⟩ = some (.string s') ∧ w'.cell? ⟨g5, k, none⟩ = some (.int .i64 u')) (go_keep) (fail)
        generalize ((wr.setCell ⟨g3, k + 1, none⟩ (.string s')).setCell ⟨g5, k + 1, none⟩ (.int .i64 u')).drew = W9 at *
        clear hfar hfar2 HS8 HN8 a2 a3 b0 b1 d0 d1 d2 d3 hgg hgg2 hgd hgd2 hgn hgn2
        go_wp2_with fail
        go_roundw
        case rel => exact ⟨k, s', u', by omega, by omega, by go_num, HI9.out, HC9.out⟩
        case measure => simp [intOf]; omega
      · obtain rfl : j = p := by omega
        have hz := insAt_len (L := L) s (p := j) (by omega)
        have hy := insAt_len (L := N) u (p := j) (by rw [HLN.out]; omega)
        have hkL1 : j < (insAt L j s).length := by rw [hz]; omega
        have hkN1 : j < (insAt N j u).length := by rw [hy, HLN.out]; omega
        obtain ⟨_, e, d0, d1⟩ := hI.out.key (List.getElem?_eq_getElem hkL1)
        injection e with e; injection e with e; subst e
        obtain ⟨_, e, d2, d3⟩ := hI.out.num (List.getElem?_eq_getElem hkN1)
        injection e with e; injection e with e; subst e
        have a2 : wr.cell? ⟨d, 2, none⟩ = some (.slice (some ⟨g3, 0, none⟩) (insAt L j s).length c3) := hI.out.blk.cell 2
        have a3 : wr.cell? ⟨d, 3, none⟩ = some (.slice (some ⟨g5, 0, none⟩) (insAt N j u).length c5) := hI.out.blk.cell 3
        rw [hz] at a2
        rw [hy] at a3
        have hgg := hI.out.apart
        have hgg2 := Ne.symm hgg
        have hgd : d ≠ g3 := fun e => own_type hI.out.ks hI.out.blk (by decide) (by rw [e]; rfl)
        have hgd2 := Ne.symm hgd
        have hgn : d ≠ g5 := fun e => own_type hI.out.ns hI.out.blk (by decide) (by rw [e]; rfl)
        have hgn2 := Ne.symm hgn
        have hk1 : (j : Int) < (L.length : Int) + 1 := by omega
        have hk2 : (j : Int) < (N.length : Int) + 1 := by have := HLN.out; omega
        have hk0 : (0 : Int) ≤ (j : Int) := by omega
        have HS8 := hide (hI.out.setKey hkL1 key)
        have HN8 := hide (HS8.out.1.setNum hkN1 v)
        have HR := hide (show RPutPost w R d most probes L N key v (.returned (.tuple #[.int .i64 0, .bool false, .int .i64 0])) (((wr.setCell ⟨g3, j, none⟩ (.string key)).setCell ⟨g5, j, none⟩ (.int .i64 v)).drew) from by
          have h1 := HN8.out.1.ext (Ext.drew _)
          rw [insAt_set s key (by omega), insAt_set u v (by rw [HLN.out]; omega)] at h1
          have h2 : Chg R w (((wr.setCell ⟨g3, j, none⟩ (.string key)).setCell ⟨g5, j, none⟩ (.int .i64 v)).drew) := ((hC.out.trans HS8.out.2 fun g hg hgl => (HR6.out g hg).elim id fun h => absurd h (by omega)).trans HN8.out.2 fun g hg hgl => (HR6.out g hg).elim id fun h => absurd h (by omega)).trans' (Chg.of (Ext.drew _))
          refine ⟨0, false, 0, R6, _, _, c3, c5, insAt L j key, insAt N j v, rfl, .inr (.inr (.inr ⟨hk, HIN.out, hl, rfl, rfl, rfl, j, HCUT.out, rfl, rfl⟩)), ⟨h1, ?_, HCUT.out.rises HI3.out.rises HIN.out, fun s hs => ?_, ?_, hm2⟩, HR6.out, h2⟩
          · rw [insAt_len (L := N) v (p := j) (by rw [HLN.out]; omega), insAt_len (L := L) key (p := j) (by omega), HLN.out]
          · rcases mem_insAt hs with rfl | hs
            · exact hk
            · exact HI3.out.small s hs
          · rw [insAt_len _ (by omega)]; exact hl)
        clear hz hy
        go_wp2_with fail
        go_region_held3 (fun w' => w'.cell? ⟨d, 2, none⟩ = some (.slice (some ⟨g3, 0, none⟩) (L.length + 1) c3) ∧ w'.cell? ⟨d, 3, none⟩ = some (.slice (some ⟨g5, 0, none⟩) (N.length + 1) c5)) (go_keep) (fail)
        generalize ((wr.setCell ⟨g3, j, none⟩ (.string key)).setCell ⟨g5, j, none⟩ (.int .i64 v)).drew = W9 at *
        clear HS8 HN8 a2 a3 d0 d1 d2 d3 hgg hgg2 hgd hgd2 hgn hgn2
        go_wp2_with fail
        go_ret3
        exact HR.out

theorem rput_any {w : World} {R : Nat → Prop} {d most probes a m : Nat} {A M : Option Addr} {L : List ByteArray} {N : List Int} (h : RIx w R d most probes A a M m L N) (hpr : probes ≤ 4611686018427387904) (key : ByteArray) (v : Int) (hk : key.size ≤ 1048576) :
    Calls Try.prog 23 #[.pointer (some ⟨d, 0, none⟩), .string key, .int .i64 v] w (RPutPost w R d most probes L N key v) := by
  by_cases hl : 4096 < key.size
  · exact rput_long h hpr key v hk hl
  · by_cases hin : key ∈ L
    · exact rput_there h hpr key v (by omega) hin
    · by_cases hf : L.length = most
      · exact rput_full h hpr key v (by omega) hin hf
      · exact rput_new h hpr key v (by omega) hin (by have := h.most; omega)
end Go.Proofs.Ytlpbkhdpfmknkaa
