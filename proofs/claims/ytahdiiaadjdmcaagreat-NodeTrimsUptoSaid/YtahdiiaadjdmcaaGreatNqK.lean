/-
  NodeTrims: the law's walk.
-/
import Derived.Test.YtahdiiaadjdmcaaGreatNqJ
import Derived.Test.YtahdiiaadjdmcaaGreatNqG
namespace Go.Proofs.YtahdiiaadjdmcaaGreat
open Go.RowKit

/-- what the law holds: the node, the rows that were seen, their counts -/
structure TmI (w0 : World) (n l : Nat) (K : NK) (a : NAbs) (N : Nat) (P : Nat → Prop) (A1 : Option Addr) (no c1 : Nat) (own : List (List V)) (A2 : Option Addr) (nc c2 : Nat) (cts : List Int) (w : World) : Prop where
  np : NP w0 w n l K a N P
  own : Told w P A1 no c1 own
  cts : OwnH w P 3 1 nc (.slice A2 nc c2) (cts.map (Value.int .i64))
  new : ∀ b, P b → w0.heap.size ≤ b
section
variable {w0 w w' : World} {n l : Nat} {K : NK} {a : NAbs} {N : Nat} {P Q : Nat → Prop} {A1 A2 : Option Addr} {no c1 nc c2 : Nat} {own : List (List V)} {cts : List Int}
theorem TmI.ext (h : TmI w0 n l K a N P A1 no c1 own A2 nc c2 cts w) (hw : Ext w w') : TmI w0 n l K a N (And' P w.heap.size w'.heap.size) A1 no c1 own A2 nc c2 cts w' :=
  ⟨h.np.ext hw, h.own.ext hw fun b hb => .inl hb, (h.cts.ext hw).mono fun b hb => .inl hb, fun b hb => hb.elim (h.new b) fun h1 => by have := h.np.size0; omega⟩
theorem TmI.turn (h : TmI w0 n l K a N P A1 no c1 own A2 nc c2 cts w) {a' : NAbs} {N' : Nat} (hn : NP w0 w' n l K a' N' Q) (hk : Keeps P w w') (hq : ∀ b, P b → Q b) (hq2 : ∀ b, Q b → P b ∨ w.heap.size ≤ b) : TmI w0 n l K a' N' Q A1 no c1 own A2 nc c2 cts w' :=
  ⟨hn, h.own.keep hk hq, (h.cts.chg hk fun _ hb hn => hn hb).mono hq, fun b hb => (hq2 b hb).elim (h.new b) fun h1 => by have := h.np.size0; omega⟩
theorem TmI.pushO (h : TmI w0 n l K a N P A1 no c1 own A2 nc c2 cts w) {xs : List Value} {u : Value} {r : List V} (ho : OwnH w P 28 1 no (.slice A1 no c1) xs) (he : Els (RB P) 1 w xs own) (hr : Els (RB P) 1 w [u] [r]) {A' : Option Addr} {c' : Nat} (o : OwnH w' (fun b => P b ∨ b = w.heap.size) 28 1 (no + 1) (.slice A' (no + 1) c') (xs ++ [u])) (G : w.grownBy w' (Value.slice A1 no c1).ownBlock) (C : Chg P w w') : TmI w0 n l K a N (And' P w.heap.size w'.heap.size) A' (no + 1) c' (own ++ [r]) A2 nc c2 cts w' :=
  ⟨h.np.chgP C (fun _ hb => hb) h.new, Told.app ho he hr o G fun _ hb => hb, (h.cts.grown ho.own (by decide) G).mono fun b hb => .inl hb, fun b hb => hb.elim (h.new b) fun h1 => by have := h.np.size0; omega⟩
theorem TmI.pushC (h : TmI w0 n l K a N P A1 no c1 own A2 nc c2 cts w) {A' : Option Addr} {c' : Nat} {x : Int} (o : OwnH w' (fun b => P b ∨ b = w.heap.size) 3 1 (nc + 1) (.slice A' (nc + 1) c') (cts.map (Value.int .i64) ++ [.int .i64 x])) (G : w.grownBy w' (Value.slice A2 nc c2).ownBlock) (C : Chg P w w') : TmI w0 n l K a N (And' P w.heap.size w'.heap.size) A1 no c1 own A' (nc + 1) c' (cts ++ [x]) w' :=
  ⟨h.np.chgP C (fun _ hb => hb) h.new, h.own.grownI h.cts.own G fun b hb => .inl hb, by
    rw [List.map_append]
    exact ⟨o.own, fun g hg => (o.inB g hg).imp id fun e => ⟨by omega, o.lt g hg⟩⟩, fun b hb => hb.elim (h.new b) fun h1 => by have := h.np.size0; omega⟩
theorem Told.farI (h : Told w P A1 no c1 own) {g : Nat} {cs : Array Value} (hb : Blk w g 3 cs) (j : Nat) (u : Value) : Told (w.setCell ⟨g, j, none⟩ u) P A1 no c1 own := by
  obtain ⟨h1, xs, h2, h3⟩ := h
  refine ⟨h1, xs, h2.far hb (by decide) j u, h3.mono fun cs r hx => ?_⟩
  obtain ⟨A, n, c, e, ho⟩ := hx
  exact ⟨A, n, c, e, ho.far hb (by decide) j u⟩
theorem TmI.put (h : TmI w0 n l K a N P A1 no c1 own A2 nc c2 cts w) {p : Nat} {c : Int} (hp : cts[p]? = some c) : ∃ g, A2 = some ⟨g, 0, none⟩ ∧ P g ∧ w.cell? ⟨g, p, none⟩ = some (.int .i64 c) ∧ w.frozen? ⟨g, p, none⟩ = false ∧ ∀ u : Int, TmI w0 n l K a N P A1 no c1 own A2 nc c2 (cts.set p u) (w.setCell ⟨g, p, none⟩ (.int .i64 u)) := by
  have hpl := (List.getElem?_eq_some_iff.1 hp).1
  have hlen := h.cts.own.1
  rw [List.length_map, Nat.mul_one] at hlen
  obtain ⟨g, rfl, hg, hgl, hc, hf⟩ := h.cts.at_ (by omega)
  refine ⟨g, rfl, hg, hc p _ (by rw [List.getElem?_map, hp]; rfl), hf p, fun u => ?_⟩
  obtain ⟨cs, hb⟩ : ∃ cs, Blk w g 3 cs := by
    rcases h.cts.own.2 with ⟨h1, -⟩ | ⟨g', cap, cur, h1, h2, h3, -⟩
    · cases h1
    · injection h1 with h1
      injection h1 with h1
      injection h1 with h1
      subst h1
      exact ⟨cur, h3⟩
  have C := (Chg.refl (fun b => b = g) w).setCell (p := ⟨g, p, none⟩) (.inl rfl) (.int .i64 u)
  refine ⟨(h.np.chgP C (fun b hb => hb ▸ hg) fun b hb => hb ▸ h.new g hg).mono fun b hb => .inl hb, h.own.farI hb p _, ?_, h.new⟩
  have := h.cts.put p (.int .i64 u)
  rw [List.map_set]
  exact this
end
theorem proj_ok {K : NK} (hK : NKOk K) {r : List V} (hf : fitsR K.inn r = true) : projR r (K.keep.map Int.ofNat) = (keyR K.keep r, 0) := by
  unfold fitsR at hf
  rw [Bool.and_eq_true, decide_eq_true_eq] at hf
  obtain ⟨l, h1, -⟩ := projGo_in r K.keep fun c hc => by have := hK.keep.2 c hc; have := hf.1; omega
  have h2 : projR r (K.keep.map Int.ofNat) = (l, 0) := by
    unfold projR
    rw [if_neg (by rw [List.length_map]; have := hK.keep.1; omega), h1]
  unfold keyR
  rw [h2]
theorem cntL_le {K : NK} (h2 : K.kind = 2) {s : NSt} (h : NOk K s) (x : List V) : cntL s.ons s.cnt x ≤ 65536 := by
  rw [cntL_ix]
  cases hi : ixR x s.ons with
  | none => exact Nat.zero_le _
  | some i =>
    have hlt := (List.getElem?_eq_some_iff.1 (ixR_get hi)).1
    have hl := (h.cnt h2).1
    have : s.cnt[i]? = some s.cnt[i] := List.getElem?_eq_getElem (by omega)
    show s.cnt[i]?.getD 0 ≤ 65536
    rw [this]
    exact ((h.cnt h2).2 _ (List.getElem_mem _)).2
def tmS (inn : Int) (keep : List Int) : SP := ⟨2, inn, keep, [], [], 100⟩
def tmL (Ak : Option Addr) (ck : Nat) : SPL := ⟨Ak, ck, none, 0, none, 0⟩
theorem tm_spec {w : World} {keep : List Int} {Ak : Option Addr} {nk : Nat} (inn : Int) (ck : Nat) (h : NumAt w Ak nk keep) (hn : nk ≤ 1048576) : SpecAt w (tmS inn keep) (tmL Ak ck) := by
  obtain rfl := h.len
  have h0 : NumAt w none 0 [] := ⟨rfl, Sl.nil w none 1⟩
  exact ⟨h, h0, h0, hn, Nat.zero_le _, Nat.zero_le _⟩
set_option maxRecDepth 100000 in
set_option maxHeartbeats 4000000 in
theorem law_trims (inn : Int) (keep : List Int) (Akp : Option Addr) (nkp ckp : Nat) (ops : List OpS) (Ao : Option Addr) (l co : Nat) (w : World) (_hi : -9223372036854775808 ≤ inn ∧ inn ≤ 9223372036854775807) (hkp : NumAt w Akp nkp keep) (hkl : nkp ≤ 1048576) (_hkw : wfI keep) (ho : LAt ROp 3 w Ao l ops) (_hlc : l ≤ co) (hl : l ≤ 1048576) (hor : ∀ o ∈ ops, o.row.length ≤ 1048576 ∧ smallR o.row) (howf : ∀ o ∈ ops, wfR o.row) :
    Calls Tryz.prog 5 #[.int .i64 inn, .slice Akp nkp ckp, .slice Ao l co] w fun e w' => e = .returned (.bool true) ∧ Ext w w' := by
  obtain rfl := hkp.len
  obtain ⟨g, hg⟩ : ∃ g, w.heap.size = g := ⟨_, rfl⟩
  obtain ⟨w1, hw1⟩ : ∃ w1, w.alloc (.cells #[.int .i64 2, .int .i64 inn, .slice Akp keep.length ckp, .slice none 0 0, .slice none 0 0, .int .i64 100] 25) = w1 := ⟨_, rfl⟩
  have hb := Blk.new w 25 #[.int .i64 2, .int .i64 inn, .slice Akp keep.length ckp, .slice none 0 0, .slice none 0 0, .int .i64 100]
  have he := Ext.alloc w (.cells #[.int .i64 2, .int .i64 inn, .slice Akp keep.length ckp, .slice none 0 0, .slice none 0 0, .int .i64 100] 25)
  have HW1 := hide hw1
  rw [hw1] at hb he
  rw [hg] at hb
  have HE := hide he
  have HMD := hide (show Calls Tryz.prog 9 #[.agg #[.int .i64 2, .int .i64 inn, .slice Akp keep.length ckp, .slice none 0 0, .slice none 0 0, .int .i64 100]] w1 fun e w' => MadeN (tmS inn keep) w1 w' e from made_any (s := tmS inn keep) (L := tmL Akp ckp) ((tm_spec inn ckp hkp hkl).ext he))
  have HO := hide (ho.ext ROp.stab he); have HOR := hide hor; have HOW := hide howf; have HKP := hide (hkp.ext he)
  have b0 : w1.cell? ⟨g, 0, none⟩ = some (.int .i64 2) := hb.cell 0
  have b1 : w1.cell? ⟨g, 1, none⟩ = some (.int .i64 inn) := hb.cell 1
  have b2 : w1.cell? ⟨g, 2, none⟩ = some (.slice Akp keep.length ckp) := hb.cell 2
  have b3 : w1.cell? ⟨g, 3, none⟩ = some (.slice none 0 0) := hb.cell 3
  have b4 : w1.cell? ⟨g, 4, none⟩ = some (.slice none 0 0) := hb.cell 4
  have b5 : w1.cell? ⟨g, 5, none⟩ = some (.int .i64 100) := hb.cell 5
  have HG := hide hg
  clear ho hor howf hb he hkp hw1 hg
  go_enter Tryz.func5, Tryz.ntmps5
  go_upto_region 2 with fail
  rw [HG.out, HW1.out]
  clear HW1 HG
  go_wp2_with fail
  refine HMD.out.mono ?_
  rintro e w2 h2
  clear b0 b1 b2 b3 b4 b5 HMD
  rcases h2.np with ⟨-, rfl, x2⟩ | ⟨hgd, n, d, lv, b, rfl, h2, -, -⟩
  · have X2 := hide x2
    clear x2
    go_wp2_with fail
    refine (awake_nd _).mono ?_
    rintro e w3 ⟨rfl, x3⟩
    have X3 := hide x3
    clear x3
    go_wp2_with fail
    go_ret
    exact ⟨rfl, HE.out.trans (X2.out.trans X3.out)⟩
  · have hF := good_facts hgd
    obtain ⟨K, hK⟩ : ∃ K, nkOf (tmS inn keep) = K := ⟨_, rfl⟩
    have HK2 := hide (show K.kind = 2 from by rw [← hK]; rfl)
    have HKK := hide (show K.keep.map Int.ofNat = keep from by rw [← hK]; exact cast_keep hF)
    rw [hK] at h2
    have N2 := hide (show TmI w1 n lv K emptyN 262144 (fun _ => False) none 0 0 [] none 0 0 [] w2 from ⟨h2.mono (Q := fun _ => False) fun b hb => hb.elim, ⟨rfl, [], OwnH.nil _ _ _ _, .nil⟩, OwnH.nil _ _ _ _, fun b hb => hb.elim⟩)
    clear h2 hgd hF hK
    go_wp2_with fail
    go_loopw [11, 12, 14, 15, 16, 17, 18, 19, 44] (fun s11 s12 _ _ _ _ _ _ s44 w' => ∃ (i : Nat) (a : NAbs) (N : Nat) (P : Nat → Prop) (no : Nat) (A1 : Option Addr) (c1 : Nat) (A2 : Option Addr) (c2 : Nat) (own : List (List V)) (cts : List Int), i ≤ l ∧ s44 = .int .i64 i ∧ s11 = .slice A1 no c1 ∧ s12 = .slice A2 no c2 ∧ Hid (TmI w1 n lv K a N P A1 no c1 own A2 no c2 cts w') ∧ Hid (TrimI K a.now own cts) ∧ no ≤ i ∧ Hid (a.old = none ∧ N ≤ 262144 + 1048576 * i)) (fun _ _ _ _ _ _ _ _ s44 _ => l - (intOf s44).toNat)
    case atStart => exact ⟨0, _, _, _, 0, _, _, _, _, _, _, by omega, rfl, rfl, rfl, N2, TrimI.start K, by omega, rfl, by omega⟩
    case round =>
      clear N2
      obtain ⟨i, a, N, P, no, A1, c1, A2, c2, own, cts, hil, rfl, rfl, rfl, hM, hT, hno, hS⟩ := hrel
      by_cases hi : i < l
      · have hi2 : (i : Int) < (l : Int) := by omega
        obtain ⟨ob, off, oo, A9, c9, rfl, hoi, hobl, k0, k1, k2, hrow⟩ := HO.out.op hi
        have hom := List.mem_of_getElem? hoi
        have HARG := hide (show ArgR w1 A9 oo.row.length oo.row from ⟨hrow, (HOR.out oo hom).1, (HOR.out oo hom).2, HOW.out oo hom⟩)
        have k0 := hM.out.np.ext0.cell k0; have k1 := hM.out.np.ext0.cell k1; have k2 := hM.out.np.ext0.cell k2
        obtain ⟨kd, hkd⟩ : ∃ kd, oo.kind = kd := ⟨_, rfl⟩
        obtain ⟨fr, hfr⟩ : ∃ fr, oo.k = fr := ⟨_, rfl⟩
        obtain ⟨rw_, hrw⟩ : ∃ rw_, oo.row = rw_ := ⟨_, rfl⟩
        obtain ⟨m9, hm9⟩ : ∃ m9, rw_.length = m9 := ⟨_, rfl⟩
        rw [hkd] at k0
        rw [hfr] at k1
        rw [hrw, hm9] at k2 HARG
        obtain ⟨gb, hgb⟩ : ∃ gb, wr.heap.size = gb := ⟨_, rfl⟩
        obtain ⟨wA, hwA⟩ : ∃ wA, wr.alloc (.cells #[.int .i64 kd, .int .i64 fr, .slice A9 m9 c9] 30) = wA := ⟨_, rfl⟩
        have hbA := Blk.new wr 30 #[.int .i64 kd, .int .i64 fr, .slice A9 m9 c9]
        have heA := Ext.alloc wr (.cells #[.int .i64 kd, .int .i64 fr, .slice A9 m9 c9] 30)
        have HSZ := hide (show (wr.alloc (.cells #[.int .i64 kd, .int .i64 fr, .slice A9 m9 c9] 30)).heap.size = gb + 1 from by simp; omega)
        rw [hwA] at hbA heA HSZ
        rw [hgb] at hbA
        have HWA := hide hwA; have HGB := hide hgb; have HBA := hide hbA
        have HMA := hide (hM.out.ext heA)
        have HNA := hide hM.out.np.now
        have HPA := hide (show And' P wr.heap.size wA.heap.size gb from .inr ⟨by omega, by have := HSZ.out; omega⟩)
        have HTN := hide (turn_any HMA.out.np (by have := hS.out.2; omega) kd fr c9 HARG.out)
        clear hom hrow hoi hkd hfr hrw hm9 hobl hM hwA hgb hbA heA
        by_cases hkk : ¬ kd = 1 ∧ ¬ kd = 2
        · have hb1 : (kd != 1) = true := by simpa using hkk.1
          have hb2 : (kd != 2) = true := by simpa using hkk.2
          go_upto_region 10 with fail
          rw [HGB.out, HWA.out]
          have d0 : wA.cell? ⟨gb, 0, none⟩ = some (.int .i64 kd) := HBA.out.cell 0
          clear HWA HGB HTN k0 k1 k2 hkk
          go_wp2_with fail
          refine ⟨⟨i + 1, _, _, _, _, _, _, _, _, _, _, by omega, by go_num, rfl, rfl, HMA, hT, by omega, hS.out.1, by have := hS.out.2; omega⟩, by simp [intOf]; omega⟩
        · by_cases hk1 : kd = 1
          · subst hk1
            go_upto_region 10 with fail
            rw [HGB.out, HWA.out]
            have d0 : wA.cell? ⟨gb, 0, none⟩ = some (.int .i64 1) := HBA.out.cell 0
            have d1 : wA.cell? ⟨gb, 1, none⟩ = some (.int .i64 fr) := HBA.out.cell 1
            have d2 : wA.cell? ⟨gb, 2, none⟩ = some (.slice A9 m9 c9) := HBA.out.cell 2
            clear HWA HGB k0 k1 k2 hkk
            rw [show decide ((1 : Int) = 1) = true from rfl] at HTN
            have htf := @turn_fail K a.now true fr rw_
            have hts := @trim_step K HK2.out a.now HMA.out.np.now true fr rw_
            generalize turnN K a.now true fr rw_ = t at HTN htf hts
            obtain ⟨s1, F, U, z⟩ := t
            have HTF := hide htf; have HTS := hide hts
            clear htf hts
            go_wp2_with fail
            refine HTN.out.mono ?_
            rintro e w5 ⟨y, Q5, rfl, h5, k5, pq5, qp5, m5⟩
            obtain ⟨Ay, ny, cy, Az, nz, cz, rfl⟩ := m5.two
            have hb5 := k5.blk HBA.out fun hn => hn HPA.out
            have HM5 := hide (HMA.out.turn h5 k5 pq5 qp5)
            have e5 := Ext.alloc w5 (.cells #[.slice Ay ny cy, .slice Az nz cz] 38)
            have HB6 := hide (hb5.ext e5); have E6 := hide e5
            clear h5 k5 pq5 qp5 m5 hb5 e5 HTN HBA HPA d0 d1 d2
            go_upto_region 12 with fail
            generalize w5.alloc (.cells #[.slice Ay ny cy, .slice Az nz cz] 38) = w6 at *
            have HM6 := hide (HM5.out.ext E6.out)
            clear HM5 E6
            generalize And' Q5 w5.heap.size w6.heap.size = P6 at *
            have d0 : w6.cell? ⟨gb, 0, none⟩ = some (.int .i64 1) := HB6.out.cell 0
            have d2 : w6.cell? ⟨gb, 2, none⟩ = some (.slice A9 m9 c9) := HB6.out.cell 2
            by_cases hz : ¬ z = 0
            · have hz2 : (z != 0) = true := by simpa using hz
              obtain ⟨rfl, -, -⟩ := HTF.out hz
              clear HTS HTF hz
              go_wp2_with fail
              refine ⟨⟨i + 1, _, _, _, _, _, _, _, _, _, _, by omega, by go_num, rfl, rfl, HM6, hT, by omega, hS.out.1, by have := hS.out.2; omega⟩, by simp [intOf]; omega⟩
            · obtain rfl : z = 0 := by simpa using hz
              obtain ⟨t1, t2, t3, t4⟩ := HTS.out rfl
              have hpj := ref_proj_any rw_ keep A9 Akp m9 keep.length c9 ckp w6 (HARG.out.ext HM6.out.np.ext0).at_ (HKP.out.ext HM6.out.np.ext0) HARG.out.len hkl
              have hkf := proj_ok (K := K) HM6.out.np.ok t1
              rw [HKK.out] at hkf
              rw [hkf] at hpj
              have hkg := keyR_good t1 HARG.out.small HARG.out.wf HM6.out.np.ok.keep.1 HM6.out.np.ok.keep.2
              have hfit : Fit K.width (keyR K.keep rw_) := ⟨by unfold fitsR; rw [Bool.and_eq_true]; exact ⟨decide_eq_true (by rw [hkg.len]; unfold NK.width; rw [if_pos HK2.out]), hkg.ok⟩, hkg.small, hkg.wf⟩
              have HT2 := hide t2; have HT3 := hide t3; have HFIT := hide hfit
              have HN1 := hide HM6.out.np.now
              obtain ⟨key, hkey⟩ : ∃ key, keyR K.keep rw_ = key := ⟨_, rfl⟩
              rw [hkey] at hpj HT2 HT3 HFIT t4
              have HT4 := hide t4
              have HPJ := hide (hpj.mono (R' := fun e w' => ∃ A c, e = .returned (.tuple #[.slice A key.length c, .int .i64 0]) ∧ w'.ownsRow w6.heap.size 85 3 (.slice A key.length c) key.length (cellsR key) ∧ Ext w6 w') fun e w' hh => hh)
              clear t1 t2 t3 t4 hpj hkf hkg hfit hkey hz HTF HTS
              go_upto_region 16 with ((with_reducible refine HPJ.out.mono ?_); rintro e w7 ⟨A7, c7, rfl, o7, x7⟩; have HM7 := hide (HM6.out.ext x7); have HB7 := hide (HB6.out.ext x7); have O7 := hide (RowAt.own o7); have RB7 := hide (els_single (RB.mono (ArgR.rb o7) (Q := And' P6 w6.heap.size w7.heap.size) fun b hb => .inr hb)); clear o7 x7)
              clear HPJ HM6 HB6 d0 d2
              generalize And' P6 w6.heap.size w7.heap.size = P7 at *
              have HPL := hide (place_rows own key A1 A7 no key.length c1 c7 w7 HM7.out.own.lat O7.out (by omega) (fun r hr => by have := fit_len (hT.out.fit r hr) HM7.out.np.ok.width; omega))
              have hix := plcR_ix key own 0
              cases hi3 : ixR key own
              case' some p =>
                rw [hi3] at hix
                have hix : plcR key own 0 = (p : Int) := by rw [hix]; simp
                rw [hix] at HPL
                have hget := ixR_get hi3
                have hp0 : ¬ (p : Int) < 0 := by omega
                have hpl : p < no := by have := (List.getElem?_eq_some_iff.1 hget).1; have := HM7.out.own.1; omega
                clear hix hi3
                go_upto_region 20 with ((with_reducible refine HPL.out.mono ?_); rintro e w8 ⟨rfl, x8⟩; have HM8 := hide (HM7.out.ext x8); have HB8 := hide (HB7.out.ext x8); clear x8)
                clear hp0
                have HTI := hide (hT.out.set hget HT2.out HT3.out)
                have HCT := hide (hT.out.cnt p key hget)
                obtain ⟨ct2, hct2⟩ : ∃ ct2, ct2 = cts := ⟨_, rfl⟩
                obtain ⟨ow2, how2⟩ : ∃ ow2, ow2 = own := ⟨_, rfl⟩
                obtain ⟨n2, hn2⟩ : ∃ n2, n2 = no := ⟨_, rfl⟩
                obtain ⟨B1, hB1⟩ : ∃ B1, B1 = A1 := ⟨_, rfl⟩
                obtain ⟨B2, hB2⟩ : ∃ B2, B2 = A2 := ⟨_, rfl⟩
                obtain ⟨b1, hb1⟩ : ∃ b1, b1 = c1 := ⟨_, rfl⟩
                obtain ⟨b2, hb2⟩ : ∃ b2, b2 = c2 := ⟨_, rfl⟩
                subst hct2; subst how2; subst hn2; subst hB1; subst hB2; subst hb1; subst hb2
                have hn2l : n2 ≤ i + 1 := by omega
              case' none =>
                rw [hi3] at hix
                have hnin : key ∉ own := ixR_none.1 hi3
                rw [hix] at HPL
                have HTP := hide (hT.out.push HK2.out HNA.out hnin HFIT.out)
                obtain ⟨i0, hi0, hz0, hz1, hz2⟩ := info_parts infoRw
                obtain ⟨i1, hi1, hy0, hy1, hy2⟩ := info_parts infoI
                clear hix hi3
                go_upto_region 19 with ((with_reducible refine HPL.out.mono ?_); rintro e w8 ⟨rfl, x8⟩; have HM8 := hide (HM7.out.ext x8); have HB8 := hide (HB7.out.ext x8); have RB8 := hide (RB7.out.mono (R' := RB (And' P7 w7.heap.size w8.heap.size)) (w' := w8) fun cs r hx => by
                  obtain ⟨A, n, c, e, ho⟩ := hx
                  exact ⟨A, n, c, e, (ho.ext x8).mono fun b hb => .inl hb⟩); clear x8)
                generalize And' P7 w7.heap.size w8.heap.size = P8 at *
                have x9 := Ext.alloc w8 (.cells #[.slice A7 key.length c7] 28)
                have SL9 := hide ((Blk.new w8 28 #[.slice A7 key.length c7]).sl (n := 1) (size := 1) rfl)
                have HM9 := hide (HM8.out.ext x9)
                have RB9 := hide (RB8.out.mono (R' := RB (And' P8 w8.heap.size (w8.alloc (.cells #[.slice A7 key.length c7] 28)).heap.size)) (w' := w8.alloc (.cells #[.slice A7 key.length c7] 28)) fun cs r hx => by
                  obtain ⟨A, n, c, e, ho⟩ := hx
                  exact ⟨A, n, c, e, (ho.ext x9).mono fun b hb => .inl hb⟩)
                have E9 := hide x9
                obtain ⟨xs9, own9, els9⟩ := rows_cells HM9.out.own
                have OWN9 := hide own9; have ELS9 := hide els9; have HONE := hide RB9.out.one
                clear x9 own9 els9 RB8 RB7 HM7 O7 HM8
                go_upto_region 20 with (first
                  | (at_builtin; refine wpList_append_b rfl (.tmp 80) (.tmp 82) _ rfl _ 28 i0 _ 1 24 Tryz.underlying36 hi0 hz0 hz1 hz2 rfl (by omega) (.slice A1 no c1) no xs9 rfl OWN9.out _ 1 1 _ rfl SL9.out HONE.out (by unfold maxLen; omega) (by omega) ?_; intro A10 c10 w10 own10 G10 C10; have HM10 := hide (HM9.out.pushO OWN9.out ELS9.out RB9.out own10.out G10.out C10.out); have HB10 := hide (Blk.grown (HB8.out.ext E9.out) G10.out (own_ne_blk OWN9.out.own (HB8.out.ext E9.out) (by decide))); have x11 := Ext.alloc w10 (.cells #[.int .i64 0] 3); have SL11 := hide ((Blk.new w10 3 #[.int .i64 0]).sl (n := 1) (size := 1) rfl); have HM11 := hide (HM10.out.ext x11); have HB11 := hide (HB10.out.ext x11); have HONE2 := hide (show OneCells [Value.int .i64 0] from fun v hv => by simp at hv; rw [hv]; rfl); clear own10 G10 C10 x11 OWN9 ELS9 SL9 RB9 HM10 HM9 HB10 HB8 E9)
                  | (at_builtin; refine wpList_append_b rfl (.tmp 84) (.tmp 85) _ rfl _ 3 i1 _ 1 8 Tryz.underlying23 hi1 hy0 hy1 hy2 rfl (by omega) (.slice A2 no c2) no _ rfl HM11.out.cts _ 1 1 _ rfl SL11.out HONE2.out (by unfold maxLen; omega) (by omega) ?_; intro B2 b2 w12 own12 G12 C12))
                have HM8 := hide (HM11.out.pushC own12.out G12.out C12.out)
                have HB8 := hide (Blk.grown HB11.out G12.out (own_ne_blk HM11.out.cts.own HB11.out (by decide)))
                have hget : (own ++ [key])[no]? = some key := by
                  have := HM11.out.own.1
                  rw [List.length_append] at this
                  rw [List.getElem?_append_right (by simp at this; omega), show no - own.length = 0 by simp at this; omega]; rfl
                have HTI := hide (HTP.out.set hget HT2.out HT3.out)
                have HCT := hide (HTP.out.cnt no key hget)
                have hn2l : no + 1 ≤ i + 1 := by omega
                clear hget own12 G12 C12 HM11 HB11 HTP SL11 hno
              all_goals (
                have HCN := hide (show cntL a.now.ons a.now.cnt key ≤ 65536 from cntL_le HK2.out HNA.out key)
                obtain ⟨k, hk⟩ : ∃ k, cntL a.now.ons a.now.cnt key = k := ⟨_, rfl⟩
                rw [hk] at HCT HTI HCN
                simp only [if_true] at HTI
                obtain ⟨g2, rfl, hg2, hcell, hfz, hput⟩ := HM8.out.put HCT.out
                have d0 := HB8.out.cell 0
                have HPUT := hide hput
                have hkb := HCN.out
                clear hk hput hg2 HM8 HT2 HT3 HT4 HFIT HNA HN1
                go_wp2_with fail
                refine ⟨⟨i + 1, _, _, _, _, _, _, _, _, _, _, by omega, by go_num, rfl, rfl, HPUT.out _, HTI, hn2l, hS.out.1, by have := hS.out.2; omega⟩, by simp [intOf]; omega⟩)
          · obtain rfl : kd = 2 := by omega
            go_upto_region 10 with fail
            rw [HGB.out, HWA.out]
            have d0 : wA.cell? ⟨gb, 0, none⟩ = some (.int .i64 2) := HBA.out.cell 0
            have d1 : wA.cell? ⟨gb, 1, none⟩ = some (.int .i64 fr) := HBA.out.cell 1
            have d2 : wA.cell? ⟨gb, 2, none⟩ = some (.slice A9 m9 c9) := HBA.out.cell 2
            clear HWA HGB k0 k1 k2 hkk
            rw [show decide ((2 : Int) = 1) = false from rfl] at HTN
            have htf := @turn_fail K a.now false fr rw_
            have hts := @trim_step K HK2.out a.now HMA.out.np.now false fr rw_
            generalize turnN K a.now false fr rw_ = t at HTN htf hts
            obtain ⟨s1, F, U, z⟩ := t
            have HTF := hide htf; have HTS := hide hts
            clear htf hts
            go_wp2_with fail
            refine HTN.out.mono ?_
            rintro e w5 ⟨y, Q5, rfl, h5, k5, pq5, qp5, m5⟩
            obtain ⟨Ay, ny, cy, Az, nz, cz, rfl⟩ := m5.two
            have hb5 := k5.blk HBA.out fun hn => hn HPA.out
            have HM5 := hide (HMA.out.turn h5 k5 pq5 qp5)
            have e5 := Ext.alloc w5 (.cells #[.slice Ay ny cy, .slice Az nz cz] 38)
            have HB6 := hide (hb5.ext e5); have E6 := hide e5
            clear h5 k5 pq5 qp5 m5 hb5 e5 HTN HBA HPA d0 d1 d2
            go_upto_region 12 with fail
            generalize w5.alloc (.cells #[.slice Ay ny cy, .slice Az nz cz] 38) = w6 at *
            have HM6 := hide (HM5.out.ext E6.out)
            clear HM5 E6
            generalize And' Q5 w5.heap.size w6.heap.size = P6 at *
            have d0 : w6.cell? ⟨gb, 0, none⟩ = some (.int .i64 2) := HB6.out.cell 0
            have d2 : w6.cell? ⟨gb, 2, none⟩ = some (.slice A9 m9 c9) := HB6.out.cell 2
            by_cases hz : ¬ z = 0
            · have hz2 : (z != 0) = true := by simpa using hz
              obtain ⟨rfl, -, -⟩ := HTF.out hz
              clear HTS HTF hz
              go_wp2_with fail
              refine ⟨⟨i + 1, _, _, _, _, _, _, _, _, _, _, by omega, by go_num, rfl, rfl, HM6, hT, by omega, hS.out.1, by have := hS.out.2; omega⟩, by simp [intOf]; omega⟩
            · obtain rfl : z = 0 := by simpa using hz
              obtain ⟨t1, t2, t3, t4⟩ := HTS.out rfl
              have hpj := ref_proj_any rw_ keep A9 Akp m9 keep.length c9 ckp w6 (HARG.out.ext HM6.out.np.ext0).at_ (HKP.out.ext HM6.out.np.ext0) HARG.out.len hkl
              have hkf := proj_ok (K := K) HM6.out.np.ok t1
              rw [HKK.out] at hkf
              rw [hkf] at hpj
              have hkg := keyR_good t1 HARG.out.small HARG.out.wf HM6.out.np.ok.keep.1 HM6.out.np.ok.keep.2
              have hfit : Fit K.width (keyR K.keep rw_) := ⟨by unfold fitsR; rw [Bool.and_eq_true]; exact ⟨decide_eq_true (by rw [hkg.len]; unfold NK.width; rw [if_pos HK2.out]), hkg.ok⟩, hkg.small, hkg.wf⟩
              have HT2 := hide t2; have HT3 := hide t3; have HFIT := hide hfit
              have HN1 := hide HM6.out.np.now
              obtain ⟨key, hkey⟩ : ∃ key, keyR K.keep rw_ = key := ⟨_, rfl⟩
              rw [hkey] at hpj HT2 HT3 HFIT t4
              have HT4 := hide t4
              have HPJ := hide (hpj.mono (R' := fun e w' => ∃ A c, e = .returned (.tuple #[.slice A key.length c, .int .i64 0]) ∧ w'.ownsRow w6.heap.size 85 3 (.slice A key.length c) key.length (cellsR key) ∧ Ext w6 w') fun e w' hh => hh)
              clear t1 t2 t3 t4 hpj hkf hkg hfit hkey hz HTF HTS
              go_upto_region 16 with ((with_reducible refine HPJ.out.mono ?_); rintro e w7 ⟨A7, c7, rfl, o7, x7⟩; have HM7 := hide (HM6.out.ext x7); have HB7 := hide (HB6.out.ext x7); have O7 := hide (RowAt.own o7); have RB7 := hide (els_single (RB.mono (ArgR.rb o7) (Q := And' P6 w6.heap.size w7.heap.size) fun b hb => .inr hb)); clear o7 x7)
              clear HPJ HM6 HB6 d0 d2
              generalize And' P6 w6.heap.size w7.heap.size = P7 at *
              have HPL := hide (place_rows own key A1 A7 no key.length c1 c7 w7 HM7.out.own.lat O7.out (by omega) (fun r hr => by have := fit_len (hT.out.fit r hr) HM7.out.np.ok.width; omega))
              have hix := plcR_ix key own 0
              cases hi3 : ixR key own
              case' some p =>
                rw [hi3] at hix
                have hix : plcR key own 0 = (p : Int) := by rw [hix]; simp
                rw [hix] at HPL
                have hget := ixR_get hi3
                have hp0 : ¬ (p : Int) < 0 := by omega
                have hpl : p < no := by have := (List.getElem?_eq_some_iff.1 hget).1; have := HM7.out.own.1; omega
                clear hix hi3
                go_upto_region 20 with ((with_reducible refine HPL.out.mono ?_); rintro e w8 ⟨rfl, x8⟩; have HM8 := hide (HM7.out.ext x8); have HB8 := hide (HB7.out.ext x8); clear x8)
                clear hp0
                have HTI := hide (hT.out.set hget HT2.out HT3.out)
                have HCT := hide (hT.out.cnt p key hget)
                obtain ⟨ct2, hct2⟩ : ∃ ct2, ct2 = cts := ⟨_, rfl⟩
                obtain ⟨ow2, how2⟩ : ∃ ow2, ow2 = own := ⟨_, rfl⟩
                obtain ⟨n2, hn2⟩ : ∃ n2, n2 = no := ⟨_, rfl⟩
                obtain ⟨B1, hB1⟩ : ∃ B1, B1 = A1 := ⟨_, rfl⟩
                obtain ⟨B2, hB2⟩ : ∃ B2, B2 = A2 := ⟨_, rfl⟩
                obtain ⟨b1, hb1⟩ : ∃ b1, b1 = c1 := ⟨_, rfl⟩
                obtain ⟨b2, hb2⟩ : ∃ b2, b2 = c2 := ⟨_, rfl⟩
                subst hct2; subst how2; subst hn2; subst hB1; subst hB2; subst hb1; subst hb2
                have hn2l : n2 ≤ i + 1 := by omega
              case' none =>
                rw [hi3] at hix
                have hnin : key ∉ own := ixR_none.1 hi3
                rw [hix] at HPL
                have HTP := hide (hT.out.push HK2.out HNA.out hnin HFIT.out)
                obtain ⟨i0, hi0, hz0, hz1, hz2⟩ := info_parts infoRw
                obtain ⟨i1, hi1, hy0, hy1, hy2⟩ := info_parts infoI
                clear hix hi3
                go_upto_region 19 with ((with_reducible refine HPL.out.mono ?_); rintro e w8 ⟨rfl, x8⟩; have HM8 := hide (HM7.out.ext x8); have HB8 := hide (HB7.out.ext x8); have RB8 := hide (RB7.out.mono (R' := RB (And' P7 w7.heap.size w8.heap.size)) (w' := w8) fun cs r hx => by
                  obtain ⟨A, n, c, e, ho⟩ := hx
                  exact ⟨A, n, c, e, (ho.ext x8).mono fun b hb => .inl hb⟩); clear x8)
                generalize And' P7 w7.heap.size w8.heap.size = P8 at *
                have x9 := Ext.alloc w8 (.cells #[.slice A7 key.length c7] 28)
                have SL9 := hide ((Blk.new w8 28 #[.slice A7 key.length c7]).sl (n := 1) (size := 1) rfl)
                have HM9 := hide (HM8.out.ext x9)
                have RB9 := hide (RB8.out.mono (R' := RB (And' P8 w8.heap.size (w8.alloc (.cells #[.slice A7 key.length c7] 28)).heap.size)) (w' := w8.alloc (.cells #[.slice A7 key.length c7] 28)) fun cs r hx => by
                  obtain ⟨A, n, c, e, ho⟩ := hx
                  exact ⟨A, n, c, e, (ho.ext x9).mono fun b hb => .inl hb⟩)
                have E9 := hide x9
                obtain ⟨xs9, own9, els9⟩ := rows_cells HM9.out.own
                have OWN9 := hide own9; have ELS9 := hide els9; have HONE := hide RB9.out.one
                clear x9 own9 els9 RB8 RB7 HM7 O7 HM8
                go_upto_region 20 with (first
                  | (at_builtin; refine wpList_append_b rfl (.tmp 80) (.tmp 82) _ rfl _ 28 i0 _ 1 24 Tryz.underlying36 hi0 hz0 hz1 hz2 rfl (by omega) (.slice A1 no c1) no xs9 rfl OWN9.out _ 1 1 _ rfl SL9.out HONE.out (by unfold maxLen; omega) (by omega) ?_; intro A10 c10 w10 own10 G10 C10; have HM10 := hide (HM9.out.pushO OWN9.out ELS9.out RB9.out own10.out G10.out C10.out); have HB10 := hide (Blk.grown (HB8.out.ext E9.out) G10.out (own_ne_blk OWN9.out.own (HB8.out.ext E9.out) (by decide))); have x11 := Ext.alloc w10 (.cells #[.int .i64 0] 3); have SL11 := hide ((Blk.new w10 3 #[.int .i64 0]).sl (n := 1) (size := 1) rfl); have HM11 := hide (HM10.out.ext x11); have HB11 := hide (HB10.out.ext x11); have HONE2 := hide (show OneCells [Value.int .i64 0] from fun v hv => by simp at hv; rw [hv]; rfl); clear own10 G10 C10 x11 OWN9 ELS9 SL9 RB9 HM10 HM9 HB10 HB8 E9)
                  | (at_builtin; refine wpList_append_b rfl (.tmp 84) (.tmp 85) _ rfl _ 3 i1 _ 1 8 Tryz.underlying23 hi1 hy0 hy1 hy2 rfl (by omega) (.slice A2 no c2) no _ rfl HM11.out.cts _ 1 1 _ rfl SL11.out HONE2.out (by unfold maxLen; omega) (by omega) ?_; intro B2 b2 w12 own12 G12 C12))
                have HM8 := hide (HM11.out.pushC own12.out G12.out C12.out)
                have HB8 := hide (Blk.grown HB11.out G12.out (own_ne_blk HM11.out.cts.own HB11.out (by decide)))
                have hget : (own ++ [key])[no]? = some key := by
                  have := HM11.out.own.1
                  rw [List.length_append] at this
                  rw [List.getElem?_append_right (by simp at this; omega), show no - own.length = 0 by simp at this; omega]; rfl
                have HTI := hide (HTP.out.set hget HT2.out HT3.out)
                have HCT := hide (HTP.out.cnt no key hget)
                have hn2l : no + 1 ≤ i + 1 := by omega
                clear hget own12 G12 C12 HM11 HB11 HTP SL11 hno
              all_goals (
                have HCN := hide (show cntL a.now.ons a.now.cnt key ≤ 65536 from cntL_le HK2.out HNA.out key)
                obtain ⟨k, hk⟩ : ∃ k, cntL a.now.ons a.now.cnt key = k := ⟨_, rfl⟩
                rw [hk] at HCT HTI HCN
                simp only [if_false, Bool.false_eq_true] at HTI
                obtain ⟨g2, rfl, hg2, hcell, hfz, hput⟩ := HM8.out.put HCT.out
                have d0 := HB8.out.cell 0
                have HPUT := hide hput
                have hkb := HCN.out
                clear hk hput hg2 HM8 HT2 HT3 HT4 HFIT HNA HN1
                go_wp2_with fail
                refine ⟨⟨i + 1, _, _, _, _, _, _, _, _, _, _, by omega, by go_num, rfl, rfl, HPUT.out _, HTI, hn2l, hS.out.1, by have := hS.out.2; omega⟩, by simp [intOf]; omega⟩)
      · obtain rfl : i = l := by omega
        have HK := hide hM.out.np.ok; have HOK := hide hM.out.np.now
        have HOLN := hide hM.out.own.1
        have hown : no ≤ 1048576 := by omega
        go_wp2_with fail
        go_loopw [20, 21, 22, 105] (fun s20 _ _ s105 w' => ∃ (j N2 : Nat) (P2 : Nat → Prop), j ≤ no ∧ s105 = .int .i64 j ∧ s20 = .int .i64 (liveT a.now own j : Nat) ∧ Hid (TmI w1 n lv K a N2 P2 A1 no c1 own A2 no c2 cts w') ∧ Hid (N2 ≤ N + 3 * j)) (fun _ _ _ s105 _ => no - (intOf s105).toNat)
        case atStart => exact ⟨0, N, P, by omega, rfl, rfl, hM, hide (by omega)⟩
        case round =>
          clear hM
          obtain ⟨j, N2, P2, hjn, rfl, rfl, hM, hN2⟩ := hrel
          have hlm := liveT_le a.now own j
          by_cases hj : j < no
          · have hj2 : (j : Int) < (no : Int) := by omega
            obtain ⟨r, hrj⟩ : ∃ r, own[j]? = some r := ⟨_, List.getElem?_eq_getElem (by have := HOLN.out; omega)⟩
            have hrm := List.mem_of_getElem? hrj
            have hfit := hT.out.fit r hrm
            have hr30 := fit_len hfit HK.out.width
            obtain ⟨ob, off, A9, c9, rfl, k0, hap⟩ := hM.out.own.argP hrj (by omega) hfit.2.1 hfit.2.2
            have HARG := hide hap
            have hsay := trim_says HK2.out HOK.out r
            have HNX := hide (liveT_next (s := a.now) hrj)
            have hct := hT.out.cnt j r hrj
            have hle := cntL_le HK2.out HOK.out r
            obtain ⟨k, hk⟩ : ∃ k, cntL a.now.ons a.now.cnt r = k := ⟨_, rfl⟩
            rw [hk] at hsay HNX hct hle
            have HSAY := hide hsay; have HCT := hide hct
            obtain ⟨rl, hrl⟩ : ∃ rl, r.length = rl := ⟨_, rfl⟩
            rw [hrl] at k0 HARG
            obtain ⟨g2, rfl, -, -, -, -⟩ := hM.out.cts.at_ (by omega)
            clear hk hsay hct hrl hap hrm hfit hrj hr30
            go_upto_region 28 with fail
            have HST := hide (show ∀ w' N' Q, TmI w1 n lv K a N' Q (some ⟨ob, off, none⟩) no c1 own (some ⟨g2, 0, none⟩) no c2 cts w' → w'.cell? ⟨g2, j, none⟩ = some (.int .i64 k) ∧ w'.cell? ⟨n, 0, none⟩ = some (ptr lv) from fun w' N' Q h => ⟨by
              obtain ⟨g9, e9, -, -, hc, -⟩ := h.cts.at_ (by omega)
              injection e9 with e9
              injection e9 with e9
              subst e9
              exact hc j _ (by rw [List.getElem?_map, HCT.out]; rfl), h.np.cell0⟩)
            have hk0 : ¬ (k : Int) < 0 := by omega
            clear k0
            by_cases hkp : 0 < k
            case' pos =>
              have hk1 : (0 : Int) < (k : Int) := by omega
              have HLV := hide (show inB a.now.live r = true from HSAY.out.2.trans (decide_eq_true hk1))
            case' neg =>
              have hk1 : ¬ (0 : Int) < (k : Int) := by omega
              have HLV := hide (show inB a.now.live r = false from HSAY.out.2.trans (decide_eq_false hk1))
            all_goals (
              refine wp_region_ord [(0, true), (1, true), (2, true), (3, true), (4, true), (5, true), (6, true), (7, true), (10, true), (11, true), (12, true), (13, true), (8, false), (9, false), (14, true), (15, true), (16, true), (17, true), (18, true), (19, true), (20, true), (21, true), (24, true), (25, true), (26, true), (27, true), (28, true), (22, false), (23, false), (29, true), (30, true)] (fun w' => w'.cell? ⟨g2, j, none⟩ = some (.int .i64 k) ∧ w'.cell? ⟨n, 0, none⟩ = some (ptr lv)) (by kernel_rfl) (by kernel_rfl) (fun _ _ _ _ _ h => h) ?_ ?_
              · exact fun w' hw' => HST.out _ _ _ (hM.out.ext hw')
              intro wq hwq
              have HMQ := hide (hM.out.ext hwq)
              have HAQ := hide (HARG.out.ext hwq (Q := And' P2 wr.heap.size wq.heap.size) fun b hb => .inl hb)
              have HCP := hide (copy_argP (c := c9) HAQ.out.1)
              clear hwq hM HARG
              unfold wpO
              refine ⟨_, rfl, ?_⟩
              apply Exists.intro
              refine ⟨.inl ⟨by rfl, fun w9 h9 => ?_⟩, fun K hK => ?_⟩
              · go_simp; first | done | rfl
              go_simp; refine hK _ ?_; clear hK K
              unfold wpO
              refine ⟨_, rfl, ?_⟩
              apply Exists.intro
              refine ⟨.inl ⟨by rfl, fun w9 h9 => ?_⟩, fun K hK => ?_⟩
              · go_simp; first | done | rfl
              go_simp; refine hK _ ?_; clear hK K
              unfold wpO
              refine ⟨_, rfl, ?_⟩
              apply Exists.intro
              refine ⟨.inl ⟨by rfl, fun w9 h9 => ?_⟩, fun K hK => ?_⟩
              · go_simp; first | done | rfl
              go_simp; refine hK _ ?_; clear hK K
              unfold wpO
              refine ⟨_, rfl, ?_⟩
              apply Exists.intro
              refine ⟨.inl ⟨by rfl, fun w9 h9 => ?_⟩, fun K hK => ?_⟩
              · go_simp; first | done | rfl
              go_simp; refine hK _ ?_; clear hK K
              unfold wpO
              refine ⟨_, rfl, ?_⟩
              apply Exists.intro
              refine ⟨.inl ⟨by rfl, fun w9 h9 => ?_⟩, fun K hK => ?_⟩
              · go_simp; first | done | rfl
              go_simp; refine hK _ ?_; clear hK K
              unfold wpO
              refine ⟨_, rfl, ?_⟩
              apply Exists.intro
              refine ⟨.inl ⟨by rfl, fun w9 h9 => ?_⟩, fun K hK => ?_⟩
              · go_simp; first | done | rfl
              go_simp; refine hK _ ?_; clear hK K
              unfold wpO
              refine ⟨_, rfl, ?_⟩
              apply Exists.intro
              refine ⟨.inl ⟨by rfl, fun w9 h9 => ?_⟩, fun K hK => ?_⟩
              · go_simp; first | done | rfl
              go_simp; refine hK _ ?_; clear hK K
              unfold wpO
              refine ⟨_, rfl, ?_⟩
              apply Exists.intro
              refine ⟨.inl ⟨by rfl, fun w9 h9 => ?_⟩, fun K hK => ?_⟩
              · go_simp; first | done | rfl
              go_simp; refine hK _ ?_; clear hK K
              unfold wpO
              refine ⟨_, rfl, ?_⟩
              apply Exists.intro
              refine ⟨.inl ⟨by rfl, fun w9 h9 => ?_⟩, fun K hK => ?_⟩
              · go_simp; first | done | rfl
              go_simp; refine hK _ ?_; clear hK K
              unfold wpO
              refine ⟨_, rfl, ?_⟩
              apply Exists.intro
              refine ⟨.inl ⟨by rfl, fun w9 h9 => ?_⟩, fun K hK => ?_⟩
              · go_simp; first | done | rfl
              go_simp; refine hK _ ?_; clear hK K
              unfold wpO
              refine ⟨_, rfl, ?_⟩
              apply Exists.intro
              refine ⟨.inl ⟨by rfl, fun w9 h9 => ?_⟩, fun K hK => ?_⟩
              · go_simp; first | done | rfl
              go_simp; refine hK _ ?_; clear hK K
              unfold wpO
              refine ⟨_, rfl, ?_⟩
              apply Exists.intro
              refine ⟨.inl ⟨by rfl, fun w9 h9 => ?_⟩, fun K hK => ?_⟩
              · go_simp; first | done | rfl
              go_simp; refine hK _ ?_; clear hK K
              unfold wpO
              refine ⟨_, rfl, ?_⟩
              go_wp2_with ((with_reducible refine HCP.out.mono ?_); rintro e w8 ⟨A8, c8, rfl, ha8, hb8, x8⟩; have HM8 := hide (HMQ.out.ext x8); have HA8 := hide ha8; have HB8 := hide hb8; have HAR8 := hide (HAQ.out.ext x8 (Q := And' (And' P2 wr.heap.size wq.heap.size) wq.heap.size w8.heap.size) fun b hb => .inl hb); clear ha8 hb8 x8)
              simp only [exL]
              refine ⟨HST.out _ _ _ HM8.out, ?_⟩
              have hsp := HM8.out.np.support (by have := hS.out.2; have := hN2.out; omega) c8 HA8.out fun x hx => .inr (HB8.out x hx)
              rw [HSAY.out.1] at hsp
              have HSP := hide hsp
              clear hsp HCP HMQ HA8 HB8 HAQ
              unfold wpO
              refine ⟨_, rfl, ?_⟩
              go_wp2_with ((with_reducible refine HSP.out.mono ?_); rintro e w9 ⟨rfl, h9, k9⟩; have HM9 := hide (HM8.out.turn h9 k9 (fun _ h => h) fun b hb => .inl hb); have HAR9 := hide (HAR8.out.keep k9 fun _ h => h); clear h9 k9)
              simp only [exL]
              refine ⟨HST.out _ _ _ HM9.out, ?_⟩
              have HCP := hide (copy_argP (c := c9) HAR9.out.1)
              clear HM8 HSP HAR8
              unfold wpO
              refine ⟨_, rfl, ?_⟩
              apply Exists.intro
              refine ⟨.inl ⟨by rfl, fun w9 h9 => ?_⟩, fun K hK => ?_⟩
              · go_simp; first | done | rfl
              go_simp; refine hK _ ?_; clear hK K
              unfold wpO
              refine ⟨_, rfl, ?_⟩
              apply Exists.intro
              refine ⟨.inl ⟨by rfl, fun w9 h9 => ?_⟩, fun K hK => ?_⟩
              · go_simp; first | done | rfl
              go_simp; refine hK _ ?_; clear hK K
              unfold wpO
              refine ⟨_, rfl, ?_⟩
              apply Exists.intro
              refine ⟨.inl ⟨by rfl, fun w9 h9 => ?_⟩, fun K hK => ?_⟩
              · go_simp; first | done | rfl
              go_simp; refine hK _ ?_; clear hK K
              unfold wpO
              refine ⟨_, rfl, ?_⟩
              apply Exists.intro
              refine ⟨.inl ⟨by rfl, fun w9 h9 => ?_⟩, fun K hK => ?_⟩
              · go_simp; first | done | rfl
              go_simp; refine hK _ ?_; clear hK K
              unfold wpO
              refine ⟨_, rfl, ?_⟩
              apply Exists.intro
              refine ⟨.inl ⟨by rfl, fun w9 h9 => ?_⟩, fun K hK => ?_⟩
              · go_simp; first | done | rfl
              go_simp; refine hK _ ?_; clear hK K
              unfold wpO
              refine ⟨_, rfl, ?_⟩
              apply Exists.intro
              refine ⟨.inl ⟨by rfl, fun w9 h9 => ?_⟩, fun K hK => ?_⟩
              · go_simp; first | done | rfl
              go_simp; refine hK _ ?_; clear hK K
              unfold wpO
              refine ⟨_, rfl, ?_⟩
              apply Exists.intro
              refine ⟨.inl ⟨by rfl, fun w9 h9 => ?_⟩, fun K hK => ?_⟩
              · go_simp; first | done | rfl
              go_simp; refine hK _ ?_; clear hK K
              unfold wpO
              refine ⟨_, rfl, ?_⟩
              apply Exists.intro
              refine ⟨.inl ⟨by rfl, fun w9 h9 => ?_⟩, fun K hK => ?_⟩
              · go_simp; first | done | rfl
              go_simp; refine hK _ ?_; clear hK K
              unfold wpO
              refine ⟨_, rfl, ?_⟩
              apply Exists.intro
              refine ⟨.inl ⟨by rfl, fun w9 h9 => ?_⟩, fun K hK => ?_⟩
              · go_simp; first | done | rfl
              go_simp; refine hK _ ?_; clear hK K
              unfold wpO
              refine ⟨_, rfl, ?_⟩
              apply Exists.intro
              refine ⟨.inl ⟨by rfl, fun w9 h9 => ?_⟩, fun K hK => ?_⟩
              · go_simp; first | done | rfl
              go_simp; refine hK _ ?_; clear hK K
              unfold wpO
              refine ⟨_, rfl, ?_⟩
              apply Exists.intro
              refine ⟨.inl ⟨by rfl, fun w9 h9 => ?_⟩, fun K hK => ?_⟩
              · go_simp; first | done | rfl
              go_simp; refine hK _ ?_; clear hK K
              unfold wpO
              refine ⟨_, rfl, ?_⟩
              apply Exists.intro
              refine ⟨.inl ⟨by rfl, fun w9 h9 => ?_⟩, fun K hK => ?_⟩
              · go_simp; first | done | rfl
              go_simp; refine hK _ ?_; clear hK K
              unfold wpO
              refine ⟨_, rfl, ?_⟩
              apply Exists.intro
              refine ⟨.inl ⟨by rfl, fun w9 h9 => ?_⟩, fun K hK => ?_⟩
              · go_simp; first | done | rfl
              go_simp; refine hK _ ?_; clear hK K
              unfold wpO
              refine ⟨_, rfl, ?_⟩
              go_wp2_with ((with_reducible refine HCP.out.mono ?_); rintro e w10 ⟨A10, c10, rfl, ha10, hb10, x10⟩; have HM10 := hide (HM9.out.ext x10); have HA10 := hide ha10; clear ha10 hb10 x10)
              simp only [exL]
              refine ⟨HST.out _ _ _ HM10.out, ?_⟩
              have hhs := HM10.out.np.has (by have := hS.out.2; have := hN2.out; omega) c10 HA10.out
              rw [HLV.out] at hhs
              have HHS := hide hhs
              clear hhs HCP HM9 HAR9 HA10
              unfold wpO
              refine ⟨_, rfl, ?_⟩
              go_wp2_with ((with_reducible refine HHS.out.mono ?_); rintro e w11 ⟨rfl, h11, k11⟩; have HM11 := hide (HM10.out.turn h11 k11 (fun _ h => h) fun b hb => .inl hb); clear h11 k11)
              simp only [exL]
              refine ⟨HST.out _ _ _ HM11.out, ?_⟩
              unfold wpO
              refine ⟨_, rfl, ?_⟩
              apply Exists.intro
              refine ⟨.inl ⟨by rfl, fun w9 h9 => ?_⟩, fun K hK => ?_⟩
              · go_simp; first | done | rfl
              go_simp; refine hK _ ?_; clear hK K
              unfold wpO
              refine ⟨_, rfl, ?_⟩
              apply Exists.intro
              refine ⟨.inl ⟨by rfl, fun w9 h9 => ?_⟩, fun K hK => ?_⟩
              · go_simp; first | done | rfl
              go_simp; refine hK _ ?_; clear hK K
              unfold wpO
              have f0 := (HST.out _ _ _ HM11.out).1
              have hnx := HNX.out
              first | rw [if_pos hk1] at hnx | rw [if_neg (by omega), Nat.add_zero] at hnx
              clear HM10 HHS
              go_wp2_with fail
              first
                | refine ⟨⟨j + 1, _, _, by omega, by go_num, by rw [hnx] <;> go_num, HM11, hide (by have := hN2.out; omega)⟩, by simp [intOf]; omega⟩
                | (go_roundw
                   case rel => exact ⟨j + 1, _, _, by omega, by go_num, by rw [hnx] <;> go_num, HM11, hide (by have := hN2.out; omega)⟩
                   case measure => simp [intOf]; omega))
          · obtain rfl : j = no := by omega
            have hall : liveT a.now own j = a.now.live.length := by rw [HOLN.out]; exact liveT_all HK2.out HOK.out hT.out
            rw [hall]
            have c0 := hM.out.np.cell0
            have HRW := hide hM.out.np.rows
            have hlv := HOK.out.liveLen HK.out
            obtain ⟨lvl, hlvl⟩ : ∃ lvl, a.now.live.length = lvl := ⟨_, rfl⟩
            rw [hlvl] at HRW ⊢
            have HLVL := hide hlvl
            clear hall hlv hlvl
            go_wp2_with ((with_reducible refine HRW.out.mono ?_); rintro e w5 ⟨A5, c5, M5, rfl, -, h5, -, -⟩; have N5 := hide h5; clear h5)
            have hst := N5.out.stored
            rw [stored_ne3 (by have := HK2.out; omega), HLVL.out] at hst
            have HST := hide hst
            clear hst HRW
            refine HST.out.mono ?_
            rintro e w6 ⟨rfl, x6⟩
            have X6 := hide (N5.out.ext0.trans x6)
            clear x6 HST
            go_wp2_with fail
            refine (awake_nd _).mono ?_
            rintro e w7 ⟨rfl, x7⟩
            have X7 := hide (X6.out.trans x7)
            clear x7
            go_wp2_with fail
            go_ret
            exact ⟨rfl, HE.out.trans X7.out⟩
end Go.Proofs.YtahdiiaadjdmcaaGreat
