/-
  NodeTurns: the law's walk.
-/
import Derived.Test.YtahdiiaadjdmcaaGreatNgL
namespace Go.Proofs.YtahdiiaadjdmcaaGreat
open Go.RowKit

theorem Told.grownI {w w' : World} {P Q : Nat → Prop} {A : Option Addr} {n c : Nat} {rows : List (List V)} (h : Told w P A n c rows) {base : Nat} {v2 : Value} {n2 : Nat} {xs2 : List Value} (h2 : w.ownsRow base 3 1 v2 n2 xs2) (hg : w.grownBy w' v2.ownBlock) (hq : ∀ b, P b → Q b) : Told w' Q A n c rows := by
  obtain ⟨h1, cells, h3, h4⟩ := h
  refine ⟨h1, cells, (h3.grown h2 (by decide) hg).mono hq, h4.mono fun cs r hx => ?_⟩
  obtain ⟨A, n, c, e, ho⟩ := hx
  exact ⟨A, n, c, e, (ho.grown h2 (by decide) hg).mono hq⟩
/-- what the law holds: the node, the rows that were, the supports -/
structure TuI (w0 : World) (n l : Nat) (K : NK) (a : NAbs) (N : Nat) (P : Nat → Prop) (Aw : Option Addr) (nw cw : Nat) (R : List (List V)) (A : Option Addr) (m c : Nat) (xs : List Int) (w : World) : Prop where
  np : NP w0 w n l K a N P
  was : Told w P Aw nw cw R
  sup : OwnH w P 3 1 m (.slice A m c) (xs.map (Value.int .i64))
  new : ∀ b, P b → w0.heap.size ≤ b
section
variable {w0 w w' : World} {n l : Nat} {K : NK} {a : NAbs} {N : Nat} {P Q : Nat → Prop} {Aw : Option Addr} {nw cw : Nat} {R : List (List V)} {A : Option Addr} {m c : Nat} {xs : List Int}
theorem TuI.ext (h : TuI w0 n l K a N P Aw nw cw R A m c xs w) (hw : Ext w w') : TuI w0 n l K a N (And' P w.heap.size w'.heap.size) Aw nw cw R A m c xs w' :=
  ⟨h.np.ext hw, h.was.ext hw fun b hb => .inl hb, (h.sup.ext hw).mono fun b hb => .inl hb, fun b hb => hb.elim (h.new b) fun h1 => by have := h.np.size0; omega⟩
theorem TuI.step (h : TuI w0 n l K a N P Aw nw cw R A m c xs w) {l' : Nat} {a' : NAbs} {N' : Nat} (hn : NP w0 w' n l' K a' N' Q) (hk : Keeps P w w') (hq : ∀ b, P b → Q b) (hq2 : ∀ b, Q b → P b ∨ w.heap.size ≤ b) : TuI w0 n l' K a' N' Q Aw nw cw R A m c xs w' :=
  ⟨hn, h.was.keep hk hq, (h.sup.chg hk fun _ hb hn => hn hb).mono hq, fun b hb => (hq2 b hb).elim (h.new b) fun h1 => by have := h.np.size0; omega⟩
theorem TuI.push (h : TuI w0 n l K a N P Aw nw cw R A m c xs w) {A' : Option Addr} {c' : Nat} {x : Int} (o : OwnH w' (fun b => P b ∨ b = w.heap.size) 3 1 (m + 1) (.slice A' (m + 1) c') (xs.map (Value.int .i64) ++ [.int .i64 x])) (G : w.grownBy w' (Value.slice A m c).ownBlock) (C : Chg P w w') : TuI w0 n l K a N (And' P w.heap.size w'.heap.size) Aw nw cw R A' (m + 1) c' (xs ++ [x]) w' :=
  ⟨h.np.chgP C (fun _ hb => hb) h.new, h.was.grownI h.sup.own G fun b hb => .inl hb, by
    rw [List.map_append]
    exact ⟨o.own, fun g hg => (o.inB g hg).imp id fun e => ⟨by omega, o.lt g hg⟩⟩, fun b hb => hb.elim (h.new b) fun h1 => by have := h.np.size0; omega⟩
end
def supsN (K : NK) (s : NSt) (ops : List OpS) (i : Nat) : List Int := (ops.take i).map fun o => (supN K s o.row : Int)
theorem sups_next {K : NK} {s : NSt} {ops : List OpS} {i : Nat} {o : OpS} (h : ops[i]? = some o) : supsN K s ops i ++ [(supN K s o.row : Int)] = supsN K s ops (i + 1) := by
  unfold supsN
  rw [List.take_add_one, h]
  simp
theorem sups_at {K : NK} {s : NSt} {ops : List OpS} {i : Nat} {o : OpS} (h : ops[i]? = some o) : ((supsN K s ops ops.length).map (Value.int .i64))[i]? = some (.int .i64 (supN K s o.row)) := by
  unfold supsN
  rw [List.take_length]
  simp [h]
set_option maxRecDepth 100000 in
set_option maxHeartbeats 4000000 in
theorem law_turns (s : SP) (L : SPL) (fi : List OpS) (Af : Option Addr) (lf cf : Nat) (ops : List OpS) (Ao : Option Addr) (l co : Nat) (w : World) (hs : SpecAt w s L) (hf : LAt ROp 3 w Af lf fi) (_hlf : lf ≤ cf) (hfl : lf ≤ 1048576) (hfr : ∀ o ∈ fi, o.row.length ≤ 1048576 ∧ smallR o.row) (hfw : ∀ o ∈ fi, wfR o.row) (ho : LAt ROp 3 w Ao l ops) (_hlc : l ≤ co) (hl : l ≤ 1048576) (hor : ∀ o ∈ ops, o.row.length ≤ 1048576 ∧ smallR o.row) (howf : ∀ o ∈ ops, wfR o.row) :
    Calls Tryz.prog 7 #[.agg (specC s L), .slice Af lf cf, .slice Ao l co] w fun e w' => e = .returned (.bool true) ∧ Ext w w' := by
  obtain ⟨g, hg⟩ : ∃ g, w.heap.size = g := ⟨_, rfl⟩
  obtain ⟨w1, hw1⟩ : ∃ w1, w.alloc (.cells (specC s L) 25) = w1 := ⟨_, rfl⟩
  have hb := Blk.new w 25 (specC s L)
  have he := Ext.alloc w (.cells (specC s L) 25)
  rw [hw1] at hb he
  rw [hg] at hb
  have HE := hide he
  have HMD := hide (made_any (hs.ext he))
  have HF := hide (hf.ext ROp.stab he); have HFR := hide hfr; have HFW := hide hfw
  have HO := hide (ho.ext ROp.stab he); have HOR := hide hor; have HOW := hide howf
  have b0 : w1.cell? ⟨g, 0, none⟩ = some (.int .i64 s.kind) := hb.cell 0
  have b1 : w1.cell? ⟨g, 1, none⟩ = some (.int .i64 s.inn) := hb.cell 1
  have b2 : w1.cell? ⟨g, 2, none⟩ = some (.slice L.kA s.keep.length L.kC) := hb.cell 2
  have b3 : w1.cell? ⟨g, 3, none⟩ = some (.slice L.sA s.side.length L.sC) := hb.cell 3
  have b4 : w1.cell? ⟨g, 4, none⟩ = some (.slice L.uA s.up.length L.uC) := hb.cell 4
  have b5 : w1.cell? ⟨g, 5, none⟩ = some (.int .i64 s.most) := hb.cell 5
  clear hs ho hor howf hb he hf hfr hfw
  unfold specC at *
  go_enter Tryz.func7, Tryz.ntmps7
  go_upto_region 1 with fail
  clear hw1 hg
  go_wp2_with fail
  refine HMD.out.mono ?_
  rintro e w2 h2
  clear b0 b1 b2 b3 b4 b5 HMD
  rcases h2.np with ⟨-, rfl, x2⟩ | ⟨-, n, d, lv, b, rfl, h2, -, -⟩
  · have X2 := hide x2
    clear x2
    go_wp2_with fail
    refine (awake_nd _).mono ?_
    rintro e w3 ⟨rfl, x3⟩
    have X3 := hide x3
    clear x3
    go_wp2_with fail
    go_ret
    exact ⟨rfl, HE.out.trans (X2.out.trans X3.out)⟩
  · have N2 := hide (h2.mono (Q := fun _ => False) fun b hb => hb.elim)
    clear h2
    go_wp2_with fail
    go_loopw [11, 39] (fun _ s39 w' => ∃ (i : Nat) (a : NAbs) (N : Nat), i ≤ lf ∧ s39 = .int .i64 i ∧ Hid (NP w1 w' n lv (nkOf s) a N (fun _ => False)) ∧ Hid (a.old = none ∧ N ≤ 262144 + 1048576 * i)) (fun _ s39 _ => lf - (intOf s39).toNat)
    case atStart => exact ⟨0, _, _, by omega, rfl, N2, rfl, by omega⟩
    case round =>
      clear N2
      obtain ⟨i, a, N, hil, rfl, hP, hS⟩ := hrel
      by_cases hi : i < lf
      · have hi2 : (i : Int) < (lf : Int) := by omega
        obtain ⟨ob, off, oo, A9, c9, rfl, hoi, hobl, k0, k1, k2, hrow⟩ := HF.out.op hi
        have hom := List.mem_of_getElem? hoi
        have HARG := hide (show ArgR w1 A9 oo.row.length oo.row from ⟨hrow, (HFR.out oo hom).1, (HFR.out oo hom).2, HFW.out oo hom⟩)
        have k0 := hP.out.ext0.cell k0; have k1 := hP.out.ext0.cell k1; have k2 := hP.out.ext0.cell k2
        obtain ⟨kd, hkd⟩ : ∃ kd, oo.kind = kd := ⟨_, rfl⟩
        obtain ⟨fr, hfr⟩ : ∃ fr, oo.k = fr := ⟨_, rfl⟩
        obtain ⟨rw_, hrw⟩ : ∃ rw_, oo.row = rw_ := ⟨_, rfl⟩
        obtain ⟨m9, hm9⟩ : ∃ m9, rw_.length = m9 := ⟨_, rfl⟩
        rw [hkd] at k0
        rw [hfr] at k1
        rw [hrw, hm9] at k2 HARG
        have EA := hide (Ext.alloc wr (.cells #[.int .i64 kd, .int .i64 fr, .slice A9 m9 c9] 30))
        have HTN := hide (turn_any (hP.out.ext EA.out) (by have := hS.out.2; omega) kd fr c9 HARG.out)
        clear hom hrow hoi hkd hfr hrw hm9 hobl
        by_cases hk1 : kd = 1
        · subst hk1
          go_wp2_with ((with_reducible refine HTN.out.mono ?_); rintro e w5 ⟨y, Q, rfl, h5, -⟩; have N5 := hide h5; clear h5)
          go_roundw
          case rel => exact ⟨i + 1, _, _, by omega, by go_num, N5.out.mono fun b hb => hb.elim, hS.out.1, by have := hS.out.2; omega⟩
          case measure => simp [intOf]; omega
        · by_cases hk2 : kd = 2
          · subst hk2
            go_wp2_with ((with_reducible refine HTN.out.mono ?_); rintro e w5 ⟨y, Q, rfl, h5, -⟩; have N5 := hide h5; clear h5)
            go_roundw
            case rel => exact ⟨i + 1, _, _, by omega, by go_num, N5.out.mono fun b hb => hb.elim, hS.out.1, by have := hS.out.2; omega⟩
            case measure => simp [intOf]; omega
          · have hb1 : (kd == 1) = false := by simpa using hk1
            have hb2 : (kd == 2) = false := by simpa using hk2
            have N5 := hide (hP.out.ext EA.out)
            clear HTN
            go_wp2_with fail
            go_roundw
            case rel => exact ⟨i + 1, _, _, by omega, by go_num, N5.out.mono fun b hb => hb.elim, hS.out.1, by have := hS.out.2; omega⟩
            case measure => simp [intOf]; omega
      · obtain rfl : i = lf := by omega
        have c0 := hP.out.cell0
        have HRW := hide hP.out.rows
        obtain ⟨R, hR⟩ : ∃ R, a.now.live = R := ⟨_, rfl⟩
        obtain ⟨len, hlen⟩ : ∃ len, R.length = len := ⟨_, rfl⟩
        rw [hR, hlen] at HRW
        have hk := hP.out.ok; have hok := hP.out.now
        have HRR := hide (show len ≤ 65536 ∧ ∀ r ∈ R, r.length ≤ 30 from by
          have h1 := hok.liveLen hk; have h2 := hok.liveSmall hk
          rw [hR] at h1 h2
          exact ⟨by omega, h2⟩)
        obtain ⟨st, hST⟩ : ∃ st, storedN (nkOf s) a.now = st := ⟨_, rfl⟩
        have HSE := hide hST
        have HRE := hide hR; have HLE := hide hlen
        have HZ0 := hide hP.out.size0
        clear hR hlen hk hok hST
        go_upto_region 11 with (first
          | ((with_reducible refine HRW.out.mono ?_); rintro e w3 ⟨A3, c3, M3, rfl, hm3, h3, -, q3⟩; have N3 := hide h3; have Q3 := hide q3; have T3 := hide (show LAt RRow 1 w3 A3 len R from (MineA.toldA hm3 (P := fun _ => True) fun _ _ _ => trivial).lat); have HCA := hide (copy_all R A3 len c3 w3 T3.out (by have := HRR.out.1; omega) (fun r hr => by have := HRR.out.2 r hr; omega)); clear hm3 h3 q3)
          | ((with_reducible refine (HCA.out.mono fun e w' hh => told_retrows hh).mono ?_); rintro e w4 ⟨A4, c4, he4, x4, q4⟩; rw [HLE.out] at he4 q4; subst he4; have N4 := hide (N3.out.ext x4); have T4 := hide (q4 (And' (And' (fun _ => False) M3 w3.heap.size) w3.heap.size w4.heap.size) fun b h1 h2 => .inr ⟨h1, h2⟩); clear x4 q4; have HST := hide N4.out.stored; rw [HSE.out] at HST)
          | ((with_reducible refine HST.out.mono ?_); rintro e w5 ⟨rfl, x5⟩; have X5 := hide x5; clear x5))
        have HT5 := hide (show TuI w1 n lv (nkOf s) a (N + 1) (And' (And' (And' (fun _ => False) M3 w3.heap.size) w3.heap.size w4.heap.size) w4.heap.size w5.heap.size) A4 len c4 R none 0 0 [] w5 from
          TuI.ext ⟨N4.out, T4.out, OwnH.nil _ _ _ _, fun b hb => by
            have h1 := HZ0.out; have h2 := Q3.out; have h3 := N3.out.size0
            rcases hb with (hb | hb) | hb
            · exact hb.elim
            · omega
            · omega⟩ X5.out)
        clear HRW HCA N3 T3 N4 T4 HST X5 c0 Q3
        generalize And' (And' (And' (fun _ => False) M3 w3.heap.size) w3.heap.size w4.heap.size) w4.heap.size w5.heap.size = P5 at *
        have HL1 := hide hl
        go_wp2_with fail
        go_loopw [14, 16, 65] (fun s14 _ s65 w' => ∃ (i N2 c : Nat) (A : Option Addr) (P : Nat → Prop), i ≤ l ∧ s65 = .int .i64 i ∧ s14 = .slice A i c ∧ Hid (TuI w1 n lv (nkOf s) a N2 P A4 len c4 R A i c (supsN (nkOf s) a.now ops i) w') ∧ Hid (N2 ≤ N + 1 + 2 * i)) (fun _ _ s65 _ => l - (intOf s65).toNat)
        case atStart => exact ⟨0, N + 1, 0, none, P5, by omega, rfl, rfl, HT5, hide (by omega)⟩
        case round =>
          clear HT5
          obtain ⟨j, N2, cs, As, P2, hjl, rfl, rfl, hT, hN2⟩ := hrel
          by_cases hj : j < l
          · have hj2 : (j : Int) < (l : Int) := by omega
            obtain ⟨ob, off, oo, A9, c9, rfl, hoi, hobl, k0, k1, k2, hrow⟩ := HO.out.op hj
            have hom := List.mem_of_getElem? hoi
            have k0 := hT.out.np.ext0.cell k0; have k1 := hT.out.np.ext0.cell k1; have k2 := hT.out.np.ext0.cell k2
            have HNX := hide (sups_next (K := nkOf s) (s := a.now) hoi)
            have EA := hide (Ext.alloc wr (.cells #[.int .i64 oo.kind, .int .i64 oo.k, .slice A9 oo.row.length c9] 30))
            have HARG := hide (show ArgR w1 A9 oo.row.length oo.row from ⟨hrow, (HOR.out oo hom).1, (HOR.out oo hom).2, HOW.out oo hom⟩)
            have HTA := hide (hT.out.ext EA.out)
            have HCP := hide (copy_argP (c := c9) (HARG.out.ext HTA.out.np.ext0))
            obtain ⟨i0, hi0, hz0, hz1, hz2⟩ := info_parts infoI
            clear hom hrow hoi hobl
            go_upto_region 15 with fail
            have bx2 : (wr.alloc (.cells #[.int .i64 oo.kind, .int .i64 oo.k, .slice A9 oo.row.length c9] 30)).cell? ⟨wr.heap.size, 2, none⟩ = some (.slice A9 oo.row.length c9) := (Blk.new wr 30 #[.int .i64 oo.kind, .int .i64 oo.k, .slice A9 oo.row.length c9]).cell 2
            generalize wr.alloc (.cells #[.int .i64 oo.kind, .int .i64 oo.k, .slice A9 oo.row.length c9] 30) = wA at *
            generalize And' P2 wr.heap.size wA.heap.size = PA at *
            go_wp2_with fail
            refine HCP.out.mono ?_
            rintro e w6 ⟨A6, c6, rfl, ha6, hb6, x6⟩
            have HA6 := hide ha6; have HB6 := hide hb6; have HT6 := hide (HTA.out.ext x6)
            clear ha6 hb6 x6
            have HSP := hide (HT6.out.np.support (by have := hN2.out; have := hS.out.2; omega) c6 HA6.out fun x hx => .inr (HB6.out x hx))
            clear HTA HCP hT
            generalize And' PA wA.heap.size w6.heap.size = P6 at *
            obtain ⟨sv, hsv⟩ : ∃ sv, supN (nkOf s) a.now oo.row = sv := ⟨_, rfl⟩
            rw [hsv] at HSP HNX
            clear hsv
            go_wp2_with fail
            refine HSP.out.mono ?_
            rintro e w7 ⟨rfl, h7, k7⟩
            have HT7 := hide (HT6.out.step h7 k7 (fun _ h => h) fun b hb => .inl hb)
            have x8 := Ext.alloc w7 (.cells #[.int .i64 sv] 3)
            have hs8 := (Blk.new w7 3 #[.int .i64 sv]).sl (n := 1) (size := 1) rfl
            have HT8 := hide (HT7.out.ext x8)
            have HS8 := hide hs8
            have HONE := hide (show OneCells [Value.int .i64 sv] from fun v hv => by simp at hv; rw [hv]; rfl)
            clear h7 k7 x8 hs8 HT6 HT7 HSP
            go_wp2_with (at_builtin; refine wpList_append_b rfl (.tmp 69) (.tmp 75) _ rfl _ 3 i0 _ 1 8 Tryz.underlying23 hi0 hz0 hz1 hz2 rfl (by omega) (.slice As j cs) j _ rfl HT8.out.sup _ 1 1 _ rfl HS8.out HONE.out (by have := HL1.out; unfold maxLen; omega) (by have := HL1.out; omega) ?_; intro A11 c11 w11 own11 G11 C11)
            have HT11 := hide (HT8.out.push own11.out G11.out C11.out)
            rw [HNX.out] at HT11
            clear own11 G11 C11 HS8 HT8 HNX
            go_wp2_with fail
            go_roundw
            case rel => exact ⟨j + 1, N2 + 2, c11, A11, _, by omega, by go_num, rfl, HT11, hide (by have := hN2.out; omega)⟩
            case measure => simp [intOf]; omega
          · obtain rfl : j = l := by omega
            obtain ⟨xs, hxs⟩ : ∃ xs, supsN (nkOf s) a.now ops j = xs := ⟨_, rfl⟩
            rw [hxs] at hT
            have HXS := hide hxs
            clear hxs
            have hbg := hT.out.np.begin
            have hb0 : beginN a = (⟨a.now, some a.now⟩, 0) := by unfold beginN; rw [hS.out.1]
            rw [hb0] at hbg
            have HBG := hide hbg
            clear hbg hb0
            go_wp2_with fail
            refine HBG.out.mono ?_
            rintro e w6 ⟨rfl, lv2, h6, k6⟩
            have HT6 := hide (hT.out.step h6 k6 (fun _ h => h) fun b hb => .inl hb)
            clear h6 k6 HBG hT
            go_wp2_with fail
            go_loopw [18, 83] (fun _ s83 w' => ∃ (i N3 : Nat) (a' : NAbs) (P : Nat → Prop), i ≤ j ∧ s83 = .int .i64 i ∧ Hid (TuI w1 n lv2 (nkOf s) a' N3 P A4 len c4 R As j cs xs w') ∧ Hid (a'.old = some a.now ∧ N3 ≤ N2 + 3 + 1048576 * i)) (fun _ s83 _ => j - (intOf s83).toNat)
            case atStart => exact ⟨0, N2 + 3, _, P2, by omega, rfl, HT6, rfl, by omega⟩
            case round =>
              clear HT6
              obtain ⟨q, N3, a', P3, hqj, rfl, hT3, hS3⟩ := hrel
              by_cases hq : q < j
              · have hq2 : (q : Int) < (j : Int) := by omega
                obtain ⟨ob, off, oo, A9, c9, rfl, hoi, hobl, k0, k1, k2, hrow⟩ := HO.out.op hq
                have hom := List.mem_of_getElem? hoi
                have HARG := hide (show ArgR w1 A9 oo.row.length oo.row from ⟨hrow, (HOR.out oo hom).1, (HOR.out oo hom).2, HOW.out oo hom⟩)
                have k0 := hT3.out.np.ext0.cell k0; have k1 := hT3.out.np.ext0.cell k1; have k2 := hT3.out.np.ext0.cell k2
                obtain ⟨kd, hkd⟩ : ∃ kd, oo.kind = kd := ⟨_, rfl⟩
                obtain ⟨fr, hfr⟩ : ∃ fr, oo.k = fr := ⟨_, rfl⟩
                obtain ⟨rw_, hrw⟩ : ∃ rw_, oo.row = rw_ := ⟨_, rfl⟩
                obtain ⟨m9, hm9⟩ : ∃ m9, rw_.length = m9 := ⟨_, rfl⟩
                rw [hkd] at k0
                rw [hfr] at k1
                rw [hrw, hm9] at k2 HARG
                have EA := hide (Ext.alloc wr (.cells #[.int .i64 kd, .int .i64 fr, .slice A9 m9 c9] 30))
                have HTA := hide (hT3.out.ext EA.out)
                have HTN := hide (turn_any HTA.out.np (by have := hS.out.2; have := hN2.out; have := hS3.out.2; have := HL1.out; omega) kd fr c9 HARG.out)
                clear hom hrow hoi hkd hfr hrw hm9 hobl hT3
                by_cases hk1 : kd = 1
                · subst hk1
                  go_wp2_with ((with_reducible refine HTN.out.mono ?_); rintro e w7 ⟨y, Q, rfl, h7, k7, pq7, qp7, -⟩; have HT7 := hide (HTA.out.step h7 k7 pq7 qp7); clear h7 k7 pq7 qp7)
                  go_roundw
                  case rel => exact ⟨q + 1, _, _, _, by omega, by go_num, HT7, hS3.out.1, by have := hS3.out.2; omega⟩
                  case measure => simp [intOf]; omega
                · by_cases hk2 : kd = 2
                  · subst hk2
                    go_wp2_with ((with_reducible refine HTN.out.mono ?_); rintro e w7 ⟨y, Q, rfl, h7, k7, pq7, qp7, -⟩; have HT7 := hide (HTA.out.step h7 k7 pq7 qp7); clear h7 k7 pq7 qp7)
                    go_roundw
                    case rel => exact ⟨q + 1, _, _, _, by omega, by go_num, HT7, hS3.out.1, by have := hS3.out.2; omega⟩
                    case measure => simp [intOf]; omega
                  · have hb1 : (kd == 1) = false := by simpa using hk1
                    have hb2 : (kd == 2) = false := by simpa using hk2
                    clear HTN
                    go_wp2_with fail
                    go_roundw
                    case rel => exact ⟨q + 1, _, _, _, by omega, by go_num, HTA, hS3.out.1, by have := hS3.out.2; omega⟩
                    case measure => simp [intOf]; omega
              · obtain rfl : q = j := by omega
                have hrb := hT3.out.np.roll (by have := hS.out.2; have := hN2.out; have := hS3.out.2; have := HL1.out; omega)
                have hr0 : rollN a' = (⟨a.now, none⟩, 0) := by unfold rollN; rw [hS3.out.1]
                rw [hr0] at hrb
                have HRB := hide hrb
                clear hrb hr0
                go_wp2_with fail
                refine HRB.out.mono ?_
                rintro e w7 ⟨rfl, lv3, h7, k7⟩
                have HT7 := hide (hT3.out.step h7 k7 (fun _ h => h) fun b hb => .inl hb)
                have hst := h7.stored
                dsimp only at hst
                rw [HSE.out] at hst
                have HST := hide hst
                clear h7 k7 HRB hT3 hst
                go_wp2_with fail
                refine HST.out.mono ?_
                rintro e w8 ⟨rfl, x8⟩
                have HT8 := hide (HT7.out.ext x8)
                have c0 := HT8.out.np.cell0
                have hrw := HT8.out.np.rows
                dsimp only at hrw
                rw [HRE.out, HLE.out] at hrw
                have HRW := hide hrw
                clear hrw x8 HST HT7
                generalize And' P3 w7.heap.size w8.heap.size = P8 at *
                go_wp2_with ((with_reducible refine HRW.out.mono ?_); rintro e w9 ⟨A9, c9, M9, rfl, hm9, h9, k9, q9⟩; have HT9 := hide (HT8.out.step h9 k9 (fun b hb => .inl hb) (fun b hb => hb.imp id fun hx => Nat.le_trans q9 hx.1)); have T9 := hide (MineA.toldA hm9 (P := fun _ => True) fun _ _ _ => trivial).lat; clear hm9 h9 k9 q9)
                have HSA := hide (same_all R R A9 A4 len len c9 c4 w9 T9.out HT9.out.was.lat (by have := HRR.out.1; omega) (fun r hr => by have := HRR.out.2 r hr; omega))
                rw [sameRs_iff.2 rfl] at HSA
                refine HSA.out.mono ?_
                rintro e w10 ⟨rfl, x10⟩
                have HT10 := hide (HT9.out.ext x10)
                clear x10 HSA HT9 T9 HT8 HRW
                generalize And' (And' P8 M9 w9.heap.size) w9.heap.size w10.heap.size = P10 at *
                go_wp2_with fail
                go_loopw [19, 20, 120] (fun _ _ s120 w' => ∃ (i N4 : Nat) (P : Nat → Prop), i ≤ q ∧ s120 = .int .i64 i ∧ Hid (TuI w1 n lv3 (nkOf s) ⟨a.now, none⟩ N4 P A4 len c4 R As q cs xs w') ∧ Hid (N4 ≤ N3 + 4 + 2 * i)) (fun _ _ s120 _ => q - (intOf s120).toNat)
                case atStart => exact ⟨0, N3 + 4, P10, by omega, rfl, HT10, hide (by omega)⟩
                case round =>
                  clear HT10
                  obtain ⟨p, N4, P4, hpq, rfl, hT4, hN4⟩ := hrel
                  by_cases hp : p < q
                  · have hp2 : (p : Int) < (q : Int) := by omega
                    obtain ⟨ob, off, oo, A9, c9, rfl, hoi, hobl, k0, k1, k2, hrow⟩ := HO.out.op hp
                    have hom := List.mem_of_getElem? hoi
                    have HARG := hide (show ArgR w1 A9 oo.row.length oo.row from ⟨hrow, (HOR.out oo hom).1, (HOR.out oo hom).2, HOW.out oo hom⟩)
                    have k0 := hT4.out.np.ext0.cell k0; have k1 := hT4.out.np.ext0.cell k1; have k2 := hT4.out.np.ext0.cell k2
                    obtain ⟨kd, hkd⟩ : ∃ kd, oo.kind = kd := ⟨_, rfl⟩
                    obtain ⟨fr, hfr⟩ : ∃ fr, oo.k = fr := ⟨_, rfl⟩
                    obtain ⟨sv, hsv⟩ : ∃ sv, supN (nkOf s) a.now oo.row = sv := ⟨_, rfl⟩
                    have hl9 := HO.out.1
                    have hat := sups_at (K := nkOf s) (s := a.now) hoi
                    rw [← hl9, HXS.out, hsv] at hat
                    have HAT := hide hat; have HSV := hide hsv
                    obtain ⟨rw_, hrw⟩ : ∃ rw_, oo.row = rw_ := ⟨_, rfl⟩
                    obtain ⟨m9, hm9⟩ : ∃ m9, rw_.length = m9 := ⟨_, rfl⟩
                    rw [hkd] at k0
                    rw [hfr] at k1
                    rw [hrw, hm9] at k2 HARG
                    rw [hrw] at HSV
                    have EA := hide (Ext.alloc wr (.cells #[.int .i64 kd, .int .i64 fr, .slice A9 m9 c9] 30))
                    have HTA := hide (hT4.out.ext EA.out)
                    have HBX := hide (Blk.new wr 30 #[.int .i64 kd, .int .i64 fr, .slice A9 m9 c9])
                    clear hom hrow hoi hkd hfr hrw hm9 hobl hT4 hat hsv hl9
                    go_upto_region 30 with fail
                    obtain ⟨gb, hgb⟩ : ∃ gb, wr.heap.size = gb := ⟨_, rfl⟩
                    rw [hgb] at HBX ⊢
                    have HGB := hide (show And' P4 wr.heap.size (wr.alloc (.cells #[.int .i64 kd, .int .i64 fr, .slice A9 m9 c9] 30)).heap.size gb from .inr ⟨by omega, by simp; omega⟩)
                    clear hgb k0 k1 k2
                    generalize wr.alloc (.cells #[.int .i64 kd, .int .i64 fr, .slice A9 m9 c9] 30) = wA at *
                    generalize And' P4 wr.heap.size wA.heap.size = PA at *
                    obtain ⟨gs, rfl, -, -, -, -⟩ := HTA.out.sup.at_ (by omega)
                    have HST := hide (show ∀ w' N' Q, TuI w1 n lv3 (nkOf s) ⟨a.now, none⟩ N' Q A4 len c4 R (some ⟨gs, 0, none⟩) q cs xs w' → Blk w' gb 30 #[.int .i64 kd, .int .i64 fr, .slice A9 m9 c9] → w'.cell? ⟨gb, 2, none⟩ = some (.slice A9 m9 c9) ∧ w'.cell? ⟨gs, p, none⟩ = some (.int .i64 sv) from fun w' N' Q h1 h2 => ⟨h2.cell 2, by
                      obtain ⟨g9, e9, -, -, hc, -⟩ := h1.sup.at_ (by omega)
                      injection e9 with e9
                      injection e9 with e9
                      subst e9
                      exact hc p _ HAT.out⟩)
                    refine wp_region_ord [(0, true), (1, true), (2, true), (5, true), (6, true), (7, true), (8, true), (3, false), (4, false), (9, true)] (fun w' => w'.cell? ⟨gb, 2, none⟩ = some (.slice A9 m9 c9) ∧ w'.cell? ⟨gs, p, none⟩ = some (.int .i64 sv)) (by kernel_rfl) (by kernel_rfl) (fun _ _ _ _ _ h => h) ?_ ?_
                    · exact fun w' hw' => HST.out _ _ _ (HTA.out.ext hw') (HBX.out.ext hw')
                    intro wq hwq
                    have HTQ := hide (HTA.out.ext hwq)
                    have HBQ := hide (HBX.out.ext hwq)
                    have HGQ := hide (show And' PA wA.heap.size wq.heap.size gb from .inl HGB.out)
                    generalize And' PA wA.heap.size wq.heap.size = PQ at *
                    clear hwq HTA HBX HGB
                    have HCP := hide (copy_argP (c := c9) (HARG.out.ext HTQ.out.np.ext0))
                    unfold wpO
                    refine ⟨_, rfl, ?_⟩
                    apply Exists.intro
                    refine ⟨.inl ⟨by rfl, fun w9 h9 => ?_⟩, fun K hK => ?_⟩
                    · go_simp; first | done | rfl
                    go_simp; refine hK _ ?_; clear hK K
                    unfold wpO
                    refine ⟨_, rfl, ?_⟩
                    apply Exists.intro
                    refine ⟨.inl ⟨by rfl, fun w9 h9 => ?_⟩, fun K hK => ?_⟩
                    · go_simp; first | done | rfl
                    go_simp; refine hK _ ?_; clear hK K
                    unfold wpO
                    refine ⟨_, rfl, ?_⟩
                    apply Exists.intro
                    refine ⟨.inl ⟨by rfl, fun w9 h9 => ?_⟩, fun K hK => ?_⟩
                    · go_simp; first | done | rfl
                    go_simp; refine hK _ ?_; clear hK K
                    unfold wpO
                    refine ⟨_, rfl, ?_⟩
                    apply Exists.intro
                    refine ⟨.inl ⟨by rfl, fun w9 h9 => ?_⟩, fun K hK => ?_⟩
                    · go_simp; first | done | rfl
                    go_simp; refine hK _ ?_; clear hK K
                    unfold wpO
                    refine ⟨_, rfl, ?_⟩
                    apply Exists.intro
                    refine ⟨.inl ⟨by rfl, fun w9 h9 => ?_⟩, fun K hK => ?_⟩
                    · go_simp; first | done | rfl
                    go_simp; refine hK _ ?_; clear hK K
                    unfold wpO
                    refine ⟨_, rfl, ?_⟩
                    apply Exists.intro
                    refine ⟨.inl ⟨by rfl, fun w9 h9 => ?_⟩, fun K hK => ?_⟩
                    · go_simp; first | done | rfl
                    go_simp; refine hK _ ?_; clear hK K
                    unfold wpO
                    refine ⟨_, rfl, ?_⟩
                    apply Exists.intro
                    refine ⟨.inl ⟨by rfl, fun w9 h9 => ?_⟩, fun K hK => ?_⟩
                    · go_simp; first | done | rfl
                    go_simp; refine hK _ ?_; clear hK K
                    unfold wpO
                    refine ⟨_, rfl, ?_⟩
                    go_wp2_with ((with_reducible refine HCP.out.mono ?_); rintro e w12 ⟨A12, c12, rfl, ha12, hb12, x12⟩; have HT12 := hide (HTQ.out.ext x12); have HB12 := hide (HBQ.out.ext x12))
                    simp only [exL]
                    refine ⟨HST.out _ _ _ HT12.out HB12.out, ?_⟩
                    have hsp := HT12.out.np.support (by have := hS.out.2; have := hN2.out; have := hS3.out.2; have := HL1.out; have := hN4.out; omega) c12 ha12 fun x hx => .inr (hb12 x hx)
                    dsimp only at hsp
                    rw [HSV.out] at hsp
                    have HSP := hide hsp
                    have HG12 := hide (show And' PQ wq.heap.size w12.heap.size gb from .inl HGQ.out)
                    generalize And' PQ wq.heap.size w12.heap.size = P12 at *
                    clear hsp ha12 hb12 x12 HCP HTQ HBQ HGQ
                    unfold wpO
                    refine ⟨_, rfl, ?_⟩
                    go_wp2_with ((with_reducible refine HSP.out.mono ?_); rintro e w13 ⟨rfl, h13, k13⟩; have HT13 := hide (HT12.out.step h13 k13 (fun _ h => h) fun b hb => .inl hb))
                    simp only [exL]
                    refine ⟨HST.out _ _ _ HT13.out (k13.blk HB12.out fun hx => hx HG12.out), ?_⟩
                    clear h13 k13 HT12 HB12 HSP
                    unfold wpO
                    refine ⟨_, rfl, ?_⟩
                    apply Exists.intro
                    refine ⟨.inl ⟨by rfl, fun w9 h9 => ?_⟩, fun K hK => ?_⟩
                    · go_simp; first | done | rfl
                    go_simp; refine hK _ ?_; clear hK K
                    unfold wpO
                    go_wp2_with fail
                    go_roundw
                    case rel => exact ⟨p + 1, _, _, by omega, by go_num, HT13, hide (by have := hN4.out; omega)⟩
                    case measure => simp [intOf]; omega
                  · obtain rfl : p = q := by omega
                    go_wp2_with fail
                    refine (awake_nd _).mono ?_
                    rintro e w11 ⟨rfl, x11⟩
                    have X11 := hide (hT4.out.np.ext0.trans x11)
                    clear x11
                    go_wp2_with fail
                    go_ret
                    exact ⟨rfl, HE.out.trans X11.out⟩
end Go.Proofs.YtahdiiaadjdmcaaGreat
