/-
  NodeBack: the law's walk.
-/
import Derived.Test.YtahdiiaadjdmcaaGreatNgL
namespace Go.Proofs.YtahdiiaadjdmcaaGreat
open Go.RowKit

set_option maxRecDepth 100000 in
set_option maxHeartbeats 4000000 in
theorem law_back (s : SP) (L : SPL) (ops : List OpS) (Ao : Option Addr) (l co : Nat) (o : OpS) (Ar : Option Addr) (m c : Nat) (w : World) (hs : SpecAt w s L) (ho : LAt ROp 3 w Ao l ops) (_hlc : l ≤ co) (hl : l ≤ 1048576) (hor : ∀ o ∈ ops, o.row.length ≤ 1048576 ∧ smallR o.row) (howf : ∀ o ∈ ops, wfR o.row) (ha : ArgR w Ar m o.row) :
    Calls Tryz.prog 3 #[.agg (specC s L), .slice Ao l co, .agg #[.int .i64 o.kind, .int .i64 o.k, .slice Ar m c]] w fun e w' => e = .returned (.bool true) ∧ Ext w w' := by
  obtain ⟨g, hg⟩ : ∃ g, w.heap.size = g := ⟨_, rfl⟩
  obtain ⟨w1, hw1⟩ : ∃ w1, (w.alloc (.cells (specC s L) 25)).alloc (.cells #[.int .i64 o.kind, .int .i64 o.k, .slice Ar m c] 30) = w1 := ⟨_, rfl⟩
  have hb := (Blk.new w 25 (specC s L)).ext (Ext.alloc _ (.cells #[.int .i64 o.kind, .int .i64 o.k, .slice Ar m c] 30))
  have hz := Blk.new (w.alloc (.cells (specC s L) 25)) 30 #[.int .i64 o.kind, .int .i64 o.k, .slice Ar m c]
  have he := (Ext.alloc w (.cells (specC s L) 25)).alloc' (.cells #[.int .i64 o.kind, .int .i64 o.k, .slice Ar m c] 30)
  rw [World.size_alloc] at hz
  rw [hw1] at hb he hz
  rw [hg] at hb hz
  have HE := hide he; have HOB := hide hz
  have HMD := hide (made_any (hs.ext he))
  have HO := hide (ho.ext ROp.stab he); have HOR := hide hor; have HOW := hide howf; have HA := hide (ha.ext he)
  have HGS := hide (show w1.heap.size = g + 2 from by rw [← hw1]; simp; omega)
  have b0 : w1.cell? ⟨g, 0, none⟩ = some (.int .i64 s.kind) := hb.cell 0
  have b1 : w1.cell? ⟨g, 1, none⟩ = some (.int .i64 s.inn) := hb.cell 1
  have b2 : w1.cell? ⟨g, 2, none⟩ = some (.slice L.kA s.keep.length L.kC) := hb.cell 2
  have b3 : w1.cell? ⟨g, 3, none⟩ = some (.slice L.sA s.side.length L.sC) := hb.cell 3
  have b4 : w1.cell? ⟨g, 4, none⟩ = some (.slice L.uA s.up.length L.uC) := hb.cell 4
  have b5 : w1.cell? ⟨g, 5, none⟩ = some (.int .i64 s.most) := hb.cell 5
  clear hs ho hor howf ha hb hz he
  unfold specC at *
  go_enter Tryz.func3, Tryz.ntmps3
  go_upto_region 1 with fail
  clear hw1 hg
  go_wp2_with fail
  refine HMD.out.mono ?_
  rintro e w2 h2
  clear b0 b1 b2 b3 b4 b5 HMD
  rcases h2.np with ⟨-, rfl, x2⟩ | ⟨-, n, d, lv, b, rfl, h2, -, -⟩
  · have X2 := hide x2
    clear x2
    go_wp2_with fail
    refine (awake_nd _).mono ?_
    rintro e w3 ⟨rfl, x3⟩
    have X3 := hide x3
    clear x3
    go_wp2_with fail
    go_ret
    exact ⟨rfl, HE.out.trans (X2.out.trans X3.out)⟩
  · have N2 := hide (h2.mono (Q := fun _ => False) fun b hb => hb.elim)
    clear h2
    go_wp2_with fail
    go_loopw [11, 36] (fun _ s36 w' => ∃ (i : Nat) (a : NAbs) (N : Nat), i ≤ l ∧ s36 = .int .i64 i ∧ Hid (NP w1 w' n lv (nkOf s) a N (fun _ => False)) ∧ Hid (a.old = none ∧ N ≤ 262144 + 1048576 * i)) (fun _ s36 _ => l - (intOf s36).toNat)
    case atStart => exact ⟨0, _, _, by omega, rfl, N2, rfl, by omega⟩
    case round =>
      clear N2
      obtain ⟨i, a, N, hil, rfl, hP, hS⟩ := hrel
      by_cases hi : i < l
      · have hi2 : (i : Int) < (l : Int) := by omega
        obtain ⟨ob, off, oo, A9, c9, rfl, hoi, hobl, k0, k1, k2, hrow⟩ := HO.out.op hi
        have hom := List.mem_of_getElem? hoi
        have HARG := hide (show ArgR w1 A9 oo.row.length oo.row from ⟨hrow, (HOR.out oo hom).1, (HOR.out oo hom).2, HOW.out oo hom⟩)
        have k0 := hP.out.ext0.cell k0; have k1 := hP.out.ext0.cell k1; have k2 := hP.out.ext0.cell k2
        obtain ⟨kd, hkd⟩ : ∃ kd, oo.kind = kd := ⟨_, rfl⟩
        obtain ⟨fr, hfr⟩ : ∃ fr, oo.k = fr := ⟨_, rfl⟩
        obtain ⟨rw_, hrw⟩ : ∃ rw_, oo.row = rw_ := ⟨_, rfl⟩
        obtain ⟨m9, hm9⟩ : ∃ m9, rw_.length = m9 := ⟨_, rfl⟩
        rw [hkd] at k0
        rw [hfr] at k1
        rw [hrw, hm9] at k2 HARG
        have EA := hide (Ext.alloc wr (.cells #[.int .i64 kd, .int .i64 fr, .slice A9 m9 c9] 30))
        have HTN := hide (turn_any (hP.out.ext EA.out) (by have := hS.out.2; omega) kd fr c9 HARG.out)
        clear hom hrow hoi hkd hfr hrw hm9 hobl
        by_cases hk1 : kd = 1
        · subst hk1
          go_wp2_with ((with_reducible refine HTN.out.mono ?_); rintro e w5 ⟨y, Q, rfl, h5, -⟩; have N5 := hide h5; clear h5)
          go_roundw
          case rel => exact ⟨i + 1, _, _, by omega, by go_num, N5.out.mono fun b hb => hb.elim, hS.out.1, by have := hS.out.2; omega⟩
          case measure => simp [intOf]; omega
        · by_cases hk2 : kd = 2
          · subst hk2
            go_wp2_with ((with_reducible refine HTN.out.mono ?_); rintro e w5 ⟨y, Q, rfl, h5, -⟩; have N5 := hide h5; clear h5)
            go_roundw
            case rel => exact ⟨i + 1, _, _, by omega, by go_num, N5.out.mono fun b hb => hb.elim, hS.out.1, by have := hS.out.2; omega⟩
            case measure => simp [intOf]; omega
          · have hb1 : (kd == 1) = false := by simpa using hk1
            have hb2 : (kd == 2) = false := by simpa using hk2
            have N5 := hide (hP.out.ext EA.out)
            clear HTN
            go_wp2_with fail
            go_roundw
            case rel => exact ⟨i + 1, _, _, by omega, by go_num, N5.out.mono fun b hb => hb.elim, hS.out.1, by have := hS.out.2; omega⟩
            case measure => simp [intOf]; omega
      · obtain rfl : i = l := by omega
        have c0 := hP.out.cell0
        have HRW := hide hP.out.rows
        obtain ⟨R, hR⟩ : ∃ R, a.now.live = R := ⟨_, rfl⟩
        obtain ⟨len, hlen⟩ : ∃ len, R.length = len := ⟨_, rfl⟩
        rw [hR, hlen] at HRW
        have hk := hP.out.ok; have hok := hP.out.now
        have HRR := hide (show len ≤ 65536 ∧ ∀ r ∈ R, r.length ≤ 30 from by
          have h1 := hok.liveLen hk; have h2 := hok.liveSmall hk
          rw [hR] at h1 h2
          exact ⟨by omega, h2⟩)
        obtain ⟨st, hST⟩ : ∃ st, storedN (nkOf s) a.now = st := ⟨_, rfl⟩
        have HSE := hide hST
        have HRE := hide hR; have HLE := hide hlen; have HK := hide hk; have HOK := hide hok
        have HRG := HE.out.size
        clear hR hlen hk hok hST
        go_upto_region 11 with (first
          | ((with_reducible refine HRW.out.mono ?_); rintro e w3 ⟨A3, c3, M3, rfl, hm3, h3, -, q3⟩; have N3 := hide h3; have T3 := hide (show LAt RRow 1 w3 A3 len R from (MineA.toldA hm3 (P := fun _ => True) fun _ _ _ => trivial).lat); have HCA := hide (copy_all R A3 len c3 w3 T3.out (by have := HRR.out.1; omega) (fun r hr => by have := HRR.out.2 r hr; omega)); clear hm3 h3 q3)
          | ((with_reducible refine (HCA.out.mono fun e w' hh => told_retrows hh).mono ?_); rintro e w4 ⟨A4, c4, he4, x4, q4⟩; rw [HLE.out] at he4 q4; subst he4; have N4 := hide (N3.out.ext x4); have T4 := hide (q4 (And' (And' (fun _ => False) M3 w3.heap.size) w3.heap.size w4.heap.size) fun b h1 h2 => .inr ⟨h1, h2⟩); clear x4 q4; have HST := hide N4.out.stored; rw [HSE.out] at HST)
          | ((with_reducible refine HST.out.mono ?_); rintro e w5 ⟨rfl, x5⟩; have X5 := hide x5; clear x5))
        obtain ⟨P5, hP5⟩ : ∃ P5, And' (And' (And' (fun _ => False) M3 w3.heap.size) w3.heap.size w4.heap.size) w4.heap.size w5.heap.size = P5 := ⟨_, rfl⟩
        have N5 := hide (N4.out.ext X5.out)
        have T5 := hide (T4.out.ext X5.out (Q := And' (And' (And' (fun _ => False) M3 w3.heap.size) w3.heap.size w4.heap.size) w4.heap.size w5.heap.size) fun b hb => .inl hb)
        rw [hP5] at N5 T5
        clear hP5 HRW HCA N3 T3 N4 T4 HST X5 c0
        have hob := HOB.out.ext N5.out.ext0
        have o1 : w5.cell? ⟨g + 1, 1, none⟩ = some (.int .i64 o.k) := hob.cell 1
        have o2 : w5.cell? ⟨g + 1, 2, none⟩ = some (.slice Ar m c) := hob.cell 2
        obtain ⟨t, ht⟩ : ∃ t, turnN (nkOf s) a.now true o.k o.row = t := ⟨_, rfl⟩
        have hTN := turn_any N5.out (by have := hS.out.2; omega) 1 o.k c HA.out
        rw [show decide ((1 : Int) = 1) = true from rfl, ht] at hTN
        have hbk : (t.2.2.2 ≠ 0 → t.1 = a.now ∧ t.2.1 = [] ∧ t.2.2.1 = []) ∧ (t.2.2.2 = 0 → BackOk (nkOf s) a.now t (turnN (nkOf s) t.1 false o.k o.row)) := by
          rw [← ht]
          exact ⟨turn_fail, back_law HOK.out⟩
        have hlt := turn_told HK.out HOK.out true o.k HA.out.small HA.out.wf
        rw [ht] at hlt
        have HLT := hide hlt
        clear hlt
        obtain ⟨s1, F, U, z⟩ := t
        have HTN := hide hTN; have HBK := hide hbk
        clear ht hTN hbk hob
        go_wp2_with fail
        refine HTN.out.mono ?_
        rintro e w6 ⟨y, Q6, rfl, h6, k6, pq6, -, m6⟩
        obtain ⟨Ay, cy, Az, cz, X6, Y6, rfl, f6, u6, -, xy6⟩ := m6
        have N6 := hide h6; have T6 := hide (T5.out.keep k6 pq6); have F6 := hide (f6.chg (Chg.refl (fun _ => False) w6) (fun _ _ h => h) (Q := Q6) fun b hb => (xy6 b (.inl hb)).1); have U6 := hide (u6.chg (Chg.refl (fun _ => False) w6) (fun _ _ h => h) (Q := Q6) fun b hb => (xy6 b (.inr hb)).1)
        clear h6 k6 pq6 f6 u6 xy6 HTN T5 N5
        obtain ⟨g7, hg7⟩ : ∃ g7, w6.heap.size = g7 := ⟨_, rfl⟩
        obtain ⟨w7, hw7⟩ : ∃ w7, w6.alloc (.cells #[.slice Ay F.length cy, .slice Az U.length cz] 38) = w7 := ⟨_, rfl⟩
        have he7 := Ext.alloc w6 (.cells #[.slice Ay F.length cy, .slice Az U.length cz] 38)
        have hb7 := Blk.new w6 38 #[.slice Ay F.length cy, .slice Az U.length cz]
        have hs7 : w7.heap.size = g7 + 1 := by rw [← hw7]; simp; omega
        rw [hw7] at he7 hb7
        rw [hg7] at hb7
        have HB7 := hide hb7; have HG7 := hide hg7; have HW7 := hide hw7
        have N7 := hide (N6.out.ext he7); have T7 := hide (T6.out.ext he7 (Q := And' Q6 w6.heap.size w7.heap.size) fun b hb => .inl hb)
        have F7 := hide (F6.out.chg (C := fun _ => False) (Chg.of he7) (fun _ _ h => h) (Q := And' Q6 w6.heap.size w7.heap.size) fun b hb => .inl hb); have U7 := hide (U6.out.chg (C := fun _ => False) (Chg.of he7) (fun _ _ h => h) (Q := And' Q6 w6.heap.size w7.heap.size) fun b hb => .inl hb)
        have HPG := hide (show And' Q6 w6.heap.size w7.heap.size g7 from .inr ⟨by omega, by omega⟩)
        clear hb7 hg7 hw7 he7 hs7 N6 T6 F6 U6
        go_upto_region 12 with fail
        rw [HG7.out, HW7.out]
        clear HW7 HG7
        generalize And' Q6 w6.heap.size w7.heap.size = P7 at *
        have d0 : w7.cell? ⟨g7, 0, none⟩ = some (.slice Ay F.length cy) := HB7.out.cell 0
        have d1 : w7.cell? ⟨g7, 1, none⟩ = some (.slice Az U.length cz) := HB7.out.cell 1
        by_cases hz : z = 0
        · subst hz
          have hbk := HBK.out.2 rfl
          have HBO := hide hbk
          clear hbk HBK
          go_upto_region 14 with fail
          have HST := hide (fun (Q : Nat → Prop) (w' : World) (hn : ∃ a' N', NP w1 w' n lv (nkOf s) a' N' Q) (hc : Keeps P7 w7 w') => (show w'.cell? ⟨n, 0, none⟩ = some (ptr lv) ∧ w'.cell? ⟨g7, 0, none⟩ = some (.slice Ay F.length cy) from ⟨hn.elim fun _ h => h.elim fun _ h => h.cell0, (hc.blk HB7.out fun hx => hx HPG.out).cell 0⟩))
          clear d0 d1
          obtain ⟨flen, hfl⟩ : ∃ flen, F.length = flen := ⟨_, rfl⟩
          rw [hfl] at HST
          have hls : s1.live.length = len + flen := by have h1 : s1.live.length = a.now.live.length + F.length := HBO.out.1; rw [HRE.out, HLE.out, hfl] at h1; exact h1
          have hf5 : len + flen ≤ 65536 := by have := N7.out.now.liveLen N7.out.ok; rw [← hls]; exact this
          have HFL := hide hfl; have HLS := hide hls
          refine wp_region_ord [(0, true), (1, true), (2, true), (3, true), (6, true), (7, true), (8, true), (9, true), (10, true), (11, true), (4, false), (5, true), (12, true)] (fun w' => w'.cell? ⟨n, 0, none⟩ = some (ptr lv) ∧ w'.cell? ⟨g7, 0, none⟩ = some (.slice Ay flen cy)) (by kernel_rfl) (by kernel_rfl) (fun _ _ _ _ _ h => h) ?_ ?_
          · exact fun w' hw' => HST.out _ w' ⟨_, _, N7.out.ext hw'⟩ (Chg.of hw')
          intro wq hwq
          have HWQ := hide hwq
          clear hfl hls hwq
          rw [HFL.out]
          unfold wpO
          refine ⟨_, rfl, ?_⟩
          apply Exists.intro
          refine ⟨.inl ⟨by rfl, fun w9 h9 => ?_⟩, fun K hK => ?_⟩
          · go_simp; first | done | rfl
          go_simp; refine hK _ ?_; clear hK K
          unfold wpO
          refine ⟨_, rfl, ?_⟩
          apply Exists.intro
          refine ⟨.inl ⟨by rfl, fun w9 h9 => ?_⟩, fun K hK => ?_⟩
          · go_simp; first | done | rfl
          go_simp; refine hK _ ?_; clear hK K
          unfold wpO
          refine ⟨_, rfl, ?_⟩
          apply Exists.intro
          refine ⟨.inl ⟨by rfl, fun w9 h9 => ?_⟩, fun K hK => ?_⟩
          · go_simp; first | done | rfl
          go_simp; refine hK _ ?_; clear hK K
          unfold wpO
          refine ⟨_, rfl, ?_⟩
          apply Exists.intro
          refine ⟨.inl ⟨by rfl, fun w9 h9 => ?_⟩, fun K hK => ?_⟩
          · go_simp; first | done | rfl
          go_simp; refine hK _ ?_; clear hK K
          unfold wpO
          refine ⟨_, rfl, ?_⟩
          apply Exists.intro
          refine ⟨.inl ⟨by rfl, fun w9 h9 => ?_⟩, fun K hK => ?_⟩
          · go_simp; first | done | rfl
          go_simp; refine hK _ ?_; clear hK K
          unfold wpO
          refine ⟨_, rfl, ?_⟩
          apply Exists.intro
          refine ⟨.inl ⟨by rfl, fun w9 h9 => ?_⟩, fun K hK => ?_⟩
          · go_simp; first | done | rfl
          go_simp; refine hK _ ?_; clear hK K
          unfold wpO
          refine ⟨_, rfl, ?_⟩
          apply Exists.intro
          refine ⟨.inl ⟨by rfl, fun w9 h9 => ?_⟩, fun K hK => ?_⟩
          · go_simp; first | done | rfl
          go_simp; refine hK _ ?_; clear hK K
          unfold wpO
          refine ⟨_, rfl, ?_⟩
          apply Exists.intro
          refine ⟨.inl ⟨by rfl, fun w9 h9 => ?_⟩, fun K hK => ?_⟩
          · go_simp; first | done | rfl
          go_simp; refine hK _ ?_; clear hK K
          unfold wpO
          refine ⟨_, rfl, ?_⟩
          apply Exists.intro
          refine ⟨.inl ⟨by rfl, fun w9 h9 => ?_⟩, fun K hK => ?_⟩
          · go_simp; first | done | rfl
          go_simp; refine hK _ ?_; clear hK K
          unfold wpO
          refine ⟨_, rfl, ?_⟩
          apply Exists.intro
          refine ⟨.inl ⟨by rfl, fun w9 h9 => ?_⟩, fun K hK => ?_⟩
          · go_simp; first | done | rfl
          go_simp; refine hK _ ?_; clear hK K
          have hrw := (N7.out.ext HWQ.out).rows
          dsimp only at hrw
          rw [HLS.out] at hrw
          have HRW := hide hrw
          clear hrw
          unfold wpO
          refine ⟨_, rfl, ?_⟩
          go_wp2_with ((with_reducible refine HRW.out.mono ?_); rintro e w8 ⟨A8, c8, M8, rfl, hm8, h8, k8, -⟩; have N8 := hide h8; have K8 := hide (show Keeps P7 w7 w8 from (Chg.of HWQ.out).trans k8 fun b hb _ hp => hb (.inl hp)); clear hm8 h8 k8)
          simp only [exL]
          refine ⟨HST.out _ w8 ⟨_, _, N8.out⟩ K8.out, ?_⟩
          unfold wpO
          refine ⟨_, rfl, ?_⟩
          apply Exists.intro
          refine ⟨.inl ⟨by rfl, fun w9 h9 => ?_⟩, fun K hK => ?_⟩
          · go_simp; first | done | rfl
          go_simp; refine hK _ ?_; clear hK K
          unfold wpO
          refine ⟨_, rfl, ?_⟩
          apply Exists.intro
          refine ⟨.inl ⟨by rfl, fun w9 h9 => ?_⟩, fun K hK => ?_⟩
          · go_simp; first | done | rfl
          go_simp; refine hK _ ?_; clear hK K
          unfold wpO
          have hob := HOB.out.ext N8.out.ext0
          have o1 : w8.cell? ⟨g + 1, 1, none⟩ = some (.int .i64 o.k) := hob.cell 1
          have o2 : w8.cell? ⟨g + 1, 2, none⟩ = some (.slice Ar m c) := hob.cell 2
          have N8 := hide (N8.out.mono (Q := P7) fun b hb => .inl (.inl hb))
          obtain ⟨u, hu⟩ : ∃ u, turnN (nkOf s) s1 false o.k o.row = u := ⟨_, rfl⟩
          have hTN := turn_any N8.out (by have := hS.out.2; omega) 2 o.k c HA.out
          rw [show decide ((2 : Int) = 1) = false from rfl] at hTN
          have hbo := HBO.out
          dsimp only at hTN
          rw [hu] at hTN hbo
          obtain ⟨s2, F2, U2, z2⟩ := u
          obtain ⟨-, q2, q3, q4, q5, q6⟩ := hbo
          dsimp only at q2 q3 q4 q5 q6
          subst q2 q3 q4
          have HTN := hide hTN; have HL2 := hide (q5.trans HRE.out); have HS2 := hide (q6.trans HSE.out)
          clear hTN q5 q6 hu hob HRW HST HBO
          go_wp2_with fail
          refine HTN.out.mono ?_
          rintro e w9 ⟨y, Q9, rfl, h9, k9, pq9, -, m9⟩
          obtain ⟨Ay9, cy9, Az9, cz9, X9, Y9, rfl, f9, u9, -, -⟩ := m9
          have N9 := hide h9; have K9 := hide (show Keeps P7 w7 w9 from K8.out.trans k9 fun b hb _ hp => hb hp)
          have F9 := hide f9.lat; have U9 := hide u9.lat; have PQ9 := hide pq9
          clear h9 k9 pq9 f9 u9 HTN
          obtain ⟨g10, hg10⟩ : ∃ g10, w9.heap.size = g10 := ⟨_, rfl⟩
          obtain ⟨w10, hw10⟩ : ∃ w10, w9.alloc (.cells #[.slice Ay9 F2.length cy9, .slice Az9 U2.length cz9] 38) = w10 := ⟨_, rfl⟩
          have he10 := Ext.alloc w9 (.cells #[.slice Ay9 F2.length cy9, .slice Az9 U2.length cz9] 38)
          have hb10 := Blk.new w9 38 #[.slice Ay9 F2.length cy9, .slice Az9 U2.length cz9]
          rw [hw10] at he10 hb10
          rw [hg10] at hb10
          have K10 := hide (show Keeps P7 w7 w10 from K9.out.trans' (Chg.of he10))
          have N10 := hide (N9.out.ext he10)
          have N10 := hide (N10.out.mono (Q := P7) fun b hb => .inl (PQ9.out b hb))
          have HB10 := hide hb10; have HG10 := hide hg10; have HW10 := hide hw10
          have F10 := hide (F9.out.ext RRow.stab he10); have U10 := hide (U9.out.ext RRow.stab he10)
          clear hb10 hg10 hw10 he10 F9 U9 N9 K9 K8 N8 o1 o2
          go_upto_region 17 with fail
          rw [HG10.out, HW10.out]
          clear HG10 HW10
          have hb7 := K10.out.blk HB7.out fun hx => hx HPG.out
          have d0 : w10.cell? ⟨g7, 0, none⟩ = some (.slice Ay F2.length cy) := hb7.cell 0
          have e0 : w10.cell? ⟨g10, 0, none⟩ = some (.slice Ay9 F2.length cy9) := HB10.out.cell 0
          have hsa := same_all F2 F2 Ay Ay9 F2.length F2.length cy cy9 w10 (F7.out.chg K10.out (fun b hb hn => hn hb) (Q := P7) fun _ h => h).lat F10.out (by have := HLT.out.1.1; omega) (fun r hr => by have := HLT.out.1.2 r hr; omega)
          rw [sameRs_iff.2 rfl] at hsa
          have HSA := hide hsa
          clear hb7 hsa
          go_wp2_with fail
          refine HSA.out.mono ?_
          rintro e w11 ⟨rfl, x11⟩
          have K11 := hide (show Keeps P7 w7 w11 from K10.out.trans' (Chg.of x11))
          have N11 := hide ((N10.out.ext x11).mono (Q := P7) fun b hb => .inl hb)
          have U11 := hide (U10.out.ext RRow.stab x11)
          have hb7 := K11.out.blk HB7.out fun hx => hx HPG.out
          have d1 : w11.cell? ⟨g7, 1, none⟩ = some (.slice Az U2.length cz) := hb7.cell 1
          have e1 : w11.cell? ⟨g10, 1, none⟩ = some (.slice Az9 U2.length cz9) := (HB10.out.ext x11).cell 1
          have hsa := same_all U2 U2 Az Az9 U2.length U2.length cz cz9 w11 (U7.out.chg K11.out (fun b hb hn => hn hb) (Q := P7) fun _ h => h).lat U11.out (by have := HLT.out.2.1; omega) (fun r hr => by have := HLT.out.2.2 r hr; omega)
          rw [sameRs_iff.2 rfl] at hsa
          have HSA := hide hsa
          clear hb7 hsa K10 N10 U10 F10 HB10 x11 d0 e0
          go_wp2_with fail
          refine HSA.out.mono ?_
          rintro e w12 ⟨rfl, x12⟩
          have K12 := hide (show Keeps P7 w7 w12 from K11.out.trans' (Chg.of x12))
          have N12 := hide ((N11.out.ext x12).mono (Q := P7) fun b hb => .inl hb)
          have c0 := N12.out.cell0
          have hrw := N12.out.rows
          dsimp only at hrw
          rw [HL2.out, HLE.out] at hrw
          have HRW := hide hrw
          clear hrw K11 N11 U11 d1 e1 x12 HSA
          go_wp2_with ((with_reducible refine HRW.out.mono ?_); rintro e w13 ⟨A13, c13, M13, rfl, hm13, h13, k13, -⟩; have N13 := hide (h13.mono (Q := P7) fun b hb => .inl hb); have K13 := hide (show Keeps P7 w7 w13 from K12.out.trans k13 fun b hb _ hp => hb hp); have HSA := hide (same_all R R A13 A4 len len c13 c4 w13 (MineA.toldA hm13 (P := fun _ => True) fun _ _ _ => trivial).lat (T7.out.keep K13.out (Q := P7) fun _ h => h).lat (by have := HRR.out.1; omega) (fun r hr => by have := HRR.out.2 r hr; omega)); clear hm13 h13 k13)
          rw [sameRs_iff.2 rfl] at HSA
          refine HSA.out.mono ?_
          rintro e w14 ⟨rfl, x14⟩
          have N14 := hide ((N13.out.ext x14).mono (Q := P7) fun b hb => .inl hb)
          have hst := N14.out.stored
          dsimp only at hst
          rw [HS2.out] at hst
          have HST := hide hst
          clear hst x14 HSA N13 K13 HRW
          go_wp2_with fail
          refine HST.out.mono ?_
          rintro e w15 ⟨rfl, x15⟩
          have X15 := hide (N14.out.ext0.trans x15)
          clear x15 HST
          go_wp2_with fail
          refine (awake_nd _).mono ?_
          rintro e w16 ⟨rfl, x16⟩
          have X16 := hide (X15.out.trans x16)
          clear x16
          go_wp2_with fail
          go_ret
          exact ⟨rfl, HE.out.trans X16.out⟩
        · obtain ⟨rfl, rfl, rfl⟩ := HBK.out.1 hz
          have hz2 : (z != 0) = true := by simpa using hz
          have c0 := N7.out.cell0
          have hrw := N7.out.rows
          rw [show ({ now := a.now, old := a.old } : NAbs).now.live = R from HRE.out] at hrw
          rw [HLE.out] at hrw
          have HRW := hide hrw
          clear hrw HBK hz
          go_wp2_with ((with_reducible refine HRW.out.mono ?_); rintro e w8 ⟨A8, c8, M8, rfl, hm8, h8, k8, -⟩; have N8 := hide h8; have HSA := hide (same_all R R A8 A4 len len c8 c4 w8 (MineA.toldA hm8 (P := fun _ => True) fun _ _ _ => trivial).lat (T7.out.keep k8 (Q := P7) fun _ h => h).lat (by have := HRR.out.1; omega) (fun r hr => by have := HRR.out.2 r hr; omega)); clear hm8 h8 k8)
          rw [sameRs_iff.2 rfl] at HSA
          refine HSA.out.mono ?_
          rintro e w9 ⟨rfl, x9⟩
          have N9 := hide (N8.out.ext x9)
          clear x9 HSA N8
          go_wp2_with fail
          refine (awake_nd _).mono ?_
          rintro e w10 ⟨rfl, x10⟩
          have X10 := hide x10
          clear x10
          go_wp2_with fail
          go_ret
          exact ⟨rfl, HE.out.trans (N9.out.ext0.trans X10.out)⟩
end Go.Proofs.YtahdiiaadjdmcaaGreat
