/-
  NodeMeets: the law's walk.
-/
import Derived.Test.YtahdiiaadjdmcaaGreatNqH
namespace Go.Proofs.YtahdiiaadjdmcaaGreat
open Go.RowKit

/-- what the law holds: the node, what is on at the source and at the side -/
structure MeI (w0 : World) (n l : Nat) (K : NK) (a : NAbs) (N : Nat) (P : Nat → Prop) (Ao : Option Addr) (co : Nat) (As : Option Addr) (cs : Nat) (w : World) : Prop where
  np : NP w0 w n l K a N P
  ons : Told w P Ao a.now.ons.length co a.now.ons
  sides : Told w P As a.now.sides.length cs a.now.sides
  new : ∀ b, P b → w0.heap.size ≤ b
section
variable {w0 w w' : World} {n l : Nat} {K : NK} {a : NAbs} {N : Nat} {P Q : Nat → Prop} {Ao As : Option Addr} {co cs : Nat}
theorem MeI.ext (h : MeI w0 n l K a N P Ao co As cs w) (hw : Ext w w') : MeI w0 n l K a N (And' P w.heap.size w'.heap.size) Ao co As cs w' :=
  ⟨h.np.ext hw, h.ons.ext hw fun b hb => .inl hb, h.sides.ext hw fun b hb => .inl hb, fun b hb => hb.elim (h.new b) fun h1 => by have := h.np.size0; omega⟩
theorem MeI.step (h : MeI w0 n l K a N P Ao co As cs w) {N' : Nat} (hn : NP w0 w' n l K a N' Q) (hk : Keeps P w w') (hq : ∀ b, P b → Q b) (hq2 : ∀ b, Q b → P b ∨ w.heap.size ≤ b) : MeI w0 n l K a N' Q Ao co As cs w' :=
  ⟨hn, h.ons.keep hk hq, h.sides.keep hk hq, fun b hb => (hq2 b hb).elim (h.new b) fun h1 => by have := h.np.size0; omega⟩
end
/-- a list behind a turn -/
def newL (on : Bool) (l : List (List V)) (r : List V) : List (List V) := if on then l ++ [r] else delR r l
theorem NOk.onsLen {K : NK} (hK : NKOk K) {s : NSt} (h : NOk K s) : s.ons.length ≤ 65536 ∧ (∀ r ∈ s.ons, r.length ≤ 30) ∧ s.sides.length ≤ 65536 ∧ ∀ r ∈ s.sides, r.length ≤ 30 := by
  have h1 := h.most; have h2 := h.smost; have h3 := hK.most
  exact ⟨by omega, fun r hr => fit_len (h.ons r hr) hK.width, by omega, fun r hr => fit_len (h.sides r hr) hK.side.1⟩
def meS (inn : Int) (side : List Int) : SP := ⟨3, inn, [], side, [], 100⟩
def meL (As : Option Addr) (cs : Nat) : SPL := ⟨none, 0, As, cs, none, 0⟩
theorem me_spec {w : World} {side : List Int} {As : Option Addr} {ns : Nat} (inn : Int) (cs : Nat) (h : NumAt w As ns side) (hn : ns ≤ 1048576) : SpecAt w (meS inn side) (meL As cs) := by
  obtain rfl := h.len
  have h0 : NumAt w none 0 [] := ⟨rfl, Sl.nil w none 1⟩
  exact ⟨h0, h, h0, Nat.zero_le _, hn, Nat.zero_le _⟩
set_option maxRecDepth 100000 in
set_option maxHeartbeats 4000000 in
theorem law_meets (inn : Int) (side : List Int) (Asd : Option Addr) (nsd csd : Nat) (ops : List OpS) (Ao : Option Addr) (l co : Nat) (w : World) (_hi : -9223372036854775808 ≤ inn ∧ inn ≤ 9223372036854775807) (hsd : NumAt w Asd nsd side) (hsl : nsd ≤ 1048576) (_hsw : wfI side) (ho : LAt ROp 3 w Ao l ops) (_hlc : l ≤ co) (hl : l ≤ 1048576) (hor : ∀ o ∈ ops, o.row.length ≤ 1048576 ∧ smallR o.row) (howf : ∀ o ∈ ops, wfR o.row) :
    Calls Tryz.prog 4 #[.int .i64 inn, .slice Asd nsd csd, .slice Ao l co] w fun e w' => e = .returned (.bool true) ∧ Ext w w' := by
  obtain rfl := hsd.len
  obtain ⟨g, hg⟩ : ∃ g, w.heap.size = g := ⟨_, rfl⟩
  obtain ⟨w1, hw1⟩ : ∃ w1, w.alloc (.cells #[.int .i64 3, .int .i64 inn, .slice none 0 0, .slice Asd side.length csd, .slice none 0 0, .int .i64 100] 25) = w1 := ⟨_, rfl⟩
  have hb := Blk.new w 25 #[.int .i64 3, .int .i64 inn, .slice none 0 0, .slice Asd side.length csd, .slice none 0 0, .int .i64 100]
  have he := Ext.alloc w (.cells #[.int .i64 3, .int .i64 inn, .slice none 0 0, .slice Asd side.length csd, .slice none 0 0, .int .i64 100] 25)
  have HW1 := hide hw1
  rw [hw1] at hb he
  rw [hg] at hb
  have HE := hide he
  have HMD := hide (show Calls Tryz.prog 9 #[.agg #[.int .i64 3, .int .i64 inn, .slice none 0 0, .slice Asd side.length csd, .slice none 0 0, .int .i64 100]] w1 fun e w' => MadeN (meS inn side) w1 w' e from made_any (s := meS inn side) (L := meL Asd csd) ((me_spec inn csd hsd hsl).ext he))
  have HO := hide (ho.ext ROp.stab he); have HOR := hide hor; have HOW := hide howf; have HSD := hide (hsd.ext he)
  have b0 : w1.cell? ⟨g, 0, none⟩ = some (.int .i64 3) := hb.cell 0
  have b1 : w1.cell? ⟨g, 1, none⟩ = some (.int .i64 inn) := hb.cell 1
  have b2 : w1.cell? ⟨g, 2, none⟩ = some (.slice none 0 0) := hb.cell 2
  have b3 : w1.cell? ⟨g, 3, none⟩ = some (.slice Asd side.length csd) := hb.cell 3
  have b4 : w1.cell? ⟨g, 4, none⟩ = some (.slice none 0 0) := hb.cell 4
  have b5 : w1.cell? ⟨g, 5, none⟩ = some (.int .i64 100) := hb.cell 5
  have HG := hide hg
  clear ho hor howf hb he hsd hw1 hg
  go_enter Tryz.func4, Tryz.ntmps4
  go_upto_region 2 with fail
  rw [HG.out, HW1.out]
  clear HW1 HG
  go_wp2_with fail
  refine HMD.out.mono ?_
  rintro e w2 h2
  clear b0 b1 b2 b3 b4 b5 HMD
  rcases h2.np with ⟨-, rfl, x2⟩ | ⟨hgd, n, d, lv, b, rfl, h2, -, -⟩
  · have X2 := hide x2
    clear x2
    go_wp2_with fail
    refine (awake_nd _).mono ?_
    rintro e w3 ⟨rfl, x3⟩
    have X3 := hide x3
    clear x3
    go_wp2_with fail
    go_ret
    exact ⟨rfl, HE.out.trans (X2.out.trans X3.out)⟩
  · have hF := good_facts hgd
    obtain ⟨K, hK⟩ : ∃ K, nkOf (meS inn side) = K := ⟨_, rfl⟩
    have HK3 := hide (show K.kind = 3 from by rw [← hK]; rfl)
    have HKS := hide (show K.side.map Int.ofNat = side from by rw [← hK]; exact cast_side hF)
    rw [hK] at h2
    have N2 := hide (show MeI w1 n lv K emptyN 262144 (fun _ => False) none 0 none 0 w2 from ⟨h2.mono (Q := fun _ => False) fun b hb => hb.elim, ⟨rfl, [], OwnH.nil _ _ _ _, .nil⟩, ⟨rfl, [], OwnH.nil _ _ _ _, .nil⟩, fun b hb => hb.elim⟩)
    clear h2 hgd hF hK
    go_wp2_with fail
    go_loopw [11, 12, 14, 15, 16, 17, 18, 46] (fun s11 s12 _ _ _ _ _ s46 w' => ∃ (i : Nat) (a : NAbs) (N : Nat) (P : Nat → Prop) (no ns : Nat) (A1 : Option Addr) (c1 : Nat) (A2 : Option Addr) (c2 : Nat), i ≤ l ∧ s46 = .int .i64 i ∧ s11 = .slice A1 no c1 ∧ s12 = .slice A2 ns c2 ∧ Hid (a.now.ons.length = no ∧ a.now.sides.length = ns) ∧ Hid (MeI w1 n lv K a N P A1 c1 A2 c2 w') ∧ Hid (a.old = none ∧ N ≤ 262144 + 1048576 * i)) (fun _ _ _ _ _ _ _ s46 _ => l - (intOf s46).toNat)
    case atStart => exact ⟨0, _, _, _, 0, 0, _, _, _, _, by omega, rfl, rfl, rfl, ⟨rfl, rfl⟩, N2, rfl, by omega⟩
    case round =>
      clear N2
      obtain ⟨i, a, N, P, no, ns, A1, c1, A2, c2, hil, rfl, rfl, rfl, hLN, hM, hS⟩ := hrel
      by_cases hi : i < l
      · have hi2 : (i : Int) < (l : Int) := by omega
        obtain ⟨ob, off, oo, A9, c9, rfl, hoi, hobl, k0, k1, k2, hrow⟩ := HO.out.op hi
        have hom := List.mem_of_getElem? hoi
        have HARG := hide (show ArgR w1 A9 oo.row.length oo.row from ⟨hrow, (HOR.out oo hom).1, (HOR.out oo hom).2, HOW.out oo hom⟩)
        have k0 := hM.out.np.ext0.cell k0; have k1 := hM.out.np.ext0.cell k1; have k2 := hM.out.np.ext0.cell k2
        obtain ⟨kd, hkd⟩ : ∃ kd, oo.kind = kd := ⟨_, rfl⟩
        obtain ⟨fr, hfr⟩ : ∃ fr, oo.k = fr := ⟨_, rfl⟩
        obtain ⟨rw_, hrw⟩ : ∃ rw_, oo.row = rw_ := ⟨_, rfl⟩
        obtain ⟨m9, hm9⟩ : ∃ m9, rw_.length = m9 := ⟨_, rfl⟩
        rw [hkd] at k0
        rw [hfr] at k1
        rw [hrw, hm9] at k2 HARG
        obtain ⟨gb, hgb⟩ : ∃ gb, wr.heap.size = gb := ⟨_, rfl⟩
        obtain ⟨wA, hwA⟩ : ∃ wA, wr.alloc (.cells #[.int .i64 kd, .int .i64 fr, .slice A9 m9 c9] 30) = wA := ⟨_, rfl⟩
        have hbA := Blk.new wr 30 #[.int .i64 kd, .int .i64 fr, .slice A9 m9 c9]
        have heA := Ext.alloc wr (.cells #[.int .i64 kd, .int .i64 fr, .slice A9 m9 c9] 30)
        have HSZ := hide (show (wr.alloc (.cells #[.int .i64 kd, .int .i64 fr, .slice A9 m9 c9] 30)).heap.size = gb + 1 from by simp; omega)
        rw [hwA] at hbA heA HSZ
        rw [hgb] at hbA
        have HWA := hide hwA; have HGB := hide hgb; have HBA := hide hbA
        have HMA := hide (hM.out.ext heA)
        have HPA := hide (show And' P wr.heap.size wA.heap.size gb from .inr ⟨by omega, by have := HSZ.out; omega⟩)
        have HTN := hide (turn_any HMA.out.np (by have := hS.out.2; omega) kd fr c9 HARG.out)
        have HOL := hide (hM.out.np.now.onsLen hM.out.np.ok)
        clear hom hrow hoi hkd hfr hrw hm9 hobl hM hwA hgb hbA heA
        by_cases hkk : ¬ kd = 1 ∧ ¬ kd = 2
        · have hb1 : (kd != 1) = true := by simpa using hkk.1
          have hb2 : (kd != 2) = true := by simpa using hkk.2
          go_upto_region 9 with fail
          rw [HGB.out, HWA.out]
          have d0 : wA.cell? ⟨gb, 0, none⟩ = some (.int .i64 kd) := HBA.out.cell 0
          clear HWA HGB HTN k0 k1 k2 hkk
          go_wp2_with fail
          refine ⟨⟨i + 1, _, _, _, _, _, _, _, _, _, by omega, by go_num, rfl, rfl, hLN, HMA, hS.out.1, by have := hS.out.2; omega⟩, by simp [intOf]; omega⟩
        · by_cases hk1 : kd = 1
          · subst hk1
            go_upto_region 9 with fail
            rw [HGB.out, HWA.out]
            have d0 : wA.cell? ⟨gb, 0, none⟩ = some (.int .i64 1) := HBA.out.cell 0
            have d1 : wA.cell? ⟨gb, 1, none⟩ = some (.int .i64 fr) := HBA.out.cell 1
            have d2 : wA.cell? ⟨gb, 2, none⟩ = some (.slice A9 m9 c9) := HBA.out.cell 2
            clear HWA HGB k0 k1 k2 hkk
            rw [show decide ((1 : Int) = 1) = true from rfl] at HTN
            have htf := @turn_fail K a.now true fr rw_
            have hts : (turnN K a.now true fr rw_).2.2.2 = 0 → (fr = 2 → (turnN K a.now true fr rw_).1.ons = a.now.ons ∧  (turnN K a.now true fr rw_).1.sides = newL true a.now.sides rw_) ∧ (¬ fr = 2 → (turnN K a.now true fr rw_).1.sides = a.now.sides ∧  (turnN K a.now true fr rw_).1.ons = newL true a.now.ons rw_) := fun hz => ⟨fun hf => by
              subst hf
              obtain ⟨q1, q2, q3⟩ := meet_side HK3.out hz
              exact ⟨q1, q2 rfl⟩, fun hf => by
              obtain ⟨q1, q2, q3⟩ := meet_source HK3.out hf hz
              exact ⟨q1, q2 rfl⟩⟩
            generalize turnN K a.now true fr rw_ = t at HTN htf hts
            obtain ⟨s1, F, U, z⟩ := t
            have HTF := hide htf; have HTS := hide hts
            clear htf hts
            go_wp2_with fail
            refine HTN.out.mono ?_
            rintro e w5 ⟨y, Q5, rfl, h5, k5, pq5, qp5, m5⟩
            obtain ⟨Ay, ny, cy, Az, nz, cz, rfl⟩ := m5.two
            have hb5 := k5.blk HBA.out fun hn => hn HPA.out
            have HM5 := hide ((⟨h5, HMA.out.ons.keep k5 pq5, HMA.out.sides.keep k5 pq5, fun b hb => (qp5 b hb).elim (HMA.out.new b) fun h1 => by have := HMA.out.np.size0; omega⟩ : NP w1 w5 n lv K { a with now := s1 } (N + 1048576) Q5 ∧ Told w5 Q5 A1 a.now.ons.length c1 a.now.ons ∧ Told w5 Q5 A2 a.now.sides.length c2 a.now.sides ∧ ∀ b, Q5 b → w1.heap.size ≤ b))
            have e5 := Ext.alloc w5 (.cells #[.slice Ay ny cy, .slice Az nz cz] 38)
            have HB6 := hide (hb5.ext e5); have E6 := hide e5; have HPG := hide (pq5 _ HPA.out)
            clear h5 k5 pq5 qp5 m5 hb5 e5 HTN HMA HBA HPA d0 d1 d2
            go_upto_region 11 with fail
            generalize w5.alloc (.cells #[.slice Ay ny cy, .slice Az nz cz] 38) = w6 at *
            have HM6 := hide ((⟨HM5.out.1.ext E6.out, HM5.out.2.1.ext E6.out fun b hb => .inl hb, HM5.out.2.2.1.ext E6.out fun b hb => .inl hb, fun b hb => hb.elim (HM5.out.2.2.2 b) fun h1 => by have := HM5.out.1.size0; omega⟩ : NP w1 w6 n lv K { a with now := s1 } (N + 1048576) (And' Q5 w5.heap.size w6.heap.size) ∧ Told w6 (And' Q5 w5.heap.size w6.heap.size) A1 a.now.ons.length c1 a.now.ons ∧ Told w6 (And' Q5 w5.heap.size w6.heap.size) A2 a.now.sides.length c2 a.now.sides ∧ ∀ b, And' Q5 w5.heap.size w6.heap.size b → w1.heap.size ≤ b))
            have HPG := hide (show And' Q5 w5.heap.size w6.heap.size gb from .inl HPG.out)
            clear HM5 E6
            generalize And' Q5 w5.heap.size w6.heap.size = P6 at *
            have d0 : w6.cell? ⟨gb, 0, none⟩ = some (.int .i64 1) := HB6.out.cell 0
            have d1 : w6.cell? ⟨gb, 1, none⟩ = some (.int .i64 fr) := HB6.out.cell 1
            have d2 : w6.cell? ⟨gb, 2, none⟩ = some (.slice A9 m9 c9) := HB6.out.cell 2
            by_cases hz : ¬ z = 0
            · have hz2 : (z != 0) = true := by simpa using hz
              obtain ⟨rfl, -, -⟩ := HTF.out hz
              clear HTS HTF hz
              go_wp2_with fail
              refine ⟨⟨i + 1, _, _, _, _, _, _, _, _, _, by omega, by go_num, rfl, rfl, hLN, ⟨HM6.out.1, HM6.out.2.1, HM6.out.2.2.1, HM6.out.2.2.2⟩, hS.out.1, by have := hS.out.2; omega⟩, by simp [intOf]; omega⟩
            · obtain rfl : z = 0 := by simpa using hz
              have hts := HTS.out rfl
              have hok1 := HM6.out.1.now.onsLen HM6.out.1.ok
              dsimp only at hts hok1
              clear hz HTF HTS
              by_cases hf2 : fr = 2
              case' pos =>
                obtain ⟨q1, q3⟩ := hts.1 hf2
                have hfb : (fr == 2) = true := by simpa using hf2
                obtain ⟨Al, hAl⟩ : ∃ Al, Al = A2 := ⟨_, rfl⟩
                obtain ⟨cl, hcl⟩ : ∃ cl, cl = c2 := ⟨_, rfl⟩
                obtain ⟨nl, hnl⟩ : ∃ nl, nl = ns := ⟨_, rfl⟩
                obtain ⟨rl, hrl⟩ : ∃ rl, a.now.sides = rl := ⟨_, rfl⟩
                subst hAl; subst hcl; subst hnl
                rw [hrl] at HM6 q3 hLN
                have HTL := hide HM6.out.2.2.1
                have HRL := hide (show (newL true rl rw_).length ≤ 65536 ∧ ∀ r ∈ newL true rl rw_, r.length ≤ 30 from by rw [← q3]; exact hok1.2.2)
                have HEND := hide (show ∀ (w' : World) (Q : Nat → Prop) (A' : Option Addr) (c' : Nat), NP w1 w' n lv K { a with now := s1 } (N + 1048576) Q → Keeps P6 w6 w' → (∀ b, P6 b → Q b) → (∀ b, Q b → w1.heap.size ≤ b) → Told w' Q A' (newL true rl rw_).length c' (newL true rl rw_) → MeI w1 n lv K { a with now := s1 } (N + 1048576) Q A1 c1 A' c' w' ∧ s1.ons.length = no ∧ s1.sides.length = (newL true rl rw_).length from fun w' Q A' c' h1 h2 h3 h4 h5 => ⟨⟨h1, by dsimp only; rw [q1]; exact HM6.out.2.1.keep h2 h3, by dsimp only; rw [q3]; exact h5, h4⟩, by rw [q1]; exact hLN.out.1, by rw [q3]⟩)
                have HLL := hide (show rl.length = nl from by rw [← hLN.out.2])
                have HLB := hide (show nl ≤ 65536 ∧ ∀ r ∈ rl, r.length ≤ 30 from by have h1 := HOL.out.2.2; rw [hrl, HLL.out] at h1; exact h1)
              case' neg =>
                obtain ⟨q1, q3⟩ := hts.2 hf2
                have hfb : (fr == 2) = false := by simpa using hf2
                obtain ⟨Al, hAl⟩ : ∃ Al, Al = A1 := ⟨_, rfl⟩
                obtain ⟨cl, hcl⟩ : ∃ cl, cl = c1 := ⟨_, rfl⟩
                obtain ⟨nl, hnl⟩ : ∃ nl, nl = no := ⟨_, rfl⟩
                obtain ⟨rl, hrl⟩ : ∃ rl, a.now.ons = rl := ⟨_, rfl⟩
                subst hAl; subst hcl; subst hnl
                rw [hrl] at HM6 q3 hLN
                have HTL := hide HM6.out.2.1
                have HRL := hide (show (newL true rl rw_).length ≤ 65536 ∧ ∀ r ∈ newL true rl rw_, r.length ≤ 30 from by rw [← q3]; exact ⟨hok1.1, hok1.2.1⟩)
                have HEND := hide (show ∀ (w' : World) (Q : Nat → Prop) (A' : Option Addr) (c' : Nat), NP w1 w' n lv K { a with now := s1 } (N + 1048576) Q → Keeps P6 w6 w' → (∀ b, P6 b → Q b) → (∀ b, Q b → w1.heap.size ≤ b) → Told w' Q A' (newL true rl rw_).length c' (newL true rl rw_) → MeI w1 n lv K { a with now := s1 } (N + 1048576) Q A' c' A2 c2 w' ∧ s1.ons.length = (newL true rl rw_).length ∧ s1.sides.length = ns from fun w' Q A' c' h1 h2 h3 h4 h5 => ⟨⟨h1, by dsimp only; rw [q3]; exact h5, by dsimp only; rw [q1]; exact HM6.out.2.2.1.keep h2 h3, h4⟩, by rw [q3], by rw [q1]; exact hLN.out.2⟩)
                have HLL := hide (show rl.length = nl from by rw [← hLN.out.1])
                have HLB := hide (show nl ≤ 65536 ∧ ∀ r ∈ rl, r.length ≤ 30 from by have h1 := HOL.out; rw [hrl, HLL.out] at h1; exact ⟨h1.1, h1.2.1⟩)
              all_goals (
                have HN6 := hide HM6.out.1; have HNEW := hide HM6.out.2.2.2
                skip
                clear hts hok1 q1 q3 hrl HM6
                rw [HLL.out] at HTL
                go_upto_region 16 with fail
                obtain ⟨i0, hi0, hz0, hz1, hz2⟩ := info_parts infoRw
                refine wp_region_ord [(0, true), (2, true), (3, true), (1, false), (4, false), (5, false), (6, false), (7, true)] (fun w' => w'.cell? ⟨gb, 2, none⟩ = some (.slice A9 m9 c9)) (by kernel_rfl) (by kernel_rfl) (fun _ _ _ _ _ h => h) ?_ ?_
                · exact fun w' hw' => (HB6.out.ext hw').cell 2
                intro wq hwq
                have HWQ := hide hwq
                have hca := (copy_all rl Al nl cl wq (HTL.out.ext hwq (Q := P6) fun _ h => h).lat (by have := HLB.out.1; omega) (fun r hr => by have := HLB.out.2 r hr; omega)).mono fun e w' hh => told_copy hh
                rw [HLL.out] at hca
                have HCA := hide hca
                clear hca hwq
                unfold wpO
                refine ⟨_, rfl, ?_⟩
                apply Exists.intro
                refine ⟨.inl ⟨by rfl, fun w9 h9 => ?_⟩, fun K hK => ?_⟩
                · go_simp; first | done | rfl
                go_simp; refine hK _ ?_; clear hK K
                unfold wpO
                refine ⟨_, rfl, ?_⟩
                apply Exists.intro
                refine ⟨.inl ⟨by rfl, fun w9 h9 => ?_⟩, fun K hK => ?_⟩
                · go_simp; first | done | rfl
                go_simp; refine hK _ ?_; clear hK K
                unfold wpO
                refine ⟨_, rfl, ?_⟩
                apply Exists.intro
                refine ⟨.inl ⟨by rfl, fun w9 h9 => ?_⟩, fun K hK => ?_⟩
                · go_simp; first | done | rfl
                go_simp; refine hK _ ?_; clear hK K
                unfold wpO
                refine ⟨_, rfl, ?_⟩
                go_wp2_with ((with_reducible refine HCA.out.mono ?_); rintro e w8 ⟨A8, c8, xs8, rfl, x8, own8, els8⟩; have X8 := hide x8; have OWN8 := hide own8; have ELS8 := hide els8; clear x8 own8 els8)
                simp only [exL]
                refine ⟨(HB6.out.ext (HWQ.out.trans X8.out)).cell 2, ?_⟩
                have HCP := hide (copy_any rw_ A9 m9 c9 w8 (HARG.out.ext (HN6.out.ext0.trans (HWQ.out.trans X8.out))).at_ (by have := HARG.out.len; omega))
                unfold wpO
                refine ⟨_, rfl, ?_⟩
                go_wp2_with ((with_reducible refine HCP.out.mono ?_); rintro e w9 ⟨A10, c10, rfl, o10, x10⟩; have X9 := hide x10; have O9 := hide (ArgR.rb o10); clear x10 o10)
                simp only [exL]
                refine ⟨(HB6.out.ext ((HWQ.out.trans X8.out).trans X9.out)).cell 2, ?_⟩
                have E10 := hide (Ext.alloc w9 (.cells #[.slice A10 m9 c10] 28))
                have SL10 := hide ((Blk.new w9 28 #[.slice A10 m9 c10]).sl (n := 1) (size := 1) rfl)
                unfold wpO
                refine ⟨_, rfl, ?_⟩
                go_wp2_with fail
                simp only [exL]
                refine ⟨(HB6.out.ext (((HWQ.out.trans X8.out).trans X9.out).trans E10.out)).cell 2, ?_⟩
                generalize w9.alloc (.cells #[.slice A10 m9 c10] 28) = w10 at *
                have OWN10 := hide (OWN8.out.ext (X9.out.trans E10.out))
                have ELS10 := hide (ELS8.out.mono (R' := RB (And' P6 w6.heap.size w10.heap.size)) (w' := w10) fun cs r hx => by
                  obtain ⟨A, n, c, e, ho⟩ := hx
                  exact ⟨A, n, c, e, (ho.ext (X9.out.trans E10.out)).mono fun b hb => .inr ⟨by have := HWQ.out.size; omega, by have := X9.out.size; have := E10.out.size; omega⟩⟩)
                have RB10 := hide (els_single (show RB (And' P6 w6.heap.size w10.heap.size) w10 [.slice A10 m9 c10] rw_ from by
                  obtain ⟨A, n, c, e, ho⟩ := O9.out
                  exact ⟨A, n, c, e, (ho.ext E10.out).mono fun b hb => .inr ⟨by have := HWQ.out.size; have := X8.out.size; omega, by have := E10.out.size; omega⟩⟩))
                have HX9 := hide ((HWQ.out.trans X8.out).trans X9.out)
                have HONE := hide RB10.out.one
                have hlb := HLB.out.1
                clear HCA HCP OWN8 ELS8 O9
                unfold wpO
                refine ⟨_, rfl, ?_⟩
                refine wpList_append_b rfl (.tmp 75) (.tmp 79) _ rfl _ 28 i0 _ 1 24 Tryz.underlying36 hi0 hz0 hz1 hz2 rfl (by omega) (.slice A8 nl c8) nl xs8 rfl OWN10.out _ 1 1 _ rfl SL10.out HONE.out (by unfold maxLen; omega) (by omega) ?_
                intro A11 c11 w12 own11 G11 C11
                go_wp2_with fail
                simp only [exL]
                refine ⟨(C11.out.blk (HB6.out.ext (HX9.out.trans E10.out)) (fun hn => by have := HB6.out.lt; have := HWQ.out.size; omega)).cell 2, ?_⟩
                unfold wpO
                refine ⟨_, rfl, ?_⟩
                apply Exists.intro
                refine ⟨.inl ⟨by rfl, fun w9 h9 => ?_⟩, fun K hK => ?_⟩
                · go_simp; first | done | rfl
                go_simp; refine hK _ ?_; clear hK K
                unfold wpO
                have x610 := HX9.out.trans E10.out
                have hP10 : ∀ b, (wq.heap.size ≤ b ∧ b < w8.heap.size) → And' P6 w6.heap.size w10.heap.size b := fun b hb => .inr ⟨by have := HWQ.out.size; omega, by have := X9.out.size; have := E10.out.size; omega⟩
                have N12 := hide ((HN6.out.ext x610).chgP C11.out hP10 (fun b hb => by have := HN6.out.size0; have := HWQ.out.size; omega))
                have K12 := hide (show Keeps P6 w6 w12 from (Chg.of x610).trans (C := fun b => ¬ P6 b) (C11.out.mono fun b hb _ hp => by have := HN6.out.lt b hp; have := HWQ.out.size; omega) fun b hb _ => hb)
                have HN12 := hide (show ∀ b, And' (And' P6 w6.heap.size w10.heap.size) w10.heap.size w12.heap.size b → w1.heap.size ≤ b from fun b hb => by
                  have h0 := HN6.out.size0; have h1 := x610.size
                  rcases hb with (hb | hb) | hb
                  · exact HNEW.out b hb
                  · omega
                  · omega)
                have T12 := hide (show Told w12 (And' (And' P6 w6.heap.size w10.heap.size) w10.heap.size w12.heap.size) A11 (newL true rl rw_).length c11 (newL true rl rw_) from by
                  have ht := Told.app OWN10.out ELS10.out RB10.out own11.out G11.out hP10
                  have e : (newL true rl rw_).length = nl + 1 := by unfold newL; rw [if_pos rfl, List.length_append, HLL.out]; rfl
                  rw [e]; exact ht)
                have HNL := hide (show (newL true rl rw_).length = nl + 1 from by unfold newL; rw [if_pos rfl, List.length_append, HLL.out]; rfl)
                clear x610 hP10 own11 G11 C11 OWN10 ELS10 RB10 SL10 HX9 E10 X8 X9
                have hb12 := K12.out.blk HB6.out fun hn => hn HPG.out
                have f1 : w12.cell? ⟨gb, 1, none⟩ = some (.int .i64 fr) := hb12.cell 1
                obtain ⟨m12, l12⟩ := HEND.out w12 _ A11 c11 N12.out K12.out (fun b hb => .inl (.inl hb)) HN12.out T12.out
                have M12 := hide m12; have L12 := hide l12
                clear hb12 m12 l12 N12 K12 HN12 T12 HEND
                go_wp2_with fail
                refine ⟨⟨i + 1, _, _, _, _, _, _, _, _, _, by omega, by go_num, rfl, rfl, ⟨L12.out.1.trans (by first | rfl | exact HNL.out), L12.out.2.trans (by first | rfl | exact HNL.out)⟩, M12, hS.out.1, by have := hS.out.2; omega⟩, by simp [intOf]; omega⟩)
          · obtain rfl : kd = 2 := by omega
            go_upto_region 9 with fail
            rw [HGB.out, HWA.out]
            have d0 : wA.cell? ⟨gb, 0, none⟩ = some (.int .i64 2) := HBA.out.cell 0
            have d1 : wA.cell? ⟨gb, 1, none⟩ = some (.int .i64 fr) := HBA.out.cell 1
            have d2 : wA.cell? ⟨gb, 2, none⟩ = some (.slice A9 m9 c9) := HBA.out.cell 2
            clear HWA HGB k0 k1 k2 hkk
            rw [show decide ((2 : Int) = 1) = false from rfl] at HTN
            have htf := @turn_fail K a.now false fr rw_
            have hts : (turnN K a.now false fr rw_).2.2.2 = 0 → (fr = 2 → (turnN K a.now false fr rw_).1.ons = a.now.ons ∧ rw_ ∈ a.now.sides ∧ (turnN K a.now false fr rw_).1.sides = newL false a.now.sides rw_) ∧ (¬ fr = 2 → (turnN K a.now false fr rw_).1.sides = a.now.sides ∧ rw_ ∈ a.now.ons ∧ (turnN K a.now false fr rw_).1.ons = newL false a.now.ons rw_) := fun hz => ⟨fun hf => by
              subst hf
              obtain ⟨q1, q2, q3⟩ := meet_side HK3.out hz
              exact ⟨q1, q3 rfl⟩, fun hf => by
              obtain ⟨q1, q2, q3⟩ := meet_source HK3.out hf hz
              exact ⟨q1, q3 rfl⟩⟩
            generalize turnN K a.now false fr rw_ = t at HTN htf hts
            obtain ⟨s1, F, U, z⟩ := t
            have HTF := hide htf; have HTS := hide hts
            clear htf hts
            go_wp2_with fail
            refine HTN.out.mono ?_
            rintro e w5 ⟨y, Q5, rfl, h5, k5, pq5, qp5, m5⟩
            obtain ⟨Ay, ny, cy, Az, nz, cz, rfl⟩ := m5.two
            have hb5 := k5.blk HBA.out fun hn => hn HPA.out
            have HM5 := hide ((⟨h5, HMA.out.ons.keep k5 pq5, HMA.out.sides.keep k5 pq5, fun b hb => (qp5 b hb).elim (HMA.out.new b) fun h1 => by have := HMA.out.np.size0; omega⟩ : NP w1 w5 n lv K { a with now := s1 } (N + 1048576) Q5 ∧ Told w5 Q5 A1 a.now.ons.length c1 a.now.ons ∧ Told w5 Q5 A2 a.now.sides.length c2 a.now.sides ∧ ∀ b, Q5 b → w1.heap.size ≤ b))
            have e5 := Ext.alloc w5 (.cells #[.slice Ay ny cy, .slice Az nz cz] 38)
            have HB6 := hide (hb5.ext e5); have E6 := hide e5; have HPG := hide (pq5 _ HPA.out)
            clear h5 k5 pq5 qp5 m5 hb5 e5 HTN HMA HBA HPA d0 d1 d2
            go_upto_region 11 with fail
            generalize w5.alloc (.cells #[.slice Ay ny cy, .slice Az nz cz] 38) = w6 at *
            have HM6 := hide ((⟨HM5.out.1.ext E6.out, HM5.out.2.1.ext E6.out fun b hb => .inl hb, HM5.out.2.2.1.ext E6.out fun b hb => .inl hb, fun b hb => hb.elim (HM5.out.2.2.2 b) fun h1 => by have := HM5.out.1.size0; omega⟩ : NP w1 w6 n lv K { a with now := s1 } (N + 1048576) (And' Q5 w5.heap.size w6.heap.size) ∧ Told w6 (And' Q5 w5.heap.size w6.heap.size) A1 a.now.ons.length c1 a.now.ons ∧ Told w6 (And' Q5 w5.heap.size w6.heap.size) A2 a.now.sides.length c2 a.now.sides ∧ ∀ b, And' Q5 w5.heap.size w6.heap.size b → w1.heap.size ≤ b))
            have HPG := hide (show And' Q5 w5.heap.size w6.heap.size gb from .inl HPG.out)
            clear HM5 E6
            generalize And' Q5 w5.heap.size w6.heap.size = P6 at *
            have d0 : w6.cell? ⟨gb, 0, none⟩ = some (.int .i64 2) := HB6.out.cell 0
            have d1 : w6.cell? ⟨gb, 1, none⟩ = some (.int .i64 fr) := HB6.out.cell 1
            have d2 : w6.cell? ⟨gb, 2, none⟩ = some (.slice A9 m9 c9) := HB6.out.cell 2
            by_cases hz : ¬ z = 0
            · have hz2 : (z != 0) = true := by simpa using hz
              obtain ⟨rfl, -, -⟩ := HTF.out hz
              clear HTS HTF hz
              go_wp2_with fail
              refine ⟨⟨i + 1, _, _, _, _, _, _, _, _, _, by omega, by go_num, rfl, rfl, hLN, ⟨HM6.out.1, HM6.out.2.1, HM6.out.2.2.1, HM6.out.2.2.2⟩, hS.out.1, by have := hS.out.2; omega⟩, by simp [intOf]; omega⟩
            · obtain rfl : z = 0 := by simpa using hz
              have hts := HTS.out rfl
              have hok1 := HM6.out.1.now.onsLen HM6.out.1.ok
              dsimp only at hts hok1
              clear hz HTF HTS
              by_cases hf2 : fr = 2
              case' pos =>
                obtain ⟨q1, q2, q3⟩ := hts.1 hf2
                have hfb : (fr == 2) = true := by simpa using hf2
                obtain ⟨Al, hAl⟩ : ∃ Al, Al = A2 := ⟨_, rfl⟩
                obtain ⟨cl, hcl⟩ : ∃ cl, cl = c2 := ⟨_, rfl⟩
                obtain ⟨nl, hnl⟩ : ∃ nl, nl = ns := ⟨_, rfl⟩
                obtain ⟨rl, hrl⟩ : ∃ rl, a.now.sides = rl := ⟨_, rfl⟩
                subst hAl; subst hcl; subst hnl
                rw [hrl] at HM6 q3 hLN q2
                have HTL := hide HM6.out.2.2.1
                have HRL := hide (show (newL false rl rw_).length ≤ 65536 ∧ ∀ r ∈ newL false rl rw_, r.length ≤ 30 from by rw [← q3]; exact hok1.2.2)
                have HEND := hide (show ∀ (w' : World) (Q : Nat → Prop) (A' : Option Addr) (c' : Nat), NP w1 w' n lv K { a with now := s1 } (N + 1048576) Q → Keeps P6 w6 w' → (∀ b, P6 b → Q b) → (∀ b, Q b → w1.heap.size ≤ b) → Told w' Q A' (newL false rl rw_).length c' (newL false rl rw_) → MeI w1 n lv K { a with now := s1 } (N + 1048576) Q A1 c1 A' c' w' ∧ s1.ons.length = no ∧ s1.sides.length = (newL false rl rw_).length from fun w' Q A' c' h1 h2 h3 h4 h5 => ⟨⟨h1, by dsimp only; rw [q1]; exact HM6.out.2.1.keep h2 h3, by dsimp only; rw [q3]; exact h5, h4⟩, by rw [q1]; exact hLN.out.1, by rw [q3]⟩)
                have HLL := hide (show rl.length = nl from by rw [← hLN.out.2])
                have HLB := hide (show nl ≤ 65536 ∧ ∀ r ∈ rl, r.length ≤ 30 from by have h1 := HOL.out.2.2; rw [hrl, HLL.out] at h1; exact h1)
              case' neg =>
                obtain ⟨q1, q2, q3⟩ := hts.2 hf2
                have hfb : (fr == 2) = false := by simpa using hf2
                obtain ⟨Al, hAl⟩ : ∃ Al, Al = A1 := ⟨_, rfl⟩
                obtain ⟨cl, hcl⟩ : ∃ cl, cl = c1 := ⟨_, rfl⟩
                obtain ⟨nl, hnl⟩ : ∃ nl, nl = no := ⟨_, rfl⟩
                obtain ⟨rl, hrl⟩ : ∃ rl, a.now.ons = rl := ⟨_, rfl⟩
                subst hAl; subst hcl; subst hnl
                rw [hrl] at HM6 q3 hLN q2
                have HTL := hide HM6.out.2.1
                have HRL := hide (show (newL false rl rw_).length ≤ 65536 ∧ ∀ r ∈ newL false rl rw_, r.length ≤ 30 from by rw [← q3]; exact ⟨hok1.1, hok1.2.1⟩)
                have HEND := hide (show ∀ (w' : World) (Q : Nat → Prop) (A' : Option Addr) (c' : Nat), NP w1 w' n lv K { a with now := s1 } (N + 1048576) Q → Keeps P6 w6 w' → (∀ b, P6 b → Q b) → (∀ b, Q b → w1.heap.size ≤ b) → Told w' Q A' (newL false rl rw_).length c' (newL false rl rw_) → MeI w1 n lv K { a with now := s1 } (N + 1048576) Q A' c' A2 c2 w' ∧ s1.ons.length = (newL false rl rw_).length ∧ s1.sides.length = ns from fun w' Q A' c' h1 h2 h3 h4 h5 => ⟨⟨h1, by dsimp only; rw [q3]; exact h5, by dsimp only; rw [q1]; exact HM6.out.2.2.1.keep h2 h3, h4⟩, by rw [q3], by rw [q1]; exact hLN.out.2⟩)
                have HLL := hide (show rl.length = nl from by rw [← hLN.out.1])
                have HLB := hide (show nl ≤ 65536 ∧ ∀ r ∈ rl, r.length ≤ 30 from by have h1 := HOL.out; rw [hrl, HLL.out] at h1; exact ⟨h1.1, h1.2.1⟩)
              all_goals (
                have HN6 := hide HM6.out.1; have HNEW := hide HM6.out.2.2.2
                have HQ2 := hide q2; clear q2
                clear hts hok1 q1 q3 hrl HM6
                rw [HLL.out] at HTL
                obtain ⟨p, hp1, hp2, hp3⟩ := plcR_del rw_ rl 0 ((plcR_iff rw_ rl 0).2 HQ2.out)
                rw [Nat.zero_add] at hp1
                have hpl := place_rows rl rw_ Al A9 nl m9 cl c9 w6 HTL.out.lat (HARG.out.ext HN6.out.ext0).at_ (by have := HLB.out.1; omega) (fun r hr => by have := HLB.out.2 r hr; omega)
                rw [hp1] at hpl
                rw [HLL.out] at hp2
                have HPL := hide hpl; have HDEL := hide hp3
                have hp0 : ¬ (p : Int) < 0 := by omega
                clear hp1 hp3 hpl
                go_upto_region 20 with ((with_reducible refine HPL.out.mono ?_); rintro e w7 ⟨rfl, x7⟩; have X7 := hide x7; clear x7)
                obtain ⟨xs7, own7, els7⟩ := rows_cells (HTL.out.ext X7.out (Q := P6) fun _ h => h)
                obtain ⟨gl, rfl, -, -, -, -⟩ := own7.at_ (by omega)
                obtain ⟨hcap, hcap2⟩ := own7.cap
                have hlat : LAt (RB P6) 1 w7 (some ⟨gl, 0, none⟩) nl rl := LAt.rb (HTL.out.ext X7.out (Q := P6) fun _ h => h)
                obtain ⟨hld, cells2, hx2, hs2⟩ := hlat.drop (p + 1) (by omega)
                rw [Nat.mul_one, Nat.zero_add] at hs2
                have HLTK := hide ((HTL.out.ext X7.out (Q := P6) fun _ h => h).lat.take p (by omega))
                obtain ⟨p1, hpp⟩ : ∃ p1, p + 1 = p1 := ⟨_, rfl⟩
                obtain ⟨Al2, hA2⟩ : ∃ Al2, (if cl = p1 then some (⟨gl, 0, none⟩ : Addr) else some ⟨gl, p1, none⟩) = Al2 := ⟨_, rfl⟩
                rw [hpp] at hs2
                have hs2 : Sl w7 Al2 (nl - p1) 1 cells2 := by
                  rw [← hA2]
                  split
                  · exact ⟨hs2.1, fun h => absurd h (by omega)⟩
                  · exact hs2
                have hpw : IntKind.i64.wrap ((p : Int) + 1) = (p1 : Int) := by rw [IntWalk.i64_in _ (by have := HLB.out.1; omega)]; omega
                have hp1n : (p1 : Int) ≤ (nl : Int) := by omega
                have hpcl : p ≤ cl := by omega
                have HPP := hide hpp
                clear hpp
                have HS2 := hide hs2; have HX2 := hide hx2; have HONE := hide hx2.one
                obtain ⟨i0, hi0, hz0, hz1, hz2⟩ := info_parts infoRw
                have hlb := HLB.out.1
                clear own7 els7 hlat hld hx2 hs2 HPL
                refine wp_region_ord [(0, true), (1, true), (2, true), (4, true), (5, true), (6, true), (7, true), (3, false), (8, false), (9, true)] (fun _ => True) (by kernel_rfl) (by kernel_rfl) (fun _ _ _ _ _ h => h) ?_ ?_
                · exact fun _ _ => trivial
                intro wq hwq
                have HWQ := hide (X7.out.trans hwq)
                have HQ7 := hide hwq
                have hca := (copy_all (rl.take p) (some ⟨gl, 0, none⟩) p cl wq (HLTK.out.ext RRow.stab hwq) (by omega) (fun r hr => by have := HLB.out.2 r (List.mem_of_mem_take hr); omega)).mono fun e w' hh => told_copy hh
                rw [show (rl.take p).length = p by rw [List.length_take, HLL.out]; omega] at hca
                have HCA := hide hca
                clear hca hwq
                unfold wpO
                refine ⟨_, rfl, ?_⟩
                apply Exists.intro
                refine ⟨.inl ⟨by rfl, fun w9 h9 => ?_⟩, fun K hK => ?_⟩
                · go_simp; first | done | rfl
                go_simp; refine hK _ ?_; clear hK K
                unfold wpO
                refine ⟨_, rfl, ?_⟩
                apply Exists.intro
                refine ⟨.inl ⟨by rfl, fun w9 h9 => ?_⟩, fun K hK => ?_⟩
                · go_simp; first | done | rfl
                go_simp; refine hK _ ?_; clear hK K
                unfold wpO
                refine ⟨_, rfl, ?_⟩
                apply Exists.intro
                refine ⟨.inl ⟨by rfl, fun w9 h9 => ?_⟩, fun K hK => ?_⟩
                · go_simp; first | done | rfl
                go_simp; refine hK _ ?_; clear hK K
                unfold wpO
                refine ⟨_, rfl, ?_⟩
                apply Exists.intro
                refine ⟨.inl ⟨by rfl, fun w9 h9 => ?_⟩, fun K hK => ?_⟩
                · go_simp; first | done | rfl
                go_simp; refine hK _ ?_; clear hK K
                unfold wpO
                refine ⟨_, rfl, ?_⟩
                apply Exists.intro
                refine ⟨.inl ⟨by rfl, fun w9 h9 => ?_⟩, fun K hK => ?_⟩
                · go_simp; first | done | rfl
                go_simp; refine hK _ ?_; clear hK K
                unfold wpO
                refine ⟨_, rfl, ?_⟩
                apply Exists.intro
                refine ⟨.inl ⟨by rfl, fun w9 h9 => ?_⟩, fun K hK => ?_⟩
                · go_simp; first | done | rfl
                go_simp; refine hK _ ?_; clear hK K
                unfold wpO
                refine ⟨_, rfl, ?_⟩
                apply Exists.intro
                refine ⟨.inl ⟨by rfl, fun w9 h9 => ?_⟩, fun K hK => ?_⟩
                · go_simp; first | done | rfl
                go_simp; refine hK _ ?_; clear hK K
                unfold wpO
                refine ⟨_, rfl, ?_⟩
                go_wp2_with ((with_reducible refine HCA.out.mono ?_); rintro e w8 ⟨A8, c8, xs8, rfl, x8, own8, els8⟩; have X8 := hide x8; have OWN8 := hide own8; have ELS8 := hide els8; clear x8 own8 els8)
                simp only [exL]
                refine ⟨trivial, ?_⟩
                have HS8 := hide (HS2.out.ext (HQ7.out.trans X8.out))
                have ELS10 := hide (ELS8.out.mono (R' := RB (And' P6 w6.heap.size w8.heap.size)) (w' := w8) fun cs r hx => by
                  obtain ⟨A, n, c, e, ho⟩ := hx
                  exact ⟨A, n, c, e, ho.mono fun b hb => .inr ⟨by have := HWQ.out.size; omega, by omega⟩⟩)
                have EL2 := hide (HX2.out.mono (R' := RB (And' P6 w6.heap.size w8.heap.size)) (w' := w8) fun cs r hx => by
                  obtain ⟨A, n, c, e, ho⟩ := hx
                  exact ⟨A, n, c, e, (ho.ext (HQ7.out.trans X8.out)).mono fun b hb => .inl hb⟩)
                clear HCA ELS8
                unfold wpO
                refine ⟨_, rfl, ?_⟩
                refine wpList_append_b rfl (.tmp 90) (.tmp 94) _ rfl _ 28 i0 _ 1 24 Tryz.underlying36 hi0 hz0 hz1 hz2 rfl (by omega) (.slice A8 p c8) p xs8 rfl OWN8.out _ _ _ _ rfl HS8.out HONE.out (by unfold maxLen; omega) (by omega) ?_
                intro A11 c11 w12 own11 G11 C11
                go_wp2_with fail
                simp only [exL]
                refine ⟨trivial, ?_⟩
                unfold wpO
                refine ⟨_, rfl, ?_⟩
                apply Exists.intro
                refine ⟨.inl ⟨by rfl, fun w9 h9 => ?_⟩, fun K hK => ?_⟩
                · go_simp; first | done | rfl
                go_simp; refine hK _ ?_; clear hK K
                unfold wpO
                have HX9 := hide (HWQ.out.trans X8.out)
                have E10 := hide (Ext.refl w8)
                have x610 := HX9.out.trans E10.out
                have hP10 : ∀ b, (wq.heap.size ≤ b ∧ b < w8.heap.size) → And' P6 w6.heap.size w8.heap.size b := fun b hb => .inr ⟨by have := HWQ.out.size; omega, by have := E10.out.size; have := E10.out.size; omega⟩
                have N12 := hide ((HN6.out.ext x610).chgP C11.out hP10 (fun b hb => by have := HN6.out.size0; have := HWQ.out.size; omega))
                have K12 := hide (show Keeps P6 w6 w12 from (Chg.of x610).trans (C := fun b => ¬ P6 b) (C11.out.mono fun b hb _ hp => by have := HN6.out.lt b hp; have := HWQ.out.size; omega) fun b hb _ => hb)
                have HN12 := hide (show ∀ b, And' (And' P6 w6.heap.size w8.heap.size) w8.heap.size w12.heap.size b → w1.heap.size ≤ b from fun b hb => by
                  have h0 := HN6.out.size0; have h1 := x610.size
                  rcases hb with (hb | hb) | hb
                  · exact HNEW.out b hb
                  · omega
                  · omega)
                have HNL := hide (show (newL false rl rw_).length = p + (nl - p1) from by unfold newL; rw [if_neg (by decide), HDEL.out, List.length_append, List.length_take, List.length_drop, HLL.out]; have := HPP.out; omega)
                have T12 := hide (show Told w12 (And' (And' P6 w6.heap.size w8.heap.size) w8.heap.size w12.heap.size) A11 (newL false rl rw_).length c11 (newL false rl rw_) from by
                  have ht := Told.app OWN8.out ELS10.out EL2.out own11.out G11.out hP10
                  have e : newL false rl rw_ = rl.take p ++ rl.drop (p + 1) := by unfold newL; rw [if_neg (by decide), HDEL.out]
                  rw [HNL.out, e]; exact ht)
                clear x610 hP10 own11 G11 C11 ELS10 HX9 E10 X8 EL2
                have hb12 := K12.out.blk HB6.out fun hn => hn HPG.out
                have f1 : w12.cell? ⟨gb, 1, none⟩ = some (.int .i64 fr) := hb12.cell 1
                obtain ⟨m12, l12⟩ := HEND.out w12 _ A11 c11 N12.out K12.out (fun b hb => .inl (.inl hb)) HN12.out T12.out
                have M12 := hide m12; have L12 := hide l12
                clear hb12 m12 l12 N12 K12 HN12 T12 HEND
                go_wp2_with fail
                refine ⟨⟨i + 1, _, _, _, _, _, _, _, _, _, by omega, by go_num, rfl, rfl, ⟨L12.out.1.trans (by first | rfl | exact HNL.out), L12.out.2.trans (by first | rfl | exact HNL.out)⟩, M12, hS.out.1, by have := hS.out.2; omega⟩, by simp [intOf]; omega⟩)
      · obtain rfl : i = l := by omega
        have hok := hM.out.np.now; have hkk := hM.out.np.ok
        have HOL := hide (hok.onsLen hkk)
        have HK := hide hkk; have HOK := hide hok
        have hno := hLN.out.1
        have hnb : no ≤ 65536 := by have := HOL.out.1; omega
        clear hok hkk
        go_wp2_with fail
        go_loopw [19, 21, 22, 23, 24, 104] (fun s19 _ _ _ _ s104 w' => ∃ (j N2 : Nat) (P2 : Nat → Prop), j ≤ no ∧ s104 = .int .i64 j ∧ s19 = .int .i64 (liveM K a.now j : Nat) ∧ Hid (MeI w1 n lv K a N2 P2 A1 c1 A2 c2 w') ∧ Hid (N2 ≤ N + 1 + j)) (fun _ _ _ _ _ s104 _ => no - (intOf s104).toNat)
        case atStart => exact ⟨0, N, P, by omega, rfl, rfl, hM, hide (by omega)⟩
        case round =>
          clear hM
          obtain ⟨j, N2, P2, hjn, rfl, rfl, hM, hN2⟩ := hrel
          have hlm := liveM_le K a.now j
          by_cases hj : j < no
          · have hj2 : (j : Int) < (no : Int) := by omega
            obtain ⟨ob, off, r, A9, c9, rfl, hrj, k0, hrow⟩ := hM.out.ons.lat.rowS (i := j) (by omega)
            have hrm := List.mem_of_getElem? hrj
            have hfit := HOK.out.ons r hrm
            have hr30 := HOL.out.2.1 r hrm
            have HARG := hide (show ArgR wr A9 r.length r from ⟨hrow, by omega, hfit.2.1, hfit.2.2⟩)
            have HLM := hide (live_meet HOK.out HK3.out hrm)
            have HNX := hide (liveM_next K a.now hrj)
            have hpj := ref_proj_any r side A9 Asd r.length side.length c9 csd wr hrow (HSD.out.ext hM.out.np.ext0) (by omega) hsl
            have hpk : (projR r side).1 = keyR K.side r := by unfold keyR; rw [HKS.out]
            obtain ⟨pr, hpr⟩ : ∃ pr, projR r side = pr := ⟨_, rfl⟩
            rw [hpr] at hpj hpk
            obtain ⟨key, er⟩ := pr
            have hpk2 : key = keyR K.side r := hpk
            rw [← hpk2] at HLM HNX
            clear hpk2
            have HPJ := hide (hpj.mono (R' := fun e w' => ∃ A c, e = .returned (.tuple #[.slice A key.length c, .int .i64 er]) ∧ w'.ownsRow wr.heap.size 85 3 (.slice A key.length c) key.length (cellsR key) ∧ Ext wr w') fun e w' hh => hh)
            obtain ⟨rl, hrl⟩ : ∃ rl, r.length = rl := ⟨_, rfl⟩
            rw [hrl] at k0 HARG HPJ
            clear hpj hpk hpr hrl hrow hrm hfit hrj hr30
            go_upto_region 30 with ((with_reducible refine HPJ.out.mono ?_); rintro e w5 ⟨A5, c5, rfl, o5, x5⟩; have HM5 := hide (hM.out.ext x5); have O5 := hide (RowAt.own o5); have HA5 := hide (HARG.out.ext x5); clear o5 x5)
            have HHS := hide (has_inB a.now.sides key A2 A5 a.now.sides.length key.length c2 c5 w5 HM5.out.sides.lat O5.out (by have := HOL.out.2.2.1; omega) (fun q hq => by have := HOL.out.2.2.2 q hq; omega))
            rw [hLN.out.2] at HHS
            obtain ⟨b, hb⟩ : ∃ b, inB a.now.sides key = b := ⟨_, rfl⟩
            rw [hb] at HHS HLM HNX
            clear hb HPJ hM k0 HARG
            go_upto_region 31 with ((with_reducible refine HHS.out.mono ?_); rintro e w6 ⟨rfl, x6⟩; have HM6 := hide (HM5.out.ext x6); have HA6 := hide (HA5.out.ext x6); clear x6)
            clear HHS HM5 O5 HA5
            generalize And' (And' P2 wr.heap.size w5.heap.size) w5.heap.size w6.heap.size = P6 at *
            cases b
            all_goals (
              refine wp_region_ord [(0, true), (1, true), (2, true), (3, true), (4, true), (7, true), (5, false), (6, false), (8, true)] (fun w' => w'.cell? ⟨n, 0, none⟩ = some (ptr lv)) (by kernel_rfl) (by kernel_rfl) (fun _ _ _ _ _ h => h) ?_ ?_
              · exact fun w' hw' => (HM6.out.np.ext hw').cell0
              intro wq hwq
              have HMQ := hide (HM6.out.ext hwq)
              have HCP := hide (copy_argP (c := c9) (HA6.out.ext hwq))
              clear hwq HM6 HA6
              unfold wpO
              refine ⟨_, rfl, ?_⟩
              apply Exists.intro
              refine ⟨.inl ⟨by rfl, fun w9 h9 => ?_⟩, fun K hK => ?_⟩
              · go_simp; first | done | rfl
              go_simp; refine hK _ ?_; clear hK K
              unfold wpO
              refine ⟨_, rfl, ?_⟩
              apply Exists.intro
              refine ⟨.inl ⟨by rfl, fun w9 h9 => ?_⟩, fun K hK => ?_⟩
              · go_simp; first | done | rfl
              go_simp; refine hK _ ?_; clear hK K
              unfold wpO
              refine ⟨_, rfl, ?_⟩
              apply Exists.intro
              refine ⟨.inl ⟨by rfl, fun w9 h9 => ?_⟩, fun K hK => ?_⟩
              · go_simp; first | done | rfl
              go_simp; refine hK _ ?_; clear hK K
              unfold wpO
              refine ⟨_, rfl, ?_⟩
              apply Exists.intro
              refine ⟨.inl ⟨by rfl, fun w9 h9 => ?_⟩, fun K hK => ?_⟩
              · go_simp; first | done | rfl
              go_simp; refine hK _ ?_; clear hK K
              unfold wpO
              refine ⟨_, rfl, ?_⟩
              apply Exists.intro
              refine ⟨.inl ⟨by rfl, fun w9 h9 => ?_⟩, fun K hK => ?_⟩
              · go_simp; first | done | rfl
              go_simp; refine hK _ ?_; clear hK K
              unfold wpO
              refine ⟨_, rfl, ?_⟩
              apply Exists.intro
              refine ⟨.inl ⟨by rfl, fun w9 h9 => ?_⟩, fun K hK => ?_⟩
              · go_simp; first | done | rfl
              go_simp; refine hK _ ?_; clear hK K
              unfold wpO
              refine ⟨_, rfl, ?_⟩
              go_wp2_with ((with_reducible refine HCP.out.mono ?_); rintro e w8 ⟨A8, c8, rfl, ha8, hb8, x8⟩; have HM8 := hide (HMQ.out.ext x8); have HA8 := hide ha8; clear ha8 hb8 x8)
              simp only [exL]
              refine ⟨HM8.out.np.cell0, ?_⟩
              have hhs := HM8.out.np.has (by have := hS.out.2; have := hN2.out; omega) c8 HA8.out
              rw [HLM.out] at hhs
              have HHS := hide hhs
              clear hhs HCP HMQ HA8
              unfold wpO
              refine ⟨_, rfl, ?_⟩
              go_wp2_with ((with_reducible refine HHS.out.mono ?_); rintro e w9 ⟨rfl, h9, k9⟩; have HM9 := hide (HM8.out.step h9 k9 (fun _ h => h) fun b hb => .inl hb); clear h9 k9)
              simp only [exL]
              refine ⟨HM9.out.np.cell0, ?_⟩
              unfold wpO
              refine ⟨_, rfl, ?_⟩
              apply Exists.intro
              refine ⟨.inl ⟨by rfl, fun w9 h9 => ?_⟩, fun K hK => ?_⟩
              · go_simp; first | done | rfl
              go_simp; refine hK _ ?_; clear hK K
              unfold wpO
              have hnx := HNX.out
              simp only [if_true, if_false, Bool.false_eq_true, Nat.add_zero] at hnx
              clear HM8 HHS
              go_wp2_with fail
              refine ⟨⟨j + 1, _, _, by omega, by go_num, by rw [hnx] <;> go_num, HM9, hide (by have := hN2.out; omega)⟩, by simp [intOf]; omega⟩)
          · obtain rfl : j = no := by omega
            have hall : liveM K a.now j = a.now.live.length := by rw [← hno]; exact liveM_all HOK.out HK3.out
            rw [hall]
            have c0 := hM.out.np.cell0
            have HRW := hide hM.out.np.rows
            have HXX := hide hM.out.np.ext0
            have hlv := HOK.out.liveLen HK.out
            obtain ⟨lvl, hlvl⟩ : ∃ lvl, a.now.live.length = lvl := ⟨_, rfl⟩
            rw [hlvl] at HRW ⊢
            clear hall hlv hlvl
            go_wp2_with ((with_reducible refine HRW.out.mono ?_); rintro e w5 ⟨A5, c5, M5, rfl, -, h5, -, -⟩; have N5 := hide h5; clear h5)
            have hst := N5.out.stored
            rw [show storedN K a.now = j from by unfold storedN; rw [if_pos HK3.out, hno]] at hst
            have HST := hide hst
            clear hst HRW
            refine HST.out.mono ?_
            rintro e w6 ⟨rfl, x6⟩
            have X6 := hide (N5.out.ext0.trans x6)
            clear x6 HST
            go_wp2_with fail
            refine (awake_nd _).mono ?_
            rintro e w7 ⟨rfl, x7⟩
            have X7 := hide (X6.out.trans x7)
            clear x7
            go_wp2_with fail
            go_ret
            exact ⟨rfl, HE.out.trans X7.out⟩
end Go.Proofs.YtahdiiaadjdmcaaGreat
