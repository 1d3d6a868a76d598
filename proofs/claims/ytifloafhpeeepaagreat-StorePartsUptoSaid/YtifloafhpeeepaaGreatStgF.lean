/-
  StoreParts: the law.
-/
import Derived.Test.YtifloafhpeeepaaGreatGaM
namespace Go.Proofs.YtifloafhpeeepaaGreat
open Go.RowKit

/-- what First and Next left in their slots -/
def CurAt (w : World) (P : Nat → Prop) (o : Option (List V)) (A : Option Addr) (n : Nat) (b : Bool) : Prop := match o with
  | none => b = false
  | some q => b = true ∧ n = q.length ∧ RowAt w A n q ∧ ∀ a, A = some a → P a.block
theorem CurAt.ext {w w' : World} {P Q : Nat → Prop} {o : Option (List V)} {A : Option Addr} {n : Nat} {b : Bool} (h : CurAt w P o A n b) (hw : Ext w w') (hq : ∀ b, P b → Q b) : CurAt w' Q o A n b := by
  cases o with
  | none => exact h
  | some q => exact ⟨h.1, h.2.1, h.2.2.1.ext hw, fun a ha => hq _ (h.2.2.2 a ha)⟩
theorem OneP.cur {w0 w w' : World} {x : Nat} {S : SAbs} {N : Nat} {P : Nat → Prop} {o : Option (List V)} {e : Ending} (h : OneP w0 w x S N P o e w') : ∃ A n c b Q, e = .returned (.tuple #[.slice A n c, .bool b, .int .i64 0]) ∧ CurAt w' Q o A n b ∧ (∀ g, P g → Q g) ∧ FP w0 w' x S N Q ∧ Keeps P w w' := by
  cases o with
  | none =>
    obtain ⟨rfl, h1, h2⟩ := h
    exact ⟨none, 0, 0, false, P, rfl, rfl, fun _ h => h, h1, h2⟩
  | some q =>
    obtain ⟨A, c, Q, rfl, h1, h2, h3, h4, h5⟩ := h
    exact ⟨A, q.length, c, true, Q, rfl, ⟨rfl, rfl, h1, h2⟩, h3, h4, h5⟩
set_option maxRecDepth 100000 in
set_option maxHeartbeats 4000000 in
theorem law_parts (g : List Int) (Ag : Option Addr) (m d : Nat) (rows : List (List V)) (A : Option Addr) (n c : Nat) (w : World) (hg : NumAt w Ag m g) (hm : m ≤ 1048576) (_hwg : wfI g) (ha : LAt RRow 1 w A n rows) (_hc : n ≤ c) (hn : n ≤ 1048576) (hr : ∀ r ∈ rows, r.length ≤ 1048576 ∧ smallR r) (hwf : ∀ r ∈ rows, wfR r) :
    Calls Tryz.prog 4 #[.slice Ag m d, .slice A n c] w fun e w' => e = .returned (.bool true) ∧ Ext w w' := by
  have HGN := hide hg; have HA := hide ha; have HR := hide hr; have HWF := hide hwf; have HN := hide hn
  have HI := hide (ints_any g Ag m d w hg (by omega))
  have HGL := hide hg.len
  clear ha hr hwf hg
  go_enter Tryz.func4, Tryz.ntmps4
  have hgl : ∀ q ∈ [g], q.length ≤ 1048576 := fun q hq => by obtain rfl := List.mem_singleton.1 hq; have := HGL.out; omega
  have HGB := hide hgl
  clear hgl
  by_cases hz : goodS 3 50 [g] = 0
  · have HZ := hide hz
    clear hz
    go_wp2_with ((with_reducible refine HI.out.mono ?_); rintro e w1 ⟨A1, c1, rfl, o1, x1⟩; have O1 := hide (NumAt.own o1); have X1 := hide x1; clear o1 x1)
    have E2 := hide (Ext.alloc w1 (.cells #[.slice A1 m c1] 27))
    refine (new_good_st 1 (nums_one1 O1.out) (by decide) HGB.out HZ.out).mono ?_
    rintro e w3 ⟨x, B, rfl, x3, hst, hb, hl⟩
    have hE3 := (X1.out.trans E2.out).trans x3
    have HFP := hide (FP.of hst (fun b hbb => by have h1 := X1.out.size; have h2 := E2.out.size; have h3 := hb b hbb; omega) hE3 hl)
    clear hst hb hl x3 E2 X1 O1
    go_wp2_with fail
    have E4 := hide (Ext.alloc w3 (.cells #[.slice Ag m d] 27))
    refine (ref_good 3 50 1 (nums_one1 (HGN.out.ext hE3)) (by decide) HGB.out).mono ?_
    rintro e w4 ⟨rfl, rfl⟩
    rw [HZ.out]
    have HF4 := hide (HFP.out.ext E4.out)
    generalize w3.alloc (.cells #[.slice Ag m d] 27) = w4 at *
    have HX4 := hide (hE3.trans E4.out)
    clear HFP E4 hE3 HGB
    obtain ⟨gN, hgN⟩ : ∃ gN, gN = g.map Int.toNat := ⟨_, rfl⟩
    have hback : gN.map Int.ofNat = g := by
      have h1 := HZ.out
      rw [goodS_all (by omega) (by omega) (by simp)] at h1
      have h2 : risesS 3 (-1) g = true := by
        simp only [List.all_cons, List.all_nil, Bool.and_true] at h1
        cases hh : risesS 3 (-1) g with
        | true => rfl
        | false => rw [hh] at h1; simp at h1
      rw [hgN]
      exact rises_nat h2 (by omega)
    have HBK := hide hback
    go_wp2_with fail
    have HS0 := hide (show FP w w4 x ⟨3, 50, [gN], [], none⟩ 1 (fun _ => False) from by rw [hgN]; exact HF4.out.mono fun b hb => hb.elim)
    clear HF4 hgN hback HI HZ
    go_loopw [7, 55] (fun s7 s55 w' => ∃ (i : Nat) (S : SAbs) (N : Nat), i ≤ n ∧ s7 = .int .i64 S.rows.length ∧ s55 = .int .i64 i ∧ Hid (FP w w' x S N (fun _ => False)) ∧ Hid (S.width = 3 ∧ S.most = 50 ∧ S.gs = [gN] ∧ N ≤ i + 1)) (fun _ s55 _ => n - (intOf s55).toNat)
    case atStart => exact ⟨0, _, 1, by omega, rfl, rfl, HS0, rfl, rfl, rfl, by omega⟩
    case round =>
      clear HS0 HX4
      obtain ⟨i, S, N, hin, rfl, rfl, hF, hS⟩ := hrel
      by_cases hi : i < n
      · obtain ⟨b, off, r, A9, c9, rfl, hri, hcell, hrow⟩ := HA.out.rowS hi
        have hcell := hF.out.ext0.cell hcell
        have hrm := List.mem_of_getElem? hri
        have HARG := hide (show ArgR wr A9 r.length r from ⟨hrow.ext hF.out.ext0, (HR.out r hrm).1, (HR.out r hrm).2, HWF.out r hrm⟩)
        have HCP := hide (copy_argP (c := c9) HARG.out)
        have hps := putS_same S r
        obtain ⟨len, hlen⟩ : ∃ len, S.rows.length = len := ⟨_, rfl⟩
        rw [hlen]
        have HLEN := hide hlen
        have hin2 : (i : Int) < (n : Int) := by omega
        have hl50 := hF.out.fit.1
        have hl51 : len ≤ 50 := by have := hS.out.2.1; omega
        clear hri hrow hrm hlen hl50
        go_wp2_with ((with_reducible refine HCP.out.mono ?_); rintro e w2 ⟨A2, c2, rfl, ha2, hb2, hx2⟩; have HA2 := hide ha2; have HB2 := hide hb2; have X2 := hide hx2; clear ha2 hb2 hx2)
        have HP := hide ((hF.out.ext X2.out).put (by have := hS.out.2.2.2; omega) c2 HA2.out (fun a ha => .inr (HB2.out a ha)))
        obtain ⟨S2, ok, f, hpt⟩ : ∃ S2 ok f, putS S r = (S2, ok, f) := ⟨_, _, _, rfl⟩
        rw [hpt] at HP hps
        obtain ⟨p1, p2, p3, p4, p5⟩ := hps
        have HPS := hide (And.intro p1 (And.intro p2 p3))
        dsimp only at p4 p5
        clear hpt p1 p2 p3
        cases ok with
        | true =>
          obtain ⟨rfl, hl2⟩ := p4 rfl
          have HL2 := hide hl2
          clear p4 p5 hl2
          go_wp2_with fail
          refine HP.out.mono ?_
          rintro e w5 ⟨rfl, h5, -⟩
          have F5 := hide h5; clear h5 HP
          go_wp2_with fail
          go_roundw
          case rel => exact ⟨i + 1, S2, N + 1, by omega, by rw [HL2.out, HLEN.out]; go_num, by go_num, F5.out.mono fun b hb => hb.elim, HPS.out.1.trans hS.out.1, HPS.out.2.1.trans hS.out.2.1, HPS.out.2.2.trans hS.out.2.2.1, by have := hS.out.2.2.2; omega⟩
          case measure => simp [intOf]; omega
        | false =>
          have hl2 := p5 rfl
          have HL2 := hide hl2
          clear p4 p5 hl2
          go_wp2_with fail
          refine HP.out.mono ?_
          rintro e w5 ⟨rfl, h5, -⟩
          have F5 := hide h5; clear h5 HP
          go_wp2_with fail
          go_roundw
          case rel => exact ⟨i + 1, S2, N + 1, by omega, by rw [HL2.out, HLEN.out], by go_num, F5.out.mono fun b hb => hb.elim, HPS.out.1.trans hS.out.1, HPS.out.2.1.trans hS.out.2.1, HPS.out.2.2.trans hS.out.2.2.1, by have := hS.out.2.2.2; omega⟩
          case measure => simp [intOf]; omega
      · obtain rfl : i = n := by omega
        have hRW := hide hF.out.rows
        obtain ⟨len, hlen⟩ : ∃ len, S.rows.length = len := ⟨_, rfl⟩
        rw [hlen] at hRW ⊢
        have HLEN := hide hlen
        have hfit := hide hF.out.fit
        have hSg := hide (show S.gs[0]? = some gN by rw [hS.out.2.2.1]; rfl)
        clear hlen
        go_wp2_with ((with_reducible refine hRW.out.mono ?_); rintro e w5 ⟨A5, c5, M5, rfl, hm5, h5, -⟩; have F5 := hide h5; have T5 := hide (show Told w5 (And' (fun _ => False) M5 w5.heap.size) A5 len c5 S.rows from MineV.told hm5 fun b h1 h2 => .inr ⟨h1, h2⟩); clear h5 hm5)
        refine (F5.out.keys hSg.out).mono ?_
        rintro e w6 ⟨A6, c6, K, hK, rfl, hm6, x6⟩
        have HK := hide hK
        have F6 := hide (F5.out.ext x6)
        have T6 := hide (T5.out.ext x6 (Q := And' (And' (fun _ => False) M5 w5.heap.size) w5.heap.size w6.heap.size) fun b hb => .inl hb)
        have U6 := hide (show Told w6 (And' (And' (fun _ => False) M5 w5.heap.size) w5.heap.size w6.heap.size) A6 K.length c6 K from MineV.told hm6 fun b h1 h2 => .inr ⟨h1, h2⟩)
        obtain ⟨hsum, hkl, hne⟩ := numG_end hS.out.2.2.1 hK
        have HSUM := hide hsum; have HNE := hide hne
        have hk50 := hfit.out.1
        have hkk : K.length ≤ 50 := by have := hS.out.2.1; omega
        clear hK x6 hm6 F5 T5 hRW hsum hne hkl hk50
        generalize And' (And' (fun _ => False) M5 w5.heap.size) w5.heap.size w6.heap.size = P6 at *
        go_wp2_with fail
        go_loopw [15, 83] (fun s15 s83 w' => ∃ (k N2 : Nat) (P : Nat → Prop), k ≤ K.length ∧ s15 = .int .i64 (numG S K k) ∧ s83 = .int .i64 k ∧ Hid (FP w w' x S N2 P) ∧ Hid (Told w' P A5 len c5 S.rows ∧ Told w' P A6 K.length c6 K) ∧ Hid (N2 ≤ N + 1 + 60 * k)) (fun _ s83 _ => K.length - (intOf s83).toNat)
        case atStart => exact ⟨0, N + 1, P6, by omega, rfl, rfl, F6.out, ⟨T6.out, U6.out⟩, hide (by omega)⟩
        case round =>
          clear F6 T6 U6
          obtain ⟨k, N2, P2, hkl, rfl, rfl, hF2, hT2, hN2⟩ := hrel
          by_cases hk : k < K.length
          · obtain ⟨key, hkey⟩ : ∃ key, K[k]? = some key := ⟨_, List.getElem?_eq_getElem hk⟩
            have hgood := HK.out.good key (List.mem_of_getElem? hkey)
            obtain ⟨b, off, A9, c9, rfl, kc, hap⟩ := hT2.out.2.argP hkey (key_small hgood) hgood.small hgood.wf
            have HAP := hide hap
            obtain ⟨F, hF⟩ : ∃ F, grpS S 0 key = F := ⟨_, rfl⟩
            obtain ⟨fl, hfl⟩ : ∃ fl, F.length = fl := ⟨_, rfl⟩
            have hfne : ((fl : Int) == 0) = false := by
              have := HNE.out key (List.mem_of_getElem? hkey)
              rw [hF] at this
              cases F with
              | nil => exact absurd rfl this
              | cons a l => rw [← hfl]; simp; omega
            have HFE := hide hF; have HFL := hide hfl; have HKK := hide hkey
            have HFF := hide (show (∀ q ∈ F, q ∈ S.rows ∧ keyR gN q = key) ∧ F.Nodup ∧ F.length ≤ 50 from by
              rw [← hF, grp_eq hS.out.2.2.1]
              refine ⟨fun q hq => ⟨(List.mem_filter.1 hq).1, sameR_iff.1 (List.mem_filter.1 hq).2⟩, hfit.out.2.2.filter _, ?_⟩
              have h1 := List.length_filter_le (fun r => sameR (keyR gN r) key) S.rows
              have h2 := hfit.out.1
              have h3 := hS.out.2.1
              omega)
            have HBOUND := hide (show numG S K k ≤ 1048576 from by
              have h1 := HSUM.out
              have h2 : numG S K k ≤ numG S K K.length := by
                unfold numG
                rw [List.take_of_length_le (Nat.le_refl _)]
                have h3 := List.take_append_drop k K
                calc ((K.take k).map fun k => (grpS S 0 k).length).sum ≤ ((K.take k).map fun k => (grpS S 0 k).length).sum + ((K.drop k).map fun k => (grpS S 0 k).length).sum := Nat.le_add_right _ _
                  _ = (((K.take k ++ K.drop k)).map fun k => (grpS S 0 k).length).sum := by rw [List.map_append, List.sum_append]
                  _ = _ := by rw [h3]
              have h4 := hfit.out.1
              have h5 := hS.out.2.1
              omega)
            have hbb : N2 + 2 ≤ 8388608 := by have := hN2.out; have := hS.out.2.2.2; omega
            have hgs0 : 0 < S.gs.length := by rw [hS.out.2.2.1]; exact Nat.one_pos
            have HGR := hide (hF2.out.group (by omega) (k := 0) hgs0 c9 hap.1)
            rw [hF, hfl, show ((0 : Nat) : Int) = 0 from rfl] at HGR
            have HBB := hide hbb; have HGS := hide hgs0
            have hk2 : (k : Int) < (K.length : Int) := by omega
            clear hkey hgood hap hF hfl hbb hgs0
            go_upto_region 21 with ((with_reducible refine HGR.out.mono ?_); rintro e w7 ⟨A7, c7, M7, rfl, hm7, h7, hkeep7⟩; have F7 := hide h7; have L7 := hide (show Told w7 (And' P2 M7 w7.heap.size) A7 fl c7 F from MineV.told hm7 fun b h1 h2 => .inr ⟨h1, h2⟩); have T7 := hide (show Told w7 (And' P2 M7 w7.heap.size) A5 len c5 S.rows ∧ Told w7 (And' P2 M7 w7.heap.size) (some ⟨b, off, none⟩) K.length c6 K ∧ AP w7 (And' P2 M7 w7.heap.size) A9 key.length key from ⟨hT2.out.1.keep hkeep7 fun b hb => .inl hb, hT2.out.2.keep hkeep7 fun b hb => .inl hb, HAP.out.keep hkeep7 fun b hb => .inl hb⟩); clear hm7 h7 hkeep7)
            generalize And' P2 M7 w7.heap.size = P7 at *
            have HFI := hide (F7.out.first (by have := HBB.out; omega) (k := 0) HGS.out c9 T7.out.2.2.1)
            rw [HFE.out, show ((0 : Nat) : Int) = 0 from rfl] at HFI
            go_upto_region 22 with ((with_reducible refine HFI.out.mono ?_); rintro e w8 ho; obtain ⟨A8, n8, c8, b8, P8, rfl, hc8, hp8, hf8, hk8⟩ := ho.cur; have F8 := hide hf8; have C8 := hide hc8; have T8 := hide (show Told w8 P8 A5 len c5 S.rows ∧ Told w8 P8 (some ⟨b, off, none⟩) K.length c6 K ∧ Told w8 P8 A7 fl c7 F ∧ AP w8 P8 A9 key.length key from ⟨T7.out.1.keep hk8 hp8, T7.out.2.1.keep hk8 hp8, L7.out.keep hk8 hp8, T7.out.2.2.keep hk8 hp8⟩); clear hc8 hp8 hf8 hk8 ho)
            have HN2 := hide (show N2 + 1 + 1 ≤ N + 1 + 60 * k + 2 by have := hN2.out; omega)
            clear kc HFI HGR T7 L7 F7 hT2 hF2 hN2
            rcases Nat.eq_zero_or_pos k with hk0 | hk0
            · have hkf : ¬ (0 : Int) < (k : Int) := by omega
              clear hk0
              have F9 := F8; have T9 := T8; have C9 := C8
              obtain ⟨P9, hP9⟩ : ∃ P9, P8 = P9 := ⟨_, rfl⟩
              rw [hP9] at F9 T9 C9
              clear hP9 F8 T8 C8
              have hfl2 : ((fl : Nat) : Int) ≤ 50 := by have := HFL.out; have := HFF.out.2.2; omega
              go_wp2_with fail
              go_loopw [20, 21, 23, 128] (fun s20 s21 s23 s128 w' => ∃ (j N3 : Nat) (P : Nat → Prop) (Ac : Option Addr) (nc cc : Nat) (bc : Bool) (last : Int), j ≤ fl ∧ s20 = .slice Ac nc cc ∧ s21 = .bool bc ∧ s23 = .int .i64 last ∧ s128 = .int .i64 j ∧ Hid (FP w w' x S N3 P) ∧ Hid (Told w' P A5 len c5 S.rows ∧ Told w' P (some ⟨b, off, none⟩) K.length c6 K ∧ Told w' P A7 fl c7 F ∧ AP w' P A9 key.length key) ∧ Hid (CurAt w' P F[j]? Ac nc bc) ∧ Hid (∀ q, F[j]? = some q → last < plcR q S.rows 0) ∧ Hid (N3 ≤ N + 1 + 60 * k + 2 + j)) (fun _ _ _ s128 _ => fl - (intOf s128).toNat)
              case atStart => exact ⟨0, _, P9, A8, n8, c8, b8, -1, by omega, rfl, rfl, rfl, rfl, F9.out, T9.out, by rw [← List.head?_eq_getElem?]; exact C9.out, fun q hq => by have := (plcR_iff q S.rows 0).2 (HFF.out.1 q (List.mem_of_getElem? hq)).1; omega, hide (by have := HN2.out; omega)⟩
              case round =>
                clear F9 T9 C9
                obtain ⟨j, N3, P, Ac, nc, cc, bc, last, hjl, rfl, rfl, rfl, rfl, hF3, hT3, hC3, hlast, hN3⟩ := hrel
                by_cases hj : j < fl
                · obtain ⟨q, hqj⟩ : ∃ q, F[j]? = some q := ⟨_, List.getElem?_eq_getElem (by have := HFL.out; omega)⟩
                  obtain ⟨hqR, hqk⟩ := HFF.out.1 q (List.mem_of_getElem? hqj)
                  have hqf := hfit.out.2.1 q hqR
                  have hql := fit_small hqf (by rw [hS.out.1]; omega)
                  have hcur := hC3.out
                  rw [hqj] at hcur
                  obtain ⟨rfl, rfl, hcr, hcp⟩ := hcur
                  obtain ⟨b7, off7, A10, c10, rfl, k7, ha10⟩ := hT3.out.2.2.1.argP hqj hql hqf.2.1 hqf.2.2
                  have HPL := hide (place_rows S.rows q A5 A10 len q.length c5 c10 wr hT3.out.1.lat ha10.1.at_ (by have := hfit.out.1; have := HLEN.out; have := hS.out.2.1; omega) (fun s hs => by have := fit_small (hfit.out.2.1 s hs) (by rw [hS.out.1]; omega); omega))
                  obtain ⟨pq, hpq⟩ : ∃ pq, plcR q S.rows 0 = pq := ⟨_, rfl⟩
                  have hlt := hlast.out q hqj
                  rw [hpq] at HPL hlt
                  have HPQ := hide hpq
                  have HQJ := hide hqj; have HQK := hide hqk; have HQF := hide hqf; have HQR := hide hqR; have HQL := hide hql
                  have HCR := hide (show AP wr P Ac q.length q from ⟨⟨hcr, hql, hqf.2.1, hqf.2.2⟩, hcp⟩)
                  have HA10 := hide ha10
                  have hj2 : (j : Int) < (fl : Int) := by omega
                  have hle : ¬ pq ≤ last := by omega
                  clear hqj hqk hqf hql hqR hcr hcp ha10 hpq hC3 hlast hlt
                  go_upto_region 29 with ((with_reducible refine HPL.out.mono ?_); rintro e w2 ⟨rfl, x2⟩; have X2 := hide x2; clear x2)
                  have HSM := hide (same_any q q Ac A10 q.length q.length cc c10 w2 (HCR.out.1.at_.ext X2.out) (HA10.out.1.at_.ext X2.out) (by have := HQL.out; omega))
                  rw [sameR_iff.2 rfl] at HSM
                  go_wp2_with fail
                  refine HSM.out.mono ?_
                  rintro e w4' ⟨rfl, x4⟩
                  have X4' := hide (X2.out.trans x4)
                  clear x4 HSM HPL X2 k7
                  have HKR := hide (key_ref c10 d (gN := gN) (HA10.out.1.at_.ext X4'.out) (by rw [HBK.out]; exact HGN.out.ext (hF3.out.ext0.trans X4'.out)) HQL.out hm)
                  rw [HQK.out] at HKR
                  go_wp2_with fail
                  refine HKR.out.mono ?_
                  rintro e w5' ⟨A11, c11, rfl, hk11, x5⟩
                  have X5' := hide (X4'.out.trans x5)
                  have HSM := hide (same_any key key A11 A9 key.length key.length c11 c9 w5' hk11 (hT3.out.2.2.2.1.at_.ext X5'.out) (by have := hT3.out.2.2.2.1.len; omega))
                  rw [sameR_iff.2 rfl] at HSM
                  clear x5 hk11 HKR X4'
                  go_wp2_with fail
                  refine HSM.out.mono ?_
                  rintro e w6' ⟨rfl, x6⟩
                  have X6' := hide (X5'.out.trans x6)
                  clear x6 HSM X5'
                  have HNX := hide ((hF3.out.ext X6'.out).next (by have := hN3.out; have := hS.out.2.2.2; omega) hSg.out cc (HCR.out.1.ext X6'.out) HQR.out)
                  rw [HQK.out, HFE.out] at HNX
                  go_wp2_with fail
                  refine HNX.out.mono ?_
                  rintro e w7' ⟨i', hi', ho⟩
                  obtain rfl := nodup_at HFF.out.2.1 hi' HQJ.out
                  obtain ⟨A12, n12, c12, b12, Q, rfl, hc12, hPQ, hF12, hkeep⟩ := ho.cur
                  have HC12 := hide hc12; have HF12 := hide hF12
                  have HT12 := hide (show Told w7' Q A5 len c5 S.rows ∧ Told w7' Q (some ⟨b, off, none⟩) K.length c6 K ∧ Told w7' Q (some ⟨b7, off7, none⟩) fl c7 F ∧ AP w7' Q A9 key.length key from
                    ⟨(hT3.out.1.ext X6'.out fun b hb => .inl hb).keep hkeep hPQ, (hT3.out.2.1.ext X6'.out fun b hb => .inl hb).keep hkeep hPQ, (hT3.out.2.2.1.ext X6'.out fun b hb => .inl hb).keep hkeep hPQ, (hT3.out.2.2.2.ext X6'.out fun b hb => .inl hb).keep hkeep hPQ⟩)
                  clear hi' ho hc12 hPQ hF12 hkeep HNX
                  go_wp2_with fail
                  go_roundw
                  case rel => exact ⟨i' + 1, N3 + 1, Q, A12, n12, c12, b12, pq, by omega, rfl, rfl, rfl, by go_num, HF12.out, HT12.out, HC12.out, fun q2 hq2 => by rw [← HPQ.out]; have h1 := HQJ.out; have h2 := hq2; rw [← HFE.out, grp_eq hS.out.2.2.1] at h1 h2; exact plc_next hfit.out.2.2 h1 h2, hide (by have := hN3.out; omega)⟩
                  case measure => simp [intOf]; omega
                · obtain rfl : j = fl := by omega
                  have hcur := hC3.out
                  rw [List.getElem?_eq_none (by have := HFL.out; omega)] at hcur
                  obtain rfl : bc = false := hcur
                  have hnum := numG_step S HKK.out
                  rw [HFE.out, HFL.out] at hnum
                  have HNUM := hide hnum
                  have hbound : numG S K k ≤ 1048576 := HBOUND.out
                  clear hnum hC3 hlast
                  go_wp2_with fail
                  go_roundw
                  case rel => exact ⟨k + 1, N3, P, by omega, by have h9 := HNUM.out; go_num, by go_num, hF3.out, ⟨hT3.out.1, hT3.out.2.1⟩, hide (by have := hN3.out; have := HFL.out; have := HFF.out.2.2; omega)⟩
                  case measure => simp [intOf]; omega
            · obtain ⟨k', rfl⟩ : ∃ k', k = k' + 1 := ⟨k - 1, by omega⟩
              obtain ⟨prev, hprev⟩ : ∃ prev, K[k']? = some prev := ⟨_, List.getElem?_eq_getElem (by omega)⟩
              have hpg := HK.out.good prev (List.mem_of_getElem? hprev)
              obtain ⟨b', off', A13, c13, e13, kp, hap13⟩ := T8.out.2.1.argP hprev (key_small hpg) hpg.small hpg.wf
              injection e13 with e13
              injection e13 with e13 e14
              subst e13; subst e14
              have hkg := HK.out.good key (List.mem_of_getElem? HKK.out)
              have HCMP := hide (ref_cmp prev key A13 A9 prev.length key.length c13 c9 w8 hap13.1.at_ T8.out.2.2.2.1.at_ (key_small hpg) (key_small hkg) hpg.small hkg.small)
              have hcm := keys_lt HK.out hprev HKK.out
              obtain ⟨cm, hcme⟩ : ∃ cm, cmpR prev key = cm := ⟨_, rfl⟩
              rw [hcme] at HCMP hcm
              have hk1 : (0 : Int) < ((k' + 1 : Nat) : Int) := by omega
              have hkw : (((k' + 1 : Nat) : Int) - 1) = (k' : Int) := by omega
              have hkk : (k' : Int) < (K.length : Int) := by omega
              clear hprev hpg hap13 hkg hcme
              go_upto_region 24 with ((with_reducible refine HCMP.out.mono ?_); rintro e w9 ⟨rfl, x9⟩; have X9 := hide x9; clear x9)
              have F9 := hide (F8.out.ext X9.out)
              have C9 := hide (C8.out.ext X9.out (Q := And' P8 w8.heap.size w9.heap.size) fun b hb => .inl hb)
              have T9 := hide (show Told w9 (And' P8 w8.heap.size w9.heap.size) A5 len c5 S.rows ∧ Told w9 (And' P8 w8.heap.size w9.heap.size) (some ⟨b, off, none⟩) K.length c6 K ∧ Told w9 (And' P8 w8.heap.size w9.heap.size) A7 fl c7 F ∧ AP w9 (And' P8 w8.heap.size w9.heap.size) A9 key.length key from ⟨T8.out.1.ext X9.out fun b hb => .inl hb, T8.out.2.1.ext X9.out fun b hb => .inl hb, T8.out.2.2.1.ext X9.out fun b hb => .inl hb, T8.out.2.2.2.ext X9.out fun b hb => .inl hb⟩)
              obtain ⟨P9, hP9⟩ : ∃ P9, And' P8 w8.heap.size w9.heap.size = P9 := ⟨_, rfl⟩
              rw [hP9] at F9 T9 C9
              clear hP9 F8 T8 C8 HCMP kp hkw hk1 hcm hkk X9
              have hfl2 : ((fl : Nat) : Int) ≤ 50 := by have := HFL.out; have := HFF.out.2.2; omega
              go_wp2_with fail
              go_loopw [20, 21, 23, 128] (fun s20 s21 s23 s128 w' => ∃ (j N3 : Nat) (P : Nat → Prop) (Ac : Option Addr) (nc cc : Nat) (bc : Bool) (last : Int), j ≤ fl ∧ s20 = .slice Ac nc cc ∧ s21 = .bool bc ∧ s23 = .int .i64 last ∧ s128 = .int .i64 j ∧ Hid (FP w w' x S N3 P) ∧ Hid (Told w' P A5 len c5 S.rows ∧ Told w' P (some ⟨b, off, none⟩) K.length c6 K ∧ Told w' P A7 fl c7 F ∧ AP w' P A9 key.length key) ∧ Hid (CurAt w' P F[j]? Ac nc bc) ∧ Hid (∀ q, F[j]? = some q → last < plcR q S.rows 0) ∧ Hid (N3 ≤ N + 1 + 60 * (k' + 1) + 2 + j)) (fun _ _ _ s128 _ => fl - (intOf s128).toNat)
              case atStart => exact ⟨0, _, P9, A8, n8, c8, b8, -1, by omega, rfl, rfl, rfl, rfl, F9.out, T9.out, by rw [← List.head?_eq_getElem?]; exact C9.out, fun q hq => by have := (plcR_iff q S.rows 0).2 (HFF.out.1 q (List.mem_of_getElem? hq)).1; omega, hide (by have := HN2.out; omega)⟩
              case round =>
                clear F9 T9 C9
                obtain ⟨j, N3, P, Ac, nc, cc, bc, last, hjl, rfl, rfl, rfl, rfl, hF3, hT3, hC3, hlast, hN3⟩ := hrel
                by_cases hj : j < fl
                · obtain ⟨q, hqj⟩ : ∃ q, F[j]? = some q := ⟨_, List.getElem?_eq_getElem (by have := HFL.out; omega)⟩
                  obtain ⟨hqR, hqk⟩ := HFF.out.1 q (List.mem_of_getElem? hqj)
                  have hqf := hfit.out.2.1 q hqR
                  have hql := fit_small hqf (by rw [hS.out.1]; omega)
                  have hcur := hC3.out
                  rw [hqj] at hcur
                  obtain ⟨rfl, rfl, hcr, hcp⟩ := hcur
                  obtain ⟨b7, off7, A10, c10, rfl, k7, ha10⟩ := hT3.out.2.2.1.argP hqj hql hqf.2.1 hqf.2.2
                  have HPL := hide (place_rows S.rows q A5 A10 len q.length c5 c10 wr hT3.out.1.lat ha10.1.at_ (by have := hfit.out.1; have := HLEN.out; have := hS.out.2.1; omega) (fun s hs => by have := fit_small (hfit.out.2.1 s hs) (by rw [hS.out.1]; omega); omega))
                  obtain ⟨pq, hpq⟩ : ∃ pq, plcR q S.rows 0 = pq := ⟨_, rfl⟩
                  have hlt := hlast.out q hqj
                  rw [hpq] at HPL hlt
                  have HPQ := hide hpq
                  have HQJ := hide hqj; have HQK := hide hqk; have HQF := hide hqf; have HQR := hide hqR; have HQL := hide hql
                  have HCR := hide (show AP wr P Ac q.length q from ⟨⟨hcr, hql, hqf.2.1, hqf.2.2⟩, hcp⟩)
                  have HA10 := hide ha10
                  have hj2 : (j : Int) < (fl : Int) := by omega
                  have hle : ¬ pq ≤ last := by omega
                  clear hqj hqk hqf hql hqR hcr hcp ha10 hpq hC3 hlast hlt
                  go_upto_region 29 with ((with_reducible refine HPL.out.mono ?_); rintro e w2 ⟨rfl, x2⟩; have X2 := hide x2; clear x2)
                  have HSM := hide (same_any q q Ac A10 q.length q.length cc c10 w2 (HCR.out.1.at_.ext X2.out) (HA10.out.1.at_.ext X2.out) (by have := HQL.out; omega))
                  rw [sameR_iff.2 rfl] at HSM
                  go_wp2_with fail
                  refine HSM.out.mono ?_
                  rintro e w4' ⟨rfl, x4⟩
                  have X4' := hide (X2.out.trans x4)
                  clear x4 HSM HPL X2 k7
                  have HKR := hide (key_ref c10 d (gN := gN) (HA10.out.1.at_.ext X4'.out) (by rw [HBK.out]; exact HGN.out.ext (hF3.out.ext0.trans X4'.out)) HQL.out hm)
                  rw [HQK.out] at HKR
                  go_wp2_with fail
                  refine HKR.out.mono ?_
                  rintro e w5' ⟨A11, c11, rfl, hk11, x5⟩
                  have X5' := hide (X4'.out.trans x5)
                  have HSM := hide (same_any key key A11 A9 key.length key.length c11 c9 w5' hk11 (hT3.out.2.2.2.1.at_.ext X5'.out) (by have := hT3.out.2.2.2.1.len; omega))
                  rw [sameR_iff.2 rfl] at HSM
                  clear x5 hk11 HKR X4'
                  go_wp2_with fail
                  refine HSM.out.mono ?_
                  rintro e w6' ⟨rfl, x6⟩
                  have X6' := hide (X5'.out.trans x6)
                  clear x6 HSM X5'
                  have HNX := hide ((hF3.out.ext X6'.out).next (by have := hN3.out; have := hS.out.2.2.2; omega) hSg.out cc (HCR.out.1.ext X6'.out) HQR.out)
                  rw [HQK.out, HFE.out] at HNX
                  go_wp2_with fail
                  refine HNX.out.mono ?_
                  rintro e w7' ⟨i', hi', ho⟩
                  obtain rfl := nodup_at HFF.out.2.1 hi' HQJ.out
                  obtain ⟨A12, n12, c12, b12, Q, rfl, hc12, hPQ, hF12, hkeep⟩ := ho.cur
                  have HC12 := hide hc12; have HF12 := hide hF12
                  have HT12 := hide (show Told w7' Q A5 len c5 S.rows ∧ Told w7' Q (some ⟨b, off, none⟩) K.length c6 K ∧ Told w7' Q (some ⟨b7, off7, none⟩) fl c7 F ∧ AP w7' Q A9 key.length key from
                    ⟨(hT3.out.1.ext X6'.out fun b hb => .inl hb).keep hkeep hPQ, (hT3.out.2.1.ext X6'.out fun b hb => .inl hb).keep hkeep hPQ, (hT3.out.2.2.1.ext X6'.out fun b hb => .inl hb).keep hkeep hPQ, (hT3.out.2.2.2.ext X6'.out fun b hb => .inl hb).keep hkeep hPQ⟩)
                  clear hi' ho hc12 hPQ hF12 hkeep HNX
                  go_wp2_with fail
                  go_roundw
                  case rel => exact ⟨i' + 1, N3 + 1, Q, A12, n12, c12, b12, pq, by omega, rfl, rfl, rfl, by go_num, HF12.out, HT12.out, HC12.out, fun q2 hq2 => by rw [← HPQ.out]; have h1 := HQJ.out; have h2 := hq2; rw [← HFE.out, grp_eq hS.out.2.2.1] at h1 h2; exact plc_next hfit.out.2.2 h1 h2, hide (by have := hN3.out; omega)⟩
                  case measure => simp [intOf]; omega
                · obtain rfl : j = fl := by omega
                  have hcur := hC3.out
                  rw [List.getElem?_eq_none (by have := HFL.out; omega)] at hcur
                  obtain rfl : bc = false := hcur
                  have hnum := numG_step S HKK.out
                  rw [HFE.out, HFL.out] at hnum
                  have HNUM := hide hnum
                  have hbound : numG S K (k' + 1) ≤ 1048576 := HBOUND.out
                  clear hnum hC3 hlast
                  go_wp2_with fail
                  go_roundw
                  case rel => exact ⟨k' + 1 + 1, N3, P, by omega, by have h9 := HNUM.out; go_num, by go_num, hF3.out, ⟨hT3.out.1, hT3.out.2.1⟩, hide (by have := hN3.out; have := HFL.out; have := HFF.out.2.2; omega)⟩
                  case measure => simp [intOf]; omega
          · obtain rfl : k = K.length := by omega
            have HLE := hide hF2.out.len
            rw [HLEN.out] at HLE
            rw [HSUM.out, HLEN.out]
            have X2 := hide hF2.out.ext0
            go_wp2_with fail
            refine HLE.out.mono ?_
            rintro e w8 ⟨rfl, x8⟩
            have X8 := hide (X2.out.trans x8)
            clear x8 HLE
            go_wp2_with fail
            refine (awake_st _).mono ?_
            rintro e w9 ⟨rfl, x9⟩
            have X9 := hide (X8.out.trans x9)
            clear x9
            go_wp2_with fail
            go_ret
            exact ⟨rfl, X9.out⟩
  · have HZ := hide hz
    clear hz
    go_wp2_with ((with_reducible refine HI.out.mono ?_); rintro e w1 ⟨A1, c1, rfl, o1, x1⟩; have O1 := hide (NumAt.own o1); have X1 := hide x1; clear o1 x1)
    have E2 := hide (Ext.alloc w1 (.cells #[.slice A1 m c1] 27))
    refine (new_bad_st 1 (nums_one1 O1.out) (by decide) HGB.out HZ.out).mono ?_
    rintro e w3 ⟨rfl, x3⟩
    have hE3 := (X1.out.trans E2.out).trans x3
    have hne : (goodS 3 50 [g] != 0) = true := by have := HZ.out; simpa using this
    obtain ⟨F, hF⟩ : ∃ F, goodS 3 50 [g] = F := ⟨_, rfl⟩
    have HRG := hide (ref_good 3 50 1 (nums_one1 (c := d) (HGN.out.ext hE3)) (by decide) HGB.out)
    have E4 := hide (Ext.alloc w3 (.cells #[.slice Ag m d] 27))
    have HX4 := hide (hE3.trans E4.out)
    rw [hF] at hne HRG ⊢
    clear hF x3 E2 X1 O1 hE3
    go_wp2_with fail
    refine HRG.out.mono ?_
    rintro e w4 ⟨rfl, rfl⟩
    go_wp2_with fail
    refine (awake_st _).mono ?_
    rintro e w5 ⟨rfl, x5⟩
    have X5 := hide (HX4.out.trans x5)
    clear x5
    go_wp2_with fail
    go_ret
    exact ⟨rfl, X5.out⟩
end Go.Proofs.YtifloafhpeeepaaGreat
