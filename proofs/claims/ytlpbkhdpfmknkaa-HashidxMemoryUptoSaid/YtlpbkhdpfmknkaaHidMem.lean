/-
  HashidxMemory: the law's walk.
-/
import Derived.Test.YtlpbkhdpfmknkaaHidQ
import Derived.Deep.AppendLies
namespace Go.Proofs.Ytlpbkhdpfmknkaa
open Go.RowKit

set_option maxHeartbeats 4000000 in
set_option maxRecDepth 100000 in
theorem law_memory (S : List ByteArray) (A : Option Addr) (n c : Nat) (w : World) (hS : TextsAt w A n S) (hn : n ≤ 1048576) (hsz : ∀ s ∈ S, s.size ≤ 1048576) :
    Calls Try.prog 5 #[.slice A n c] w fun e w' => e = .returned (.bool true) ∧ Ext w w' := by
  by_cases hg : n ≤ 1000
  · have HN := hide (new_good 1048576 w (by omega) (by omega))
    have HS := hide hS; have HZ := hide hsz
    obtain ⟨i0, hi0, hz0, hz1, hz2⟩ := info_parts infoU8'
    have hmk := fun (w : World) => run_make (P := Try.prog) (w := w) 30 5 i0 _ Try.underlying30 hi0 hz0 .i64 .i64 0 64 (by omega) (by omega) (by rw [hz2]; omega) (by omega)
    rw [hz1] at hmk
    clear hS hsz hi0 hz0 hz1 hz2
    go_enter Try.func5, Try.ntmps5
    go_wp2_with fail
    refine HN.out.mono ?_
    rintro e w1 ⟨x, rfl, h1, x1⟩
    have HM := hide (MInv.start h1 (fun b hb => hb.1) x1); clear h1 x1
    go_wp2_with fail
    clear hmk
    go_loopw [5, 36] (fun s5 s36 w' => ∃ (i probes n' c' : Nat) (A' : Option Addr) (B : Nat → Prop) (k : List UInt8) (E : List (List UInt8 × Int)), i ≤ n ∧ s36 = .int .i64 i ∧ s5 = .slice A' n' c' ∧ probes ≤ i ∧ Hid (MInv w w' x probes B A' n' c' k E)) (fun _ s36 _ => n - (intOf s36).toNat)
    case atStart => exact ⟨0, 0, 0, 64, _, _, [], [], by omega, rfl, rfl, by omega, HM.out⟩
    case round =>
      obtain ⟨i, probes, n', c', A', B, k, E, hin, rfl, rfl, hpr, hM⟩ := hrel
      clear HM
      by_cases h : i < n
      · obtain ⟨b, off, s, rfl, hs, hb1, c0⟩ := (HS.out.ext hM.out.ext).get h
        have hss := HZ.out s (List.mem_of_getElem? hs)
        clear hs
        obtain ⟨⟨g, rfl⟩, hc1, hc2, _⟩ := hM.out.form
        have HM0 := hide (hM.out.pre 0 (Nat.zero_le _))
        have HB0 := hide HM0.out.ext.size
        go_wp2_with (first
          | (at_builtin; refine wpList_append_by rfl (.tmp 42) (.tmp 43) rfl w.heap.size (some ⟨g, 0, none⟩) 0 c' [] rfl HM0.out.own HM0.out.some_ HB0.out s rfl (by omega) ?_; intro A1 c1 w1 o1 k1 n1 g1; have HM1 := hide (HM0.out.app o1.out k1.out n1.out g1.out); have HB1 := hide HM1.out.ext.size; clear k1 g1)
          | (at_builtin; refine wpList_append_by rfl (.tmp 45) (.const (.string ⟨#[115, 112, 97, 114, 101]⟩)) rfl w.heap.size A1 (0 + s.size) c1 ([] ++ keyOf s) (by simp [go_sem]) o1.out n1.out HB1.out ⟨#[115, 112, 97, 114, 101]⟩ rfl (show 0 + s.size + 5 ≤ 4194304 by omega) ?_; intro A2 c2 w2 o2 k2 n2 g2; have HM2 := hide (HM1.out.app o2.out k2.out n2.out g2.out).norm; obtain ⟨⟨g2, rfl⟩, hc3, hc4, hk2⟩ := HM2.out.form; have hc5 : s.size ≤ c2 := (by omega); clear o2 k2 n2 g2 hk2))
        have HP := hide (put_any HM2.out.ix (by omega) (keyOf s) (i : Int) (some ⟨g2, 0, none⟩) s.size c2 HM2.out.pre_key HM2.out.aside (by omega))
        refine HP.out.mono ?_
        rintro e w3 ⟨old, had, err, E', B', rfl, hr, h3, hB3, hC3⟩
        have HM3 := hide (HM2.out.put h3 hB3 hC3)
        clear hr h3 hB3 hC3
        have hcv := HM3.out.text
        go_wp2_with fail
        go_roundw
        case rel => exact ⟨i + 1, probes + 1, _, _, _, _, _, _, by omega, by go_num, rfl, by omega, HM3.out⟩
        case measure => simp [intOf]; omega
      · have hpr2 : probes ≤ 1000 := by omega
        clear HS HZ hpr
        have HK1 := hide (keys_any hM.out.ix)
        have HM := hide (And.intro hM.out.ix (And.intro (fun b (hb : B b) => And.intro (hM.out.new b hb) (hM.out.ix.old b hb)) hM.out.ext))
        clear hM
        obtain ⟨W0, rfl⟩ : ∃ W0 : World, W0 = wr := ⟨_, rfl⟩
        go_wp2_with fail
        refine HK1.out.mono ?_
        rintro e WA ⟨psa, Aa, ca, rfl, ha, hpa, hsa⟩
        have HKA := hide ha
        have HPA := hide hpa
        have HK2 := hide (keys_any (HM.out.1.ext ha.ext))
        clear ha hpa hsa HK1
        go_wp2_with fail
        refine HK2.out.mono ?_
        rintro e WB ⟨psb, Ab, cb, rfl, hb, hpb, hsb⟩
        have HKB := hide hb
        have hpl := hpb.length_eq
        rw [List.length_map, List.length_map] at hpl
        have hplb : psb.length ≤ 1048576 := by have := HM.out.1.most; omega
        have HPB := hide (And.intro hpb (And.intro hsb (show psa.length = psb.length by have := HPA.out.length_eq; rw [List.length_map, List.length_map] at this; omega)))
        clear hb hpb hsb HK2 hpl
        rw [HPB.out.2.2]
        obtain ⟨i1, hi1, hy0, hy1, hy2⟩ := info_parts infoStr
        have hmk := run_make_n (P := Try.prog) 22 9 i1 _ Try.underlying22 hi1 hy0 (by omega) .i64 .i64 psb.length (by omega)
        simp only [hy1] at hmk
        clear hi1 hy0 hy1 hy2
        have hnl : ¬ (psb.length : Int) < 0 := by omega
        have HB0 := hide (show Blk (WB.alloc (.cells (madeCells #[.string ⟨#[]⟩] psb.length) 9)) WB.heap.size 9 (fillAt (txC psb) (.string ⟨#[]⟩) 0) by
          have e : psb.length = (txC psb).length := by simp [txC]
          rw [e, fillAt_zero]; exact Blk.new _ _ _)
        go_wp2_with fail
        clear hmk
        go_loopw [69] (fun s69 w' => ∃ i : Nat, i ≤ psb.length ∧ s69 = .int .i64 i ∧ Hid (Blk w' WB.heap.size 9 (fillAt (txC psb) (.string ⟨#[]⟩) i)) ∧ Hid (Ext WB w')) (fun s69 _ => psb.length - (intOf s69).toNat)
        case atStart => exact ⟨0, by omega, rfl, by first | exact HB0.out | (have := HB0.out; simpa using this), Ext.alloc _ _⟩
        case round =>
          obtain ⟨j, hj, rfl, hB, hX⟩ := hrel
          clear HB0
          by_cases hjl : j < psb.length
          · have hp : psb[j]? = some psb[j] := List.getElem?_eq_getElem hjl
            obtain ⟨gb, rfl, e0, hKy, _⟩ := (HKB.out.at_.ext hX.out).get hp
            have hcv := key_conv hKy psb[j].c
            have hset := hide (show (fillAt (txC psb) (.string ⟨#[]⟩) j).setIfInBounds j (.string ⟨psb[j].r.toArray⟩) = fillAt (txC psb) (.string ⟨#[]⟩) (j + 1) from fillAt_set _ _ j _ (by rw [txC, List.getElem?_map, hp]; rfl))
            have e1 : wr.cell? ⟨WB.heap.size, j, none⟩ = some (.string ⟨#[]⟩) := (hB.out.cell j).trans (fillAt_get _ _ j (by simp [txC]; exact hjl))
            have e2 : wr.frozen? ⟨WB.heap.size, j, none⟩ = false := hB.out.frozen j
            clear hp hKy
            generalize psb[j] = pj at *
            go_wp2_with fail
            go_roundw
            case rel => exact ⟨j + 1, by omega, by go_num, by rw [← hset.out]; exact hB.out.set_ j _, hX.out.setCell (Nat.le_refl _) _⟩
            case measure => simp [intOf]; omega
          · have hjj : j = (txC psb).length := by simp [txC]; omega
            rw [hjj, fillAt_end] at hB
            clear hjj
            have HXW := hide (HKA.out.ext.trans (HKB.out.ext.trans hX.out))
            have HD := hide (show MMid w W0.heap.size WA.heap.size wr x probes B E psb Ab cb WB.heap.size from ⟨HM.out.1.ext HXW.out, HM.out.2.1, HKB.out.at_.ext hX.out, hB.out, HKB.out.ext.size, ⟨HKA.out.ext.size, HM.out.2.2.size⟩, HPB.out.1, HPB.out.2.1, HM.out.2.2.trans HXW.out⟩)
            have hna : psb.length ≤ 1048576 := hplb
            have HR := hide (show RawAt wr (fun g => (W0.heap.size ≤ g ∧ g < WA.heap.size) ∨ wr.heap.size ≤ g) Aa psb.length 0 from HPB.out.2.2 ▸ ((HKA.out.at_.raw (HKA.out.at_.small HPA.out HM.out.1.small)).soft (D := fun _ => False) (Soft.of (HKB.out.ext.trans hX.out))).mono fun g hg => .inl hg)
            clear hB hX HM HKA HPA HKB HXW
            obtain ⟨WS, rfl⟩ : ∃ WS : World, WS = wr := ⟨_, rfl⟩
            obtain ⟨C, hC⟩ : ∃ C : Nat → Prop, C = fun g => (W0.heap.size ≤ g ∧ g < WA.heap.size) ∨ WS.heap.size ≤ g := ⟨_, rfl⟩
            rw [← hC] at HR
            have HCO := hide (show ∀ g, C g → g < WS.heap.size → W0.heap.size ≤ g ∧ g < WA.heap.size from fun g hg hl => by rw [hC] at hg; omega)
            have HCN := hide (show ∀ k, WS.heap.size ≤ k → C k from fun k hk => by rw [hC]; exact .inr hk)
            clear hC
            go_wp2_with fail
            go_loopw [83] (fun s83 w' => ∃ i : Nat, i ≤ psb.length ∧ s83 = .int .i64 i ∧ Hid (RawAt w' C Aa psb.length 0) ∧ Hid (Chg C WS w')) (fun s83 _ => psb.length - (intOf s83).toNat)
            case atStart => exact ⟨0, by omega, rfl, HR.out, Chg.refl _ _⟩
            case round =>
              obtain ⟨i, hi, rfl, hR, hX⟩ := hrel
              clear HR
              by_cases hil : i < psb.length
              · obtain ⟨ga, csa, rfl, hga, hRR⟩ := hR.out (by omega)
                obtain ⟨Ak, mk, ck, hk1, hk2, _⟩ := hRR.keys i hil
                have HRR := hide hRR
                have HGA := hide hga
                have hmk : mk ≤ 9223372036854775807 := by
                  obtain ⟨A', n', c', xs, e, ho, _⟩ := hk2
                  injection e with e1 e2 e3
                  subst e2
                  rcases ho.2 with ⟨_, h0⟩ | ⟨_, cap, _, _, _, _, h4, h5, _⟩
                  · omega
                  · unfold maxLen at h5; omega
                have e0 : wr.cell? ⟨ga, i, none⟩ = some (.slice Ak mk ck) := (hRR.blk.cell i).trans hk1
                clear hR hRR hga hk2
                obtain ⟨W4, rfl⟩ : ∃ W4 : World, W4 = wr := ⟨_, rfl⟩
                go_wp2_with fail
                go_loopw [91] (fun s91 w' => ∃ j : Nat, j ≤ mk ∧ s91 = .int .i64 j ∧ Hid (RowRaw w' C ga psb.length 0 csa) ∧ Hid (Chg C WS w')) (fun s91 _ => mk - (intOf s91).toNat)
                case atStart => exact ⟨0, by omega, rfl, HRR.out, hX.out⟩
                case round =>
                  obtain ⟨j, hj, rfl, hR, hX⟩ := hrel
                  clear HRR
                  by_cases hjl : j < mk
                  · obtain ⟨A', m', c', hk3, hk2, _⟩ := hR.out.keys i hil
                    rw [hk1] at hk3
                    injection hk3 with hk3
                    injection hk3 with e1 e2 e3
                    subst e1; subst e2; subst e3
                    obtain ⟨gk, u, rfl, hgk, f1, f2, hs⟩ := hk2.byte hjl
                    have e0 : wr.cell? ⟨ga, i, none⟩ = some (.slice (some ⟨gk, 0, none⟩) mk ck) := (hR.out.blk.cell i).trans hk1
                    have HSO := hide hs
                    clear hk2 hs hk1
                    go_wp2_with fail
                    go_roundw
                    case rel => exact ⟨j + 1, by omega, by go_num, hR.out.soft (HSO.out _), hX.out.trans' (HSO.out _).chg⟩
                    case measure => simp [intOf]; omega
                  · go_wp2_with fail
                    go_roundw
                    case rel => exact ⟨i + 1, by omega, by go_num, fun _ => ⟨ga, csa, rfl, HGA.out, hR.out⟩, hX.out⟩
                    case measure => simp [intOf]; omega
              · go_wp2_with fail
                go_loopw [106] (fun s106 w' => ∃ i : Nat, i ≤ psb.length ∧ s106 = .int .i64 i ∧ Hid (RawAt w' C Aa psb.length i) ∧ Hid (Chg C WS w')) (fun s106 _ => psb.length - (intOf s106).toNat)
                case atStart => exact ⟨0, by omega, rfl, hR.out, hX.out⟩
                case round =>
                  obtain ⟨j, hj, rfl, hR, hX⟩ := hrel
                  by_cases hjl : j < psb.length
                  · obtain ⟨ga, csa, rfl, hga, hRR⟩ := hR.out (by omega)
                    obtain ⟨Ak, mk, ck, hk1, hk2, hk3⟩ := hRR.keys j hjl
                    have hk3 := hk3 (Nat.le_refl _)
                    have HRR := hide hRR
                    have HGA := hide hga
                    have HK2 := hide (hk2.soft (D := fun _ => False) (Soft.of (Ext.alloc wr (.cells #[.int .u8 1, .int .u8 2, .int .u8 3, .int .u8 4, .int .u8 5, .int .u8 6, .int .u8 7, .int .u8 8] 5))))
                    have HN8 := hide (Blk.new wr 5 #[.int .u8 1, .int .u8 2, .int .u8 3, .int .u8 4, .int .u8 5, .int .u8 6, .int .u8 7, .int .u8 8])
                    have e0 : wr.cell? ⟨ga, j, none⟩ = some (.slice Ak mk ck) := (hRR.blk.cell j).trans hk1
                    have HK1 := hide hk1
                    have HR1 := hide (hRR.soft (D := C) (Soft.of (Ext.alloc wr (.cells #[.int .u8 1, .int .u8 2, .int .u8 3, .int .u8 4, .int .u8 5, .int .u8 6, .int .u8 7, .int .u8 8] 5))))
                    have HX1 := hide (hX.out.trans' (Chg.of (Ext.alloc wr (.cells #[.int .u8 1, .int .u8 2, .int .u8 3, .int .u8 4, .int .u8 5, .int .u8 6, .int .u8 7, .int .u8 8] 5))))
                    clear hR hRR hga hk2 hk1
                    go_wp2_with (at_builtin; refine wpList_append_raw rfl (.tmp 114) (.tmp 115) rfl C Ak mk ck rfl HK2.out (by omega) ⟨wr.heap.size, 0, none⟩ 8 8 rfl [.int .u8 1, .int .u8 2, .int .u8 3, .int .u8 4, .int .u8 5, .int .u8 6, .int .u8 7, .int .u8 8] rfl (World.news_of_block (cs := #[.int .u8 1, .int .u8 2, .int .u8 3, .int .u8 4, .int .u8 5, .int .u8 6, .int .u8 7, .int .u8 8]) HN8.out) (by intro u hu; simp only [List.mem_cons, List.not_mem_nil, or_false] at hu; rcases hu with rfl | rfl | rfl | rfl | rfl | rfl | rfl | rfl <;> rfl) (by omega) (by omega) ?_; intro A7 c7 w7 k7 s7; have e5 : w7.cell? ⟨ga, j, none⟩ = some (.slice Ak mk ck) := ((s7.out.blk HR1.out.blk (by decide)).cell j).trans HK1.out; have e6 : w7.frozen? ⟨ga, j, none⟩ = false := (s7.out.blk HR1.out.blk (by decide)).frozen j; have HP7 := hide (HR1.out.put s7.out k7.out (fun k hk => HCN.out k (Nat.le_trans HX1.out.size hk)) HGA.out hjl))
                    go_roundw
                    case rel => exact ⟨j + 1, by omega, by go_num, fun _ => ⟨ga, _, rfl, HGA.out, HP7.out.1⟩, HX1.out.trans' HP7.out.2⟩
                    case measure => simp [intOf]; omega
                  · have HD2 := hide (HD.out.far hX.out HCO.out)
                    have HKD := hide (keys_any HD2.out.ix)
                    clear HD HCO HCN hX
                    go_wp2_with fail
                    refine HKD.out.mono ?_
                    rintro e WD ⟨psd, Ad, cd, rfl, hd, hpd, hsd⟩
                    have HD3 := hide (HD2.out.go hd.ext)
                    have hrd := hide (show psd.map KP.r = psb.map KP.r from sorted_one hsd HD3.out.sorted (hpd.trans HD3.out.perm.symm))
                    have hld : psd.length = psb.length := by have := congrArg List.length hrd.out; simpa using this
                    rw [hld]
                    have HLD := hide hld
                    have HKD2 := hide (And.intro (show KAt wr.heap.size WD psd Ad cd from hd.at_) (show w.heap.size ≤ wr.heap.size ∧ WA.heap.size ≤ wr.heap.size from ⟨HD2.out.ext.size, by
                      have h1 := HD2.out.txt.lt
                      have h2 := HD2.out.gt
                      have h3 := HD2.out.sub
                      omega⟩))
                    clear hd hpd hsd HKD hld HD2
                    go_wp2_with fail
                    obtain ⟨W5, rfl⟩ : ∃ W5 : World, W5 = wr := ⟨_, rfl⟩
                    go_loopw [135] (fun s135 w' => ∃ i : Nat, i ≤ psb.length ∧ s135 = .int .i64 i ∧ Hid (MMid w W0.heap.size WA.heap.size w' x (probes + i) B E psb Ab cb WB.heap.size) ∧ Hid (KAt W5.heap.size w' psd Ad cd)) (fun s135 _ => psb.length - (intOf s135).toNat)
                    case atStart => exact ⟨0, by omega, rfl, HD3.out, HKD2.out.1⟩
                    case round =>
                      obtain ⟨i, hi, rfl, hD, hKD⟩ := hrel
                      clear HD3
                      by_cases hil : i < psb.length
                      · have hp : psb[i]? = some psb[i] := List.getElem?_eq_getElem hil
                        have hil2 : i < psd.length := by rw [HLD.out]; exact hil
                        have hq : psd[i]? = some psd[i] := List.getElem?_eq_getElem hil2
                        have hqr : psd[i].r = psb[i].r := by
                          have h1 : (psd.map KP.r)[i]? = (psb.map KP.r)[i]? := by rw [hrd.out]
                          rw [List.getElem?_map, List.getElem?_map, hp, hq] at h1
                          simpa using h1
                        obtain ⟨gb, rfl, e0, hKy, hbA⟩ := hD.out.kat.get hp
                        obtain ⟨gd, rfl, d0, hKq, _⟩ := hKD.out.get hq
                        have hin : psb[i].r ∈ E.map (·.1) := hD.out.perm.mem_iff.1 (List.mem_map_of_mem (List.mem_of_getElem? hp))
                        have hsm := hD.out.ix.small _ hin
                        have t0 : wr.cell? ⟨WB.heap.size, i, none⟩ = some (.string ⟨psb[i].r.toArray⟩) := (hD.out.txt.cell i).trans (by rw [List.getElem?_toArray, txC, List.getElem?_map, hp]; rfl)
                        have hpn := hKy.len
                        have HG := hide (get_any hD.out.ix (by have := hD.out.ix.most; omega) psb[i].r psb[i].A psb[i].n psb[i].c hKy (fun a ha hb => by
                          have h1 := hbA a ha
                          have h2 := hD.out.low _ hb
                          have h3 := hD.out.sub
                          omega) (by omega))
                        have HIN := hide hin; have HPI := hide hp; have HQI := hide hq; have HQR := hide hqr; have HLW := hide (fun b (hb : B b) => (hD.out.low b hb).2); have HSB := hide hD.out.sub
                        clear hp hq hqr hbA hin hsm hpn hKy hKq
                        generalize psb[i] = pi at *
                        generalize psd[i] = qi at *
                        clear d0
                        go_wp2_with fail
                        refine HG.out.mono ?_
                        rintro e w3 ⟨r, rfl, hr, h3, hC3⟩
                        have hsome : r.isSome = true := by
                          cases r with
                          | some v => rfl
                          | none =>
                            obtain ⟨⟨k0, v0⟩, hm, e⟩ := List.mem_map.1 HIN.out
                            exact absurd (by rw [← e]; exact hm) (hr.2 rfl v0)
                        rw [hsome]
                        have HD3 := hide (hD.out.get h3 hC3)
                        have HKD3 := hide (hKD.out.far hC3 fun g h1 _ h3 => by
                          have h4 := HLW.out g h3
                          have h5 := HSB.out
                          have h6 := HKD2.out.2
                          omega)
                        clear hr h3 hC3 hsome HG e0 t0
                        obtain ⟨e0, hKy⟩ := HD3.out.kat.has HPI.out
                        obtain ⟨d0, hKq⟩ := HKD3.out.has HQI.out
                        rw [HQR.out] at hKq
                        have t0 : w3.cell? ⟨WB.heap.size, i, none⟩ = some (.string ⟨pi.r.toArray⟩) := (HD3.out.txt.cell i).trans (by rw [List.getElem?_toArray, txC, List.getElem?_map, HPI.out]; rfl)
                        have cv1 := fun (w1 : World) (h : Ext w3 w1) => key_conv (hKy.ext h) pi.c
                        have cv2 := fun (w1 : World) (h : Ext w3 w1) => key_conv (hKq.ext h) qi.c
                        have e0 := cell_ext e0
                        have d0 := cell_ext d0
                        have t0 := cell_ext t0
                        clear hKy hKq
                        go_wp2_with fail
                        refine wp_region_ext 26 (by kernel_rfl) (by kernel_rfl) (by kernel_rfl) ?_
                        iterate 26
                          refine wpE_k (by kernel_rfl) (by kernel_rfl) ?_
                          apply Exists.intro
                          refine ⟨fun w1 hw1 => ?_, fun K hK => ?_⟩
                          · go_simp; first | done | rfl
                          go_simp; refine hK _ _ ?_; clear hK K
                        refine wpE_nil ⟨rfl, by kernel_rfl, fun wq hwq => ?_⟩
                        simp only [EndQ]
                        refine wpList_nil ?_
                        have HD4 := hide (HD3.out.go hwq)
                        have HKD4 := hide (HKD3.out.ext hwq)
                        clear e0 d0 t0 cv1 cv2 hwq
                        go_wp2_with fail
                        go_roundw
                        case rel => exact ⟨i + 1, by omega, by go_num, by rw [← Nat.add_assoc]; exact HD4.out, HKD4.out⟩
                        case measure => simp [intOf]; omega
                      · have HA := hide (awake_hid wr)
                        go_wp2_with fail
                        refine HA.out.mono ?_
                        rintro e w6 ⟨rfl, x6⟩
                        have X6 := hide (hD.out.ext.trans x6); clear x6
                        go_wp2_with fail
                        go_ret
                        exact ⟨rfl, X6.out⟩
  · have hg : 1000 < n := by omega
    go_enter Try.func5, Try.ntmps5
    go_wp2_with fail
    refine (awake_hid _).mono ?_
    rintro e w6 ⟨rfl, x6⟩
    have X6 := hide x6; clear x6
    go_wp2_with fail
    go_ret
    exact ⟨rfl, X6.out⟩
end Go.Proofs.Ytlpbkhdpfmknkaa
