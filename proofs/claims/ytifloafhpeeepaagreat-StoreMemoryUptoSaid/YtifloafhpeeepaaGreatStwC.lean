/-
  StoreMemory: the law.
-/
import Derived.Test.YtifloafhpeeepaaGreatStwB
import Derived.Test.YtifloafhpeeepaaGreatExtO
namespace Go.Proofs.YtifloafhpeeepaaGreat
open Go.RowKit

set_option maxRecDepth 100000 in
set_option maxHeartbeats 4000000 in
theorem law_memory (rows : List (List V)) (A : Option Addr) (n c : Nat) (w : World) (ha : LAt RRow 1 w A n rows) (_hc : n ≤ c) (hn : n ≤ 1048576) (hr : ∀ r ∈ rows, r.length ≤ 1048576 ∧ smallR r) (hwf : ∀ r ∈ rows, wfR r) :
    Calls Tryz.prog 3 #[.slice A n c] w fun e w' => e = .returned (.bool true) ∧ Ext w w' := by
  have HA := hide ha; have HR := hide hr; have HWF := hide hwf
  have HNW := hide (new_good_st (w := ((w.alloc (.cells #[.int .i64 1] 3)).alloc (.cells #[] 3)).alloc (.cells #[.slice (some ⟨w.heap.size, 0, none⟩) 1 1, .slice (some ⟨w.heap.size + 1, 0, none⟩) 0 0] 27)) (width := 3) (most := 50) 2 (nums_two w) (by decide) (by simp) (by decide))
  have HE0 := hide (((Ext.alloc w (.cells #[.int .i64 1] 3)).alloc' (.cells #[] 3)).alloc' (.cells #[.slice (some ⟨w.heap.size, 0, none⟩) 1 1, .slice (some ⟨w.heap.size + 1, 0, none⟩) 0 0] 27))
  clear ha hr hwf
  go_enter Tryz.func3, Tryz.ntmps3
  go_wp2_with fail
  refine HNW.out.mono ?_
  rintro e w1 ⟨x, B, rfl, x1, hst, hb, hlt⟩
  have HS0 := hide ((FP.of (w0 := w) hst (fun b hbb => Nat.le_trans HE0.out.size (hb b hbb)) (HE0.out.trans x1) hlt).mono (Q := fun _ => False) fun b hb => hb.elim)
  clear hst hb hlt x1 HNW HE0
  go_wp2_with fail
  go_loopw [43] (fun s43 w' => ∃ (i : Nat) (S : SAbs) (N : Nat), i ≤ n ∧ s43 = .int .i64 i ∧ Hid (FP w w' x S N (fun _ => False)) ∧ Hid (S.width = 3 ∧ S.most = 50 ∧ S.gs = [[1], []] ∧ S.old = none ∧ N ≤ i + 1)) (fun s43 _ => n - (intOf s43).toNat)
  case atStart => exact ⟨0, _, 1, by omega, rfl, HS0, rfl, rfl, rfl, rfl, by omega⟩
  case round => as_aux_lemma =>
    clear HS0
    obtain ⟨i, S, N, hin, rfl, hF, hS⟩ := hrel
    by_cases hi : i < n
    · obtain ⟨b, off, r, A9, c9, rfl, hri, hcell, hrow⟩ := HA.out.rowS hi
      have hcell := hF.out.ext0.cell hcell
      have hrm := List.mem_of_getElem? hri
      have HARG := hide (show ArgR wr A9 r.length r from ⟨hrow.ext hF.out.ext0, (HR.out r hrm).1, (HR.out r hrm).2, HWF.out r hrm⟩)
      have HCP := hide (copy_argP (c := c9) HARG.out)
      have HPS := hide (putS_same S r)
      have HPO := hide (show (putS S r).1.old = S.old from by
        unfold putS
        split
        · split
          · rfl
          · split <;> rfl
        · rfl)
      have hin2 : (i : Int) < (n : Int) := by omega
      clear hri hrow hrm
      go_wp2_with ((with_reducible refine HCP.out.mono ?_); rintro e w2 ⟨A2, c2, rfl, ha2, hb2, hx2⟩; have HA2 := hide ha2; have HB2 := hide hb2; have X2 := hide hx2; clear ha2 hb2 hx2)
      have HP := hide ((hF.out.ext X2.out).put (by have := hS.out.2.2.2.2; omega) c2 HA2.out (fun a ha => .inr (HB2.out a ha)))
      refine HP.out.mono ?_
      rintro e w5 ⟨rfl, h5, -⟩
      have F5 := hide h5; clear h5 HP
      go_wp2_with fail
      go_roundw
      case rel => exact ⟨i + 1, _, N + 1, by omega, by go_num, F5.out.mono fun b hb => hb.elim, HPS.out.1.trans hS.out.1, HPS.out.2.1.trans hS.out.2.1, HPS.out.2.2.1.trans hS.out.2.2.1, HPO.out.trans hS.out.2.2.2.1, by have := hS.out.2.2.2.2; omega⟩
      case measure => simp [intOf]; omega
    · obtain rfl : i = n := by omega
      go_upto_region 10 with fail
      have E4 := hide (Ext.alloc wr (.cells #[.slice none 0 0, .slice none 0 0, .slice none 0 0, .slice none 0 0] 34))
      have AB := hide (Blk.new wr 34 #[.slice none 0 0, .slice none 0 0, .slice none 0 0, .slice none 0 0])
      have F4 := hide (hF.out.ext E4.out)
      have hRW := F4.out.rowsM
      have HFIT := hide hF.out.fit
      obtain ⟨len, hlen⟩ : ∃ len, S.rows.length = len := ⟨_, rfl⟩
      rw [hlen] at hRW
      have HRW := hide hRW
      have HLEN := hide hlen
      have HL50 := hide (show len ≤ 50 by have := HFIT.out.1; have := hS.out.2.1; omega)
      have HSM := hide (show ∀ r ∈ S.rows, r.length ≤ 30 from fun r hr => by
        have h1 := (HFIT.out.2.1 r hr).1
        unfold fitsR at h1
        simp only [Bool.and_eq_true, decide_eq_true_eq] at h1
        have := hS.out.1
        omega)
      clear hlen hRW hi
      generalize hw4 : wr.alloc (.cells #[.slice none 0 0, .slice none 0 0, .slice none 0 0, .slice none 0 0] 34) = w4 at *
      clear hw4
      go_wp2_with ((with_reducible refine HRW.out.mono ?_); rintro e w5 ⟨A5, c5, M5, rfl, hm5, h5, k5, q5⟩; have F5 := hide h5; have K5 := hide k5; have Q5 := hide q5; have L5 := hide (hm5.told (P := fun _ => True) fun _ _ _ => trivial).lat; clear h5 hm5 q5 k5)
      have HCA := hide (copy_all S.rows A5 len c5 w5 L5.out (by have := HL50.out; omega) (fun r hr => by have := HSM.out r hr; omega))
      refine HCA.out.mono ?_
      rintro e w6 h6
      obtain ⟨A6, c6, he6, x6, q6⟩ := told_retrows h6
      rw [HLEN.out] at he6 q6
      subst he6
      obtain ⟨P6, lab6, hM6⟩ := mem_start hF.out E4.out AB.out F5.out K5.out Q5.out x6 q6
      have M6 := hide hM6
      obtain ⟨ab, hab⟩ : ∃ ab, wr.heap.size = ab := ⟨_, rfl⟩
      rw [hab] at M6 ⊢
      clear hab hM6 x6 q6 h6 HCA L5 F5 K5 Q5 HRW F4 AB E4 hF
      go_wp2_with fail
      go_loopw [55] (fun s55 w' => ∃ (k N2 : Nat) (P : Nat → Prop) (lab : LabT), k ≤ 4 ∧ s55 = .int .i64 k ∧ Hid (MemI w w' x S N2 P lab ab (iniTo k S.rows) A6 len c6) ∧ Hid (N2 ≤ N + 1 + 2 * k)) (fun s55 _ => 4 - (intOf s55).toNat)
      case atStart => exact ⟨0, N + 1, P6, lab6, by omega, rfl, M6, hide (by omega)⟩
      case round => as_aux_lemma =>
        clear M6
        obtain ⟨k, N2, P, lab, hk4, rfl, hM, hN2⟩ := hrel
        by_cases hk : k < 4
        · have hRW := hM.out.fp.rowsA
          rw [HLEN.out] at hRW
          have HRW := hide hRW
          have hk2 : (k : Int) < 4 := by omega
          have ht2 : Int.tmod (k : Int) 2 = ((k % 2 : Nat) : Int) := (Int.ofNat_tmod k 2).symm
          clear hRW
          go_upto_region 15 with ((with_reducible refine HRW.out.mono ?_); rintro e w7 ⟨A7, c7, M7, rfl, hm7, f7, k7, q7⟩; have hq7 := hM.out.q.keep k7 (lab' := lab) (Q := P) (fun g hg => ⟨hg, rfl⟩); obtain ⟨v7, g7⟩ := hq7.cell hk; have fz7 := hq7.frozen k; have HPUT := hide (hM.out.put hk hm7 f7 k7 q7); clear hm7 f7 k7 q7 hq7)
          clear g7 fz7
          obtain ⟨lab8, hM8⟩ := HPUT.out
          generalize w7.setCell ⟨ab, k, none⟩ (.slice A7 len c7) = w8 at *
          generalize And' (And' P M7 w7.heap.size) w7.heap.size w7.heap.size = P8 at *
          have M8 := hide hM8
          clear hM8 HPUT HRW hM
          by_cases h2 : k % 2 = 1
          · have h2' : ((k % 2 : Nat) : Int) = 1 := by omega
            have hGR := M8.out.fp.groupA (by have := hN2.out; have := hS.out.2.2.2.2; omega) (k := 1) (by rw [hS.out.2.2.1]; decide) (r := []) (A := none) (n := 0) 0 (arg_none w8)
            rw [grp_all (S := S) (k := 1) (by rw [hS.out.2.2.1]; rfl), HLEN.out] at hGR
            have HGR := hide (show Calls Tryz.prog 13 #[.pointer (some ⟨x, 0, none⟩), .int .i64 1, .slice none 0 0] w8 _ from hGR)
            clear hGR h2
            go_upto_region 17 with ((with_reducible refine HGR.out.mono ?_); rintro e w9 ⟨A9, c9, M9, rfl, hm9, f9, k9, q9⟩; have hq9 := M8.out.q.keep k9 (lab' := lab8) (Q := P8) (fun g hg => ⟨hg, rfl⟩); obtain ⟨v9, g9⟩ := hq9.cell hk; have fz9 := hq9.frozen k; have HPUT := hide (M8.out.put hk hm9 f9 k9 q9); clear hm9 f9 k9 q9 hq9)
            clear g9 fz9
            obtain ⟨lab10, hM10⟩ := HPUT.out
            rw [List.set_set] at hM10
            generalize w9.setCell ⟨ab, k, none⟩ (.slice A9 len c9) = w10 at *
            generalize And' (And' P8 M9 w9.heap.size) w9.heap.size w9.heap.size = P10 at *
            have M10 := hide (show MemI w w10 x S (N2 + 1 + 1) P10 lab10 ab (iniTo (k + 1) S.rows) A6 len c6 from hM10)
            clear hM10 HPUT HGR M8
            obtain ⟨A11, c11, g11, hs11⟩ := M10.out.sameAt (iniTo_at S.rows k hk) (by have := HLEN.out; have := HL50.out; omega) HSM.out
            rw [HLEN.out] at g11 hs11
            have HSA := hide hs11
            clear hs11
            go_wp2_with fail
            refine HSA.out.mono ?_
            rintro e w11 ⟨rfl, x11⟩
            have M11 := hide (M10.out.ext x11)
            clear x11 HSA M10
            go_wp2_with fail
            go_roundw
            case rel => exact ⟨k + 1, N2 + 1 + 1, _, _, by omega, by go_num, M11, hide (by have := hN2.out; omega)⟩
            case measure => simp [intOf]; omega
          · have h2' : ¬ ((k % 2 : Nat) : Int) = 1 := by omega
            have M10 := hide (show MemI w w8 x S (N2 + 1) P8 lab8 ab (iniTo (k + 1) S.rows) A6 len c6 from M8.out)
            clear M8 h2
            go_upto_region 17 with fail
            obtain ⟨A11, c11, g11, hs11⟩ := M10.out.sameAt (iniTo_at S.rows k hk) (by have := HLEN.out; have := HL50.out; omega) HSM.out
            rw [HLEN.out] at g11 hs11
            have HSA := hide hs11
            clear hs11
            go_wp2_with fail
            refine HSA.out.mono ?_
            rintro e w11 ⟨rfl, x11⟩
            have M11 := hide (M10.out.ext x11)
            clear x11 HSA M10
            go_wp2_with fail
            go_roundw
            case rel => exact ⟨k + 1, N2 + 1, _, _, by omega, by go_num, M11, hide (by have := hN2.out; omega)⟩
            case measure => simp [intOf]; omega
        · obtain rfl : k = 4 := by omega
          have HG0 := hide (show S.gs[0]? = some [1] by rw [hS.out.2.2.1]; rfl)
          have HKY := hide (show Calls Tryz.prog 15 #[.pointer (some ⟨x, 0, none⟩), .int .i64 0] wr _ from hM.out.fp.keys HG0.out)
          have HK0 := hide hM.out
          clear hM
          go_wp2_with ((with_reducible refine HKY.out.mono ?_); rintro e w7 ⟨A7, c7, K, hK, rfl, hm7, x7⟩; have HK := hide hK; have X7 := hide x7; have M7 := hide hm7; clear hK hm7 x7)
          obtain ⟨kl, hkl⟩ : ∃ kl, K.length = kl := ⟨_, rfl⟩
          have HKL := hide hkl
          have HKS := hide (show ∀ r ∈ K, r.length ≤ 1048576 from fun r hr => key_small (HK.out.good r hr))
          have HK50 := hide (show kl ≤ 50 by have h1 := keysS_len S [1]; have h2 := HK.out.eq; have h3 := HLEN.out; have h4 := HL50.out; rw [← h2] at h1; omega)
          have hca := copy_all K A7 kl c7 w7 (by rw [← hkl]; exact (M7.out.told (P := fun _ => True) fun _ _ _ => trivial).lat) (by have := HK50.out; omega) (fun r hr => by have := HKS.out r hr; omega)
          have HCA := hide hca
          clear hca HKY
          rw [hkl]
          clear hkl
          go_wp2_with fail
          refine HCA.out.mono ?_
          rintro e w8 h8
          obtain ⟨A8, c8, he8, x8, q8⟩ := told_retrows h8
          rw [HKL.out] at he8
          subst he8
          have X8 := hide x8; have Q8 := hide q8
          have HKY := hide (show Calls Tryz.prog 15 #[.pointer (some ⟨x, 0, none⟩), .int .i64 0] w8 _ from ((HK0.out.ext X7.out).ext x8).fp.keys HG0.out)
          clear HCA h8 x8 q8
          go_wp2_with fail
          refine HKY.out.mono ?_
          rintro e w9 ⟨A9, c9, K', hK', rfl, hm9, x9⟩
          obtain rfl : K = K' := HK.out.eq.trans hK'.eq.symm
          have Q8' := Q8.out
          obtain ⟨PJ, lab, hJ⟩ := MemJ.start HK0.out M7.out X7.out HKS.out X8.out Q8.out hm9 x9
          rw [iniTo_four] at hJ
          have J := hide hJ
          rw [HKL.out]
          clear hJ hm9 x9 hK' HKY X8 Q8 X7 M7 HK0 Q8'
          go_wp2_with fail
          go_loopw [15] (fun s15 w' => ∃ (a : Nat) (P : Nat → Prop), a ≤ 4 ∧ s15 = .int .i64 a ∧ Hid (MemJ w w' x S N2 P lab ab (lstTo a S.rows) A6 len c6 K A7 c7 A8 c8 A9 c9)) (fun s15 _ => 4 - (intOf s15).toNat)
          case atStart => exact ⟨0, PJ, by omega, rfl, J⟩
          case round => as_aux_lemma =>
            clear J
            obtain ⟨a, P, ha4, rfl, hJ⟩ := hrel
            by_cases ha : a < 4
            · have ha2 : (a : Int) < 4 := by omega
              obtain ⟨A11, c11, g11, hs11⟩ := hJ.out.m.sameAt (lstTo_old S.rows a a (Nat.le_refl _) ha) (by have := HLEN.out; have := HL50.out; omega) HSM.out
              rw [HLEN.out] at g11 hs11
              have HSA := hide hs11
              clear hs11
              go_upto_region 28 with ((with_reducible refine HSA.out.mono ?_); rintro e w11 ⟨rfl, x11⟩; have J11 := hide (hJ.out.ext x11); have g11 := x11.cell g11; clear x11)
              have JI := hide (show MemJ w w11 x S N2 (And' P wr.heap.size w11.heap.size) lab ab ((lstTo a S.rows).set a (rowsTo a 0 S.rows)) A6 len c6 K A7 c7 A8 c8 A9 c9 from by
                rw [show rowsTo a 0 S.rows = S.rows from rfl, set_idem (lstTo_old S.rows a a (Nat.le_refl _) ha)]
                exact J11.out)
              clear HSA hJ J11
              go_wp2_with fail
              clear g11
              go_loopw [105] (fun s105 w' => ∃ (b : Nat) (P : Nat → Prop), b ≤ len ∧ s105 = .int .i64 b ∧ Hid (MemJ w w' x S N2 P lab ab ((lstTo a S.rows).set a (rowsTo a b S.rows)) A6 len c6 K A7 c7 A8 c8 A9 c9)) (fun s105 _ => len - (intOf s105).toNat)
              case atStart => exact ⟨0, _, by omega, rfl, JI⟩
              case round => as_aux_lemma =>
                clear JI
                obtain ⟨b, P2, hbl, rfl, hJ⟩ := hrel
                have HLI := hide (show ∀ rs, ((lstTo a S.rows).set a rs)[a]? = some rs from fun rs => List.getElem?_set_self (by rw [lstTo_len]; exact ha))
                by_cases hb : b < len
                · have hb2 : (b : Int) < (len : Int) := by omega
                  obtain ⟨r, hr⟩ : ∃ r, S.rows[b]? = some r := ⟨_, List.getElem?_eq_getElem (by have := HLEN.out; omega)⟩
                  obtain ⟨lb, cl, Ar, cr, g1, g2, -⟩ := hJ.out.m.q.row (HLI.out _) ((rowsTo_old a S.rows b b (Nat.le_refl _)).trans hr)
                  rw [rowsTo_len, HLEN.out] at g1
                  have HRR := hide hr
                  have hr30 := hide (HSM.out r (List.mem_of_getElem? hr))
                  have JI := hide (show MemJ w wr x S N2 P2 lab ab ((lstTo a S.rows).set a ((rowsTo a b S.rows).set b (markTo (a * 1000 + b * 3) 0 r))) A6 len c6 K A7 c7 A8 c8 A9 c9 from by
                    rw [show markTo (a * 1000 + b * 3) 0 r = r from rfl, set_idem ((rowsTo_old a S.rows b b (Nat.le_refl _)).trans hr)]
                    exact hJ.out)
                  clear hr hJ
                  go_wp2_with fail
                  clear g1 g2
                  go_loopw [115] (fun s115 w' => ∃ (q : Nat) (P : Nat → Prop), q ≤ r.length ∧ s115 = .int .i64 q ∧ Hid (MemJ w w' x S N2 P lab ab ((lstTo a S.rows).set a ((rowsTo a b S.rows).set b (markTo (a * 1000 + b * 3) q r))) A6 len c6 K A7 c7 A8 c8 A9 c9)) (fun s115 _ => r.length - (intOf s115).toNat)
                  case atStart => exact ⟨0, _, by omega, rfl, JI⟩
                  case round => as_aux_lemma =>
                    clear JI
                    obtain ⟨q, P3, hql, rfl, hJ⟩ := hrel
                    by_cases hq : q < r.length
                    · have hq2 : (q : Int) < (r.length : Int) := by omega
                      have hL50 := HL50.out; have hr3 := hr30.out
                      have hw1 : IntKind.i64.wrap ((a : Int) * 1000) = (a : Int) * 1000 := IntWalk.i64_in _ (by omega)
                      have hw2 : IntKind.i64.wrap ((b : Int) * 3) = (b : Int) * 3 := IntWalk.i64_in _ (by omega)
                      have hw3 : IntKind.i64.wrap ((a : Int) * 1000 + (b : Int) * 3) = (a : Int) * 1000 + (b : Int) * 3 := IntWalk.i64_in _ (by omega)
                      have hw4 : IntKind.i64.wrap ((a : Int) * 1000 + (b : Int) * 3 + (q : Int)) = (a : Int) * 1000 + (b : Int) * 3 + (q : Int) := IntWalk.i64_in _ (by omega)
                      have hmk := fun wq => mark_st (a * 1000 + b * 3 + q) (by omega) wq
                      rw [show ((a * 1000 + b * 3 + q : Nat) : Int) = (a : Int) * 1000 + (b : Int) * 3 + (q : Int) by omega] at hmk
                      have HMK := hide hmk
                      obtain ⟨lb, cl, rb, cr, g1, g2, hne, hwr⟩ := hJ.out.writeE (k := q) (HLI.out _) (List.getElem?_set_self (by rw [rowsTo_len]; have := HLEN.out; omega)) (by rw [markTo_len]; exact hq)
                      rw [List.length_set, rowsTo_len, HLEN.out] at g1
                      rw [markTo_len] at g2
                      have HWR := hide hwr; have HNE := hide hne
                      clear hmk hwr hne hL50 hr3 hJ
                      go_upto_region 34 with fail
                      refine wp_region_ord [(0, true), (1, true), (2, true), (3, true), (4, true), (5, true), (6, true), (7, true), (8, true), (9, true), (10, true), (11, true), (12, true), (13, true), (14, false), (15, true), (16, false)] (fun w' => w'.cell? ⟨ab, a, none⟩ = some (.slice (some ⟨lb, 0, none⟩) len cl) ∧ w'.cell? ⟨lb, b, none⟩ = some (.slice (some ⟨rb, 0, none⟩) r.length cr)) (by kernel_rfl) (by kernel_rfl) (fun _ _ _ _ _ h => h) ?_ ?_
                      · exact fun w' hw' => ⟨hw'.cell g1, hw'.cell g2⟩
                      intro wq hwq
                      have HG1 := hide g1; have HG2 := hide g2
                      have HMQ := hide (HMK.out wq)
                      clear g1 g2
                      unfold wpO
                      refine ⟨_, rfl, ?_⟩
                      apply Exists.intro
                      refine ⟨.inl ⟨by rfl, fun w9 h9 => ?_⟩, fun K hK => ?_⟩
                      · go_simp; first | done | rfl
                      go_simp; refine hK _ ?_; clear hK K
                      unfold wpO
                      refine ⟨_, rfl, ?_⟩
                      apply Exists.intro
                      refine ⟨.inl ⟨by rfl, fun w9 h9 => ?_⟩, fun K hK => ?_⟩
                      · go_simp; first | done | rfl
                      go_simp; refine hK _ ?_; clear hK K
                      unfold wpO
                      refine ⟨_, rfl, ?_⟩
                      apply Exists.intro
                      refine ⟨.inl ⟨by rfl, fun w9 h9 => ?_⟩, fun K hK => ?_⟩
                      · go_simp; first | done | rfl
                      go_simp; refine hK _ ?_; clear hK K
                      unfold wpO
                      refine ⟨_, rfl, ?_⟩
                      apply Exists.intro
                      refine ⟨.inl ⟨by rfl, fun w9 h9 => ?_⟩, fun K hK => ?_⟩
                      · go_simp; first | done | rfl
                      go_simp; refine hK _ ?_; clear hK K
                      unfold wpO
                      refine ⟨_, rfl, ?_⟩
                      apply Exists.intro
                      refine ⟨.inl ⟨by rfl, fun w9 h9 => ?_⟩, fun K hK => ?_⟩
                      · go_simp; first | done | rfl
                      go_simp; refine hK _ ?_; clear hK K
                      unfold wpO
                      refine ⟨_, rfl, ?_⟩
                      apply Exists.intro
                      refine ⟨.inl ⟨by rfl, fun w9 h9 => ?_⟩, fun K hK => ?_⟩
                      · go_simp; first | done | rfl
                      go_simp; refine hK _ ?_; clear hK K
                      unfold wpO
                      refine ⟨_, rfl, ?_⟩
                      apply Exists.intro
                      refine ⟨.inl ⟨by rfl, fun w9 h9 => ?_⟩, fun K hK => ?_⟩
                      · go_simp; first | done | rfl
                      go_simp; refine hK _ ?_; clear hK K
                      unfold wpO
                      refine ⟨_, rfl, ?_⟩
                      apply Exists.intro
                      refine ⟨.inl ⟨by rfl, fun w9 h9 => ?_⟩, fun K hK => ?_⟩
                      · go_simp; first | done | rfl
                      go_simp; refine hK _ ?_; clear hK K
                      unfold wpO
                      refine ⟨_, rfl, ?_⟩
                      apply Exists.intro
                      refine ⟨.inl ⟨by rfl, fun w9 h9 => ?_⟩, fun K hK => ?_⟩
                      · go_simp; first | done | rfl
                      go_simp; refine hK _ ?_; clear hK K
                      unfold wpO
                      refine ⟨_, rfl, ?_⟩
                      apply Exists.intro
                      refine ⟨.inl ⟨by rfl, fun w9 h9 => ?_⟩, fun K hK => ?_⟩
                      · go_simp; first | done | rfl
                      go_simp; refine hK _ ?_; clear hK K
                      unfold wpO
                      refine ⟨_, rfl, ?_⟩
                      apply Exists.intro
                      refine ⟨.inl ⟨by rfl, fun w9 h9 => ?_⟩, fun K hK => ?_⟩
                      · go_simp; first | done | rfl
                      go_simp; refine hK _ ?_; clear hK K
                      unfold wpO
                      refine ⟨_, rfl, ?_⟩
                      apply Exists.intro
                      refine ⟨.inl ⟨by rfl, fun w9 h9 => ?_⟩, fun K hK => ?_⟩
                      · go_simp; first | done | rfl
                      go_simp; refine hK _ ?_; clear hK K
                      unfold wpO
                      refine ⟨_, rfl, ?_⟩
                      apply Exists.intro
                      refine ⟨.inl ⟨by rfl, fun w9 h9 => ?_⟩, fun K hK => ?_⟩
                      · go_simp; first | done | rfl
                      go_simp; refine hK _ ?_; clear hK K
                      unfold wpO
                      refine ⟨_, rfl, ?_⟩
                      apply Exists.intro
                      refine ⟨.inl ⟨by rfl, fun w9 h9 => ?_⟩, fun K hK => ?_⟩
                      · go_simp; first | done | rfl
                      go_simp; refine hK _ ?_; clear hK K
                      unfold wpO
                      refine ⟨_, rfl, ?_⟩
                      go_wp2_with ((with_reducible refine HMQ.out.mono ?_); rintro e w12 ⟨rfl, x12⟩; have X12 := hide (hwq.trans x12); clear x12)
                      simp only [exL]
                      refine ⟨⟨X12.out.cell HG1.out, X12.out.cell HG2.out⟩, ?_⟩
                      obtain ⟨⟨u0, u1, u2, q0, q1, q2⟩, f0, f1, f2, hm⟩ := HWR.out w12 X12.out
                      have HM3 := hide (hm (mV (a * 1000 + b * 3 + q)))
                      have HC1 := hide (X12.out.cell HG1.out); have HC2 := hide (X12.out.cell HG2.out)
                      clear hm hwq HMQ HMK HWR
                      unfold wpO
                      refine ⟨_, rfl, ?_⟩
                      apply Exists.intro
                      refine ⟨.inl ⟨by rfl, fun w9 h9 => ?_⟩, fun K hK => ?_⟩
                      · go_simp; first | done | rfl
                      go_simp; refine hK _ ?_; clear hK K
                      unfold wpO
                      refine ⟨_, rfl, ?_⟩
                      go_wp2_with fail
                      simp only [exL]
                      refine ⟨⟨set3_cell HC1.out HNE.out.1, set3_cell HC2.out HNE.out.2⟩, ?_⟩
                      obtain ⟨P4, hM4⟩ := HM3.out
                      rw [List.set_set, List.set_set] at hM4
                      have M4 := hide (show MemJ w _ x S N2 P4 lab ab ((lstTo a S.rows).set a ((rowsTo a b S.rows).set b (markTo (a * 1000 + b * 3) (q + 1) r))) A6 len c6 K A7 c7 A8 c8 A9 c9 from hM4)
                      clear hM4 HM3 q0 q1 q2 f0 f1 f2
                      unfold wpO
                      have hr3 := hr30.out
                      go_wp2_with fail
                      go_roundw
                      case rel =>
                        refine ⟨q + 1, P4, by omega, by go_num, ?_⟩
                        have := M4
                        simp only [mV] at this
                        rw [show ((a * 1000 + b * 3 + q : Nat) : Int) = (a : Int) * 1000 + (b : Int) * 3 + (q : Int) by omega] at this
                        exact this
                      case measure => simp [intOf]; omega
                    · obtain rfl : q = r.length := by omega
                      have hJ2 := hJ.out
                      rw [rowsTo_next a HRR.out] at hJ2
                      have J5 := hide hJ2
                      clear hJ hJ2
                      have hl5 := HL50.out
                      go_wp2_with fail
                      go_roundw
                      case rel => exact ⟨b + 1, _, by omega, by go_num, J5⟩
                      case measure => simp [intOf]; omega
                · obtain rfl : b = len := by omega
                  have hJ2 := hJ.out
                  rw [show (lstTo a S.rows).set a (rowsTo a b S.rows) = lstTo (a + 1) S.rows by rw [lstTo, HLEN.out]] at hJ2
                  have J5 := hide hJ2
                  clear hJ hJ2
                  go_wp2_with fail
                  go_roundw
                  case rel => exact ⟨a + 1, _, by omega, by go_num, J5⟩
                  case measure => simp [intOf]; omega
            · obtain rfl : a = 4 := by omega
              have J4 := hide hJ.out
              clear hJ
              rw [show ((4 : Nat) : Int) = 4 from rfl]
              go_wp2_with fail
              go_loopw [138] (fun s138 w' => ∃ (a : Nat) (P : Nat → Prop), a ≤ kl ∧ s138 = .int .i64 a ∧ Hid (MemJ w w' x S N2 P lab ab (lstTo 4 S.rows) A6 len c6 K A7 c7 A8 c8 A9 c9)) (fun s138 _ => kl - (intOf s138).toNat)
              case atStart => exact ⟨0, _, by omega, rfl, J4⟩
              case round => as_aux_lemma =>
                clear J4
                obtain ⟨a, P2, hak, rfl, hJ⟩ := hrel
                have hk50 := HK50.out
                by_cases ha : a < kl
                · have ha2 : (a : Int) < (kl : Int) := by omega
                  obtain ⟨lb, A10, n10, c10, rfl, g1, hn10⟩ := hJ.out.kw.row (j := a) (by have := HKL.out; omega)
                  have JI := hide hJ.out; have HG1 := hide g1
                  clear hJ
                  go_wp2_with fail
                  clear g1
                  go_loopw [146] (fun s146 w' => ∃ (q : Nat) (P : Nat → Prop), q ≤ n10 ∧ s146 = .int .i64 q ∧ Hid (MemJ w w' x S N2 P lab ab (lstTo 4 S.rows) A6 len c6 K (some ⟨lb, 0, none⟩) c7 A8 c8 A9 c9) ∧ Hid (w'.cell? ⟨lb, a, none⟩ = some (.slice A10 n10 c10))) (fun s146 _ => n10 - (intOf s146).toNat)
                  case atStart => exact ⟨0, _, by omega, rfl, JI, HG1⟩
                  case round => as_aux_lemma =>
                    clear JI HG1
                    obtain ⟨q, P3, hqn, rfl, hJ, hG⟩ := hrel
                    by_cases hq : q < n10
                    · have hq2 : (q : Int) < (n10 : Int) := by omega
                      have HMK := hide (fun wq => mark_st a (by omega) wq)
                      obtain ⟨rb, rfl, hne, hwr⟩ := hJ.out.writeKE (by have := HKL.out; omega) hG.out hq
                      have g1 := hG.out
                      have HWR := hide hwr; have HNE := hide hne
                      clear hwr hne hJ
                      go_upto_region 43 with fail
                      refine wp_region_ord [(0, true), (1, true), (2, true), (3, true), (4, true), (5, true), (6, false), (7, true), (8, false)] (fun w' => w'.cell? ⟨lb, a, none⟩ = some (.slice (some ⟨rb, 0, none⟩) n10 c10)) (by kernel_rfl) (by kernel_rfl) (fun _ _ _ _ _ h => h) ?_ ?_
                      · exact fun w' hw' => hw'.cell g1
                      intro wq hwq
                      have HMQ := hide (HMK.out wq)
                      clear g1
                      unfold wpO
                      refine ⟨_, rfl, ?_⟩
                      apply Exists.intro
                      refine ⟨.inl ⟨by rfl, fun w9 h9 => ?_⟩, fun K hK => ?_⟩
                      · go_simp; first | done | rfl
                      go_simp; refine hK _ ?_; clear hK K
                      unfold wpO
                      refine ⟨_, rfl, ?_⟩
                      apply Exists.intro
                      refine ⟨.inl ⟨by rfl, fun w9 h9 => ?_⟩, fun K hK => ?_⟩
                      · go_simp; first | done | rfl
                      go_simp; refine hK _ ?_; clear hK K
                      unfold wpO
                      refine ⟨_, rfl, ?_⟩
                      apply Exists.intro
                      refine ⟨.inl ⟨by rfl, fun w9 h9 => ?_⟩, fun K hK => ?_⟩
                      · go_simp; first | done | rfl
                      go_simp; refine hK _ ?_; clear hK K
                      unfold wpO
                      refine ⟨_, rfl, ?_⟩
                      apply Exists.intro
                      refine ⟨.inl ⟨by rfl, fun w9 h9 => ?_⟩, fun K hK => ?_⟩
                      · go_simp; first | done | rfl
                      go_simp; refine hK _ ?_; clear hK K
                      unfold wpO
                      refine ⟨_, rfl, ?_⟩
                      apply Exists.intro
                      refine ⟨.inl ⟨by rfl, fun w9 h9 => ?_⟩, fun K hK => ?_⟩
                      · go_simp; first | done | rfl
                      go_simp; refine hK _ ?_; clear hK K
                      unfold wpO
                      refine ⟨_, rfl, ?_⟩
                      apply Exists.intro
                      refine ⟨.inl ⟨by rfl, fun w9 h9 => ?_⟩, fun K hK => ?_⟩
                      · go_simp; first | done | rfl
                      go_simp; refine hK _ ?_; clear hK K
                      unfold wpO
                      refine ⟨_, rfl, ?_⟩
                      go_wp2_with ((with_reducible refine HMQ.out.mono ?_); rintro e w12 ⟨rfl, x12⟩; have X12 := hide (hwq.trans x12); clear x12)
                      simp only [exL]
                      refine ⟨X12.out.cell hG.out, ?_⟩
                      obtain ⟨⟨u0, u1, u2, q0, q1, q2⟩, f0, f1, f2, hm⟩ := HWR.out w12 X12.out
                      have HM3 := hide (hm (.int .i64 1) (.int .i64 ((a : Int) * 7919 + 1099511627776)) (.string ⟨#[]⟩))
                      have HC1 := hide (X12.out.cell hG.out)
                      clear hm hwq HMQ HMK HWR
                      unfold wpO
                      refine ⟨_, rfl, ?_⟩
                      apply Exists.intro
                      refine ⟨.inl ⟨by rfl, fun w9 h9 => ?_⟩, fun K hK => ?_⟩
                      · go_simp; first | done | rfl
                      go_simp; refine hK _ ?_; clear hK K
                      unfold wpO
                      refine ⟨_, rfl, ?_⟩
                      go_wp2_with fail
                      simp only [exL]
                      refine ⟨set3_cell HC1.out HNE.out, ?_⟩
                      obtain ⟨P4, hM4⟩ := HM3.out
                      have M4 := hide hM4
                      have HC2 := hide (set3_cell (k := q) (v0 := .int .i64 1) (v1 := .int .i64 ((a : Int) * 7919 + 1099511627776)) (v2 := .string ⟨#[]⟩) HC1.out HNE.out)
                      clear hM4 HM3 q0 q1 q2 f0 f1 f2
                      unfold wpO
                      go_wp2_with fail
                      go_roundw
                      case rel => exact ⟨q + 1, P4, by omega, by go_num, M4, HC2⟩
                      case measure => simp [intOf]; omega
                    · obtain rfl : q = n10 := by omega
                      have J5 := hide hJ.out
                      clear hJ hG
                      go_wp2_with fail
                      go_roundw
                      case rel => exact ⟨a + 1, _, by omega, by go_num, J5⟩
                      case measure => simp [intOf]; omega
                · obtain rfl : a = kl := by omega
                  have J5 := hide hJ.out
                  clear hJ
                  go_wp2_with fail
                  go_loopw [159] (fun s159 w' => ∃ (b : Nat) (P : Nat → Prop), b ≤ 4 ∧ s159 = .int .i64 b ∧ Hid (MemJ w w' x S N2 P lab ab (lstTo 4 S.rows) A6 len c6 K A7 c7 A8 c8 A9 c9)) (fun s159 _ => 4 - (intOf s159).toNat)
                  case atStart => exact ⟨0, _, by omega, rfl, J5⟩
                  case round => as_aux_lemma =>
                    clear J5
                    obtain ⟨b, P3, hb4, rfl, hJ⟩ := hrel
                    by_cases hb : b < 4
                    · have hb2 : (b : Int) < 4 := by omega
                      obtain ⟨A11, c11, g11, -⟩ := hJ.out.m.q.get (lstTo_new S.rows 4 b hb hb)
                      rw [rowsTo_len, HLEN.out] at g11
                      have JI := hide hJ.out
                      clear hJ
                      go_wp2_with fail
                      clear g11
                      go_loopw [166] (fun s166 w' => ∃ (f : Nat) (P : Nat → Prop), f ≤ len ∧ s166 = .int .i64 f ∧ Hid (MemJ w w' x S N2 P lab ab (lstTo 4 S.rows) A6 len c6 K A7 c7 A8 c8 A9 c9)) (fun s166 _ => len - (intOf s166).toNat)
                      case atStart => exact ⟨0, _, by omega, rfl, JI⟩
                      case round => as_aux_lemma =>
                        clear JI
                        obtain ⟨f, P4, hfl, rfl, hJ⟩ := hrel
                        have hl5 := HL50.out
                        by_cases hf : f < len
                        · have hf2 : (f : Int) < (len : Int) := by omega
                          obtain ⟨r, hr⟩ : ∃ r, S.rows[f]? = some r := ⟨_, List.getElem?_eq_getElem (by have := HLEN.out; omega)⟩
                          have HROW := hide (rowsTo_new b S.rows S.rows.length f r (by have := HLEN.out; omega) hr)
                          obtain ⟨lb, cl, Ar, cr, g1, g2, -⟩ := hJ.out.m.q.row (lstTo_new S.rows 4 b hb hb) HROW.out
                          rw [rowsTo_len, HLEN.out] at g1
                          rw [markTo_len] at g2
                          have hr30 := HSM.out r (List.mem_of_getElem? hr)
                          have JI := hide hJ.out
                          clear hr hJ
                          go_wp2_with fail
                          clear g1 g2
                          go_loopw [176] (fun s176 w' => ∃ (q : Nat) (P : Nat → Prop), q ≤ r.length ∧ s176 = .int .i64 q ∧ Hid (MemJ w w' x S N2 P lab ab (lstTo 4 S.rows) A6 len c6 K A7 c7 A8 c8 A9 c9)) (fun s176 _ => r.length - (intOf s176).toNat)
                          case atStart => exact ⟨0, _, by omega, rfl, JI⟩
                          case round => as_aux_lemma =>
                            clear JI
                            obtain ⟨q, P5, hql, rfl, hJ⟩ := hrel
                            by_cases hq : q < r.length
                            · have hq2 : (q : Int) < (r.length : Int) := by omega
                              have hw1 : IntKind.i64.wrap ((b : Int) * 1000) = (b : Int) * 1000 := IntWalk.i64_in _ (by omega)
                              have hw2 : IntKind.i64.wrap ((f : Int) * 3) = (f : Int) * 3 := IntWalk.i64_in _ (by omega)
                              have hw3 : IntKind.i64.wrap ((b : Int) * 1000 + (f : Int) * 3) = (b : Int) * 1000 + (f : Int) * 3 := IntWalk.i64_in _ (by omega)
                              have hw4 : IntKind.i64.wrap ((b : Int) * 1000 + (f : Int) * 3 + (q : Int)) = (b : Int) * 1000 + (f : Int) * 3 + (q : Int) := IntWalk.i64_in _ (by omega)
                              have hcast : ((b * 1000 + f * 3 + q : Nat) : Int) = (b : Int) * 1000 + (f : Int) * 3 + (q : Int) := by omega
                              have hmk := fun wq => mark_st (b * 1000 + f * 3 + q) (by omega) wq
                              rw [hcast] at hmk
                              obtain ⟨lb, cl, Ar, cr, g1, g2, hrat⟩ := hJ.out.m.q.row (lstTo_new S.rows 4 b hb hb) HROW.out
                              rw [rowsTo_len, HLEN.out] at g1
                              obtain ⟨rb, off, v, rfl, hv, -, p0, p1, p2⟩ := hrat.get (i := q) (by rw [markTo_len]; exact hq)
                              rw [markTo_get (b * 1000 + f * 3) r r.length q hq hq] at hv
                              obtain rfl := Option.some.inj hv
                              rw [markTo_len] at g2
                              simp only [mV] at p0 p1 p2
                              rw [hcast] at p1
                              obtain ⟨z, hz⟩ : ∃ z : Int, ((b : Int) * 1000 + (f : Int) * 3 + (q : Int)) * 7919 + 1099511627776 = z := ⟨_, rfl⟩
                              rw [hz] at p1 hmk
                              have HMK := hide hmk
                              clear hz
                              have HG := hide (And.intro g1 (And.intro g2 (And.intro p0 (And.intro p1 p2))))
                              clear hmk hv hrat hcast
                              go_upto_region 55 with fail
                              refine wp_region_ord [(0, true), (1, true), (2, true), (3, true), (4, true), (5, true), (6, true), (7, true), (8, true), (9, true), (10, true), (11, true), (12, true), (13, true), (14, true), (15, true), (16, false), (17, true)] (fun w' => w'.cell? ⟨ab, b, none⟩ = some (.slice (some ⟨lb, 0, none⟩) len cl) ∧ w'.cell? ⟨lb, f, none⟩ = some (.slice (some ⟨rb, off, none⟩) r.length cr) ∧ w'.cell? ⟨rb, off + q * 3, none⟩ = some (.int .i64 1) ∧ w'.cell? ⟨rb, off + q * 3 + 1, none⟩ = some (.int .i64 z) ∧ w'.cell? ⟨rb, off + q * 3 + 2, none⟩ = some (.string ⟨#[]⟩)) (by kernel_rfl) (by kernel_rfl) (fun _ _ _ _ _ h => h) ?_ ?_
                              · exact fun w' hw' => ⟨hw'.cell g1, hw'.cell g2, hw'.cell p0, hw'.cell p1, hw'.cell p2⟩
                              intro wq hwq
                              have HMQ := hide (HMK.out wq)
                              clear g1 g2 p0 p1 p2
                              unfold wpO
                              refine ⟨_, rfl, ?_⟩
                              apply Exists.intro
                              refine ⟨.inl ⟨by rfl, fun w9 h9 => ?_⟩, fun K hK => ?_⟩
                              · go_simp; first | done | rfl
                              go_simp; refine hK _ ?_; clear hK K
                              unfold wpO
                              refine ⟨_, rfl, ?_⟩
                              apply Exists.intro
                              refine ⟨.inl ⟨by rfl, fun w9 h9 => ?_⟩, fun K hK => ?_⟩
                              · go_simp; first | done | rfl
                              go_simp; refine hK _ ?_; clear hK K
                              unfold wpO
                              refine ⟨_, rfl, ?_⟩
                              apply Exists.intro
                              refine ⟨.inl ⟨by rfl, fun w9 h9 => ?_⟩, fun K hK => ?_⟩
                              · go_simp; first | done | rfl
                              go_simp; refine hK _ ?_; clear hK K
                              unfold wpO
                              refine ⟨_, rfl, ?_⟩
                              apply Exists.intro
                              refine ⟨.inl ⟨by rfl, fun w9 h9 => ?_⟩, fun K hK => ?_⟩
                              · go_simp; first | done | rfl
                              go_simp; refine hK _ ?_; clear hK K
                              unfold wpO
                              refine ⟨_, rfl, ?_⟩
                              apply Exists.intro
                              refine ⟨.inl ⟨by rfl, fun w9 h9 => ?_⟩, fun K hK => ?_⟩
                              · go_simp; first | done | rfl
                              go_simp; refine hK _ ?_; clear hK K
                              unfold wpO
                              refine ⟨_, rfl, ?_⟩
                              apply Exists.intro
                              refine ⟨.inl ⟨by rfl, fun w9 h9 => ?_⟩, fun K hK => ?_⟩
                              · go_simp; first | done | rfl
                              go_simp; refine hK _ ?_; clear hK K
                              unfold wpO
                              refine ⟨_, rfl, ?_⟩
                              apply Exists.intro
                              refine ⟨.inl ⟨by rfl, fun w9 h9 => ?_⟩, fun K hK => ?_⟩
                              · go_simp; first | done | rfl
                              go_simp; refine hK _ ?_; clear hK K
                              unfold wpO
                              refine ⟨_, rfl, ?_⟩
                              apply Exists.intro
                              refine ⟨.inl ⟨by rfl, fun w9 h9 => ?_⟩, fun K hK => ?_⟩
                              · go_simp; first | done | rfl
                              go_simp; refine hK _ ?_; clear hK K
                              unfold wpO
                              refine ⟨_, rfl, ?_⟩
                              apply Exists.intro
                              refine ⟨.inl ⟨by rfl, fun w9 h9 => ?_⟩, fun K hK => ?_⟩
                              · go_simp; first | done | rfl
                              go_simp; refine hK _ ?_; clear hK K
                              unfold wpO
                              refine ⟨_, rfl, ?_⟩
                              apply Exists.intro
                              refine ⟨.inl ⟨by rfl, fun w9 h9 => ?_⟩, fun K hK => ?_⟩
                              · go_simp; first | done | rfl
                              go_simp; refine hK _ ?_; clear hK K
                              unfold wpO
                              refine ⟨_, rfl, ?_⟩
                              apply Exists.intro
                              refine ⟨.inl ⟨by rfl, fun w9 h9 => ?_⟩, fun K hK => ?_⟩
                              · go_simp; first | done | rfl
                              go_simp; refine hK _ ?_; clear hK K
                              unfold wpO
                              refine ⟨_, rfl, ?_⟩
                              apply Exists.intro
                              refine ⟨.inl ⟨by rfl, fun w9 h9 => ?_⟩, fun K hK => ?_⟩
                              · go_simp; first | done | rfl
                              go_simp; refine hK _ ?_; clear hK K
                              unfold wpO
                              refine ⟨_, rfl, ?_⟩
                              apply Exists.intro
                              refine ⟨.inl ⟨by rfl, fun w9 h9 => ?_⟩, fun K hK => ?_⟩
                              · go_simp; first | done | rfl
                              go_simp; refine hK _ ?_; clear hK K
                              unfold wpO
                              refine ⟨_, rfl, ?_⟩
                              apply Exists.intro
                              refine ⟨.inl ⟨by rfl, fun w9 h9 => ?_⟩, fun K hK => ?_⟩
                              · go_simp; first | done | rfl
                              go_simp; refine hK _ ?_; clear hK K
                              unfold wpO
                              refine ⟨_, rfl, ?_⟩
                              apply Exists.intro
                              refine ⟨.inl ⟨by rfl, fun w9 h9 => ?_⟩, fun K hK => ?_⟩
                              · go_simp; first | done | rfl
                              go_simp; refine hK _ ?_; clear hK K
                              unfold wpO
                              refine ⟨_, rfl, ?_⟩
                              apply Exists.intro
                              refine ⟨.inl ⟨by rfl, fun w9 h9 => ?_⟩, fun K hK => ?_⟩
                              · go_simp; first | done | rfl
                              go_simp; refine hK _ ?_; clear hK K
                              unfold wpO
                              refine ⟨_, rfl, ?_⟩
                              go_wp2_with ((with_reducible refine HMQ.out.mono ?_); rintro e w12 ⟨rfl, x12⟩; have X12 := hide (hwq.trans x12); clear x12)
                              simp only [exL]
                              refine ⟨⟨X12.out.cell HG.out.1, X12.out.cell HG.out.2.1, X12.out.cell HG.out.2.2.1, X12.out.cell HG.out.2.2.2.1, X12.out.cell HG.out.2.2.2.2⟩, ?_⟩
                              have J12 := hide (hJ.out.ext X12.out)
                              clear hwq HMQ HMK HG hJ
                              unfold wpO
                              refine ⟨_, rfl, ?_⟩
                              apply Exists.intro
                              refine ⟨.inl ⟨by rfl, fun w9 h9 => ?_⟩, fun K hK => ?_⟩
                              · go_simp; first | done | rfl
                              go_simp; refine hK _ ?_; clear hK K
                              unfold wpO
                              as_aux_lemma =>
                                go_wp2_with fail
                                go_roundw
                                case rel => exact ⟨q + 1, _, by omega, by go_num, J12⟩
                                case measure => simp [intOf]; omega
                            · obtain rfl : q = r.length := by omega
                              have J6 := hide hJ.out
                              clear hJ
                              go_wp2_with fail
                              go_roundw
                              case rel => exact ⟨f + 1, _, by omega, by go_num, J6⟩
                              case measure => simp [intOf]; omega
                        · obtain rfl : f = len := by omega
                          have J6 := hide hJ.out
                          clear hJ
                          go_wp2_with fail
                          go_roundw
                          case rel => exact ⟨b + 1, _, by omega, by go_num, J6⟩
                          case measure => simp [intOf]; omega
                    · obtain rfl : b = 4 := by omega
                      have J6 := hide hJ.out
                      clear hJ
                      rw [show ((4 : Nat) : Int) = 4 from rfl]
                      have F6 := hide J6.out.fin
                      clear J6
                      go_wp2_with fail
                      go_loopw [202] (fun s202 w' => ∃ (b N3 : Nat) (P : Nat → Prop), b ≤ len ∧ s202 = .int .i64 b ∧ Hid (MemF w w' x S N3 P A6 len c6 K A8 c8 A9 c9) ∧ Hid (N3 ≤ N2 + b)) (fun s202 _ => len - (intOf s202).toNat)
                      case atStart => exact ⟨0, N2, _, by omega, rfl, F6, hide (by omega)⟩
                      case round => as_aux_lemma =>
                        clear F6
                        obtain ⟨b, N3, P4, hbl, rfl, hF, hN3⟩ := hrel
                        have hl5 := HL50.out
                        by_cases hb : b < len
                        · have hb2 : (b : Int) < (len : Int) := by omega
                          obtain ⟨r, hr⟩ : ∃ r, S.rows[b]? = some r := ⟨_, List.getElem?_eq_getElem (by have := HLEN.out; omega)⟩
                          have hrm := List.mem_of_getElem? hr
                          have hfit := HFIT.out.2.1 r hrm
                          obtain ⟨ob, off, Ar, cr, rfl, g1, hap⟩ := hF.out.was.argP hr (by have := HSM.out r hrm; omega) hfit.2.1 hfit.2.2
                          have HKR := hide (key_ref (gN := [1]) cr 1 (hap.1.at_.ext (Ext.alloc wr (.cells #[.int .i64 1] 3))) (num_one wr) (by have := HSM.out r hrm; omega) (by omega))
                          have hgood := HK.out.good (keyR [1] r) ((HK.out.mem _).2 ⟨r, hrm, rfl⟩)
                          have HGD := hide hgood
                          obtain ⟨q, hq, hqm⟩ := head_grp HG0.out hrm
                          have HQ := hide hq
                          have hq3 : q.length = 3 := (fits_len (HFIT.out.2.1 q hqm).1).trans hS.out.1
                          have HQ3 := hide hq3
                          have F7 := hide (hF.out.ext (Ext.alloc wr (.cells #[.int .i64 1] 3)))
                          clear hr hrm hfit hap hgood hq hqm hq3 hF
                          go_wp2_with ((with_reducible refine HKR.out.mono ?_); rintro e w8 ⟨A10, c10, rfl, h10, x10⟩; have R10 := hide h10; have X10 := hide x10; clear h10 x10)
                          have F8 := hide (F7.out.ext X10.out)
                          have hfi := F8.out.fp.first (by have := hN3.out; have := hN2.out; have := hS.out.2.2.2.2; omega) (k := 0) (by rw [hS.out.2.2.1]; decide) c10 (⟨R10.out, key_small HGD.out, HGD.out.small, HGD.out.wf⟩ : ArgR w8 A10 (keyR [1] r).length (keyR [1] r))
                          rw [HQ.out] at hfi
                          have HFI := hide (show Calls Tryz.prog 17 #[.pointer (some ⟨x, 0, none⟩), .int .i64 0, .slice A10 (keyR [1] r).length c10] w8 _ from hfi)
                          clear hfi HKR F7 R10 X10
                          refine HFI.out.mono ?_
                          rintro e w9' ⟨A11, c11, Q4, rfl, -, -, hq4, f4, k4⟩
                          have F9 := hide (F8.out.step f4 k4 hq4)
                          rw [HQ3.out]
                          clear hq4 f4 k4 HFI F8
                          go_wp2_with fail
                          go_roundw
                          case rel => exact ⟨b + 1, N3 + 1, _, by omega, by go_num, F9, hide (by have := hN3.out; omega)⟩
                          case measure => simp [intOf]; omega
                        · obtain rfl : b = len := by omega
                          have hRW := hF.out.fp.rowsM
                          rw [HLEN.out] at hRW
                          have HRW := hide hRW
                          clear hRW
                          go_wp2_with ((with_reducible refine HRW.out.mono ?_); rintro e w10 ⟨A10, c10, M10, rfl, hm10, f10, k10, q10⟩; have L10 := hide (hm10.told (P := fun _ => True) fun _ _ _ => trivial).lat; have F10 := hide (hF.out.step f10 k10 fun g hg => .inl hg); clear hm10 f10 k10 q10)
                          have hsa := same_all S.rows S.rows A10 A6 b b c10 c6 w10 L10.out F10.out.was.lat (by omega) (fun s hs => by have := HSM.out s hs; omega)
                          rw [sameRs_iff.2 rfl] at hsa
                          have HSA := hide hsa
                          clear hsa HRW hF
                          refine HSA.out.mono ?_
                          rintro e w11 ⟨rfl, x11⟩
                          have F11 := hide (F10.out.ext x11)
                          have hsb := same_all K K A9 A8 K.length K.length c9 c8 w11 F11.out.k2.lat F11.out.k1.lat (by have := HKL.out; have := HK50.out; omega) (fun s hs => by have := HKS.out s hs; omega)
                          rw [sameRs_iff.2 rfl, HKL.out] at hsb
                          have HSB := hide hsb
                          clear hsb HSA x11 F10 L10
                          go_wp2_with fail
                          refine HSB.out.mono ?_
                          rintro e w12 ⟨rfl, x12⟩
                          have X12 := hide (F11.out.fp.ext0.trans x12)
                          clear x12 HSB F11
                          go_wp2_with fail
                          refine (awake_st _).mono ?_
                          rintro e w13 ⟨rfl, x13⟩
                          have X13 := hide (X12.out.trans x13)
                          clear x13
                          go_wp2_with fail
                          go_ret
                          exact ⟨rfl, X13.out⟩
end Go.Proofs.YtifloafhpeeepaaGreat
