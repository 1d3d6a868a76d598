/-
  StoreFull: the law.
-/
import Derived.Test.YtifloafhpeeepaaStaE
namespace Go.Proofs.Ytifloafhpeeepaa
open Go.RowKit

theorem putS_unfit {S : SAbs} {r : List V} (h : fitsR S.width r = false) : putS S r = (S, false, 62) := by unfold putS; rw [h]; rfl
theorem putS_had {S : SAbs} {r : List V} (h : fitsR S.width r = true) (h2 : inB S.rows r = true) : putS S r = (S, false, 0) := by unfold putS; rw [h, h2]; rfl
theorem putS_new {S : SAbs} {r : List V} (h : fitsR S.width r = true) (h2 : inB S.rows r = false) (h3 : S.rows.length < S.most) : putS S r = ({ S with rows := S.rows ++ [r] }, true, 0) := by unfold putS; rw [h, h2, if_pos h3]; rfl
theorem putS_full {S : SAbs} {r : List V} (h : fitsR S.width r = true) (h2 : inB S.rows r = false) (h3 : ¬ S.rows.length < S.most) : putS S r = (S, false, 31) := by unfold putS; rw [h, h2, if_neg h3]; rfl
/-- a full store's first row is taken out, and there is a place -/
theorem drop_first {S : SAbs} {r r0 : List V} {R : List (List V)} (h0 : S.rows = r0 :: R) (hf0 : fitsR S.width r0 = true) (hf : fitsR S.width r = true) (h2 : inB S.rows r = false) (h3 : S.rows.length ≤ S.most) :
    dropS S r0 = ({ S with rows := R }, true, 0) ∧ putS { S with rows := R } r = ({ S with rows := R ++ [r] }, true, 0) := by
  have h4 : inB S.rows r0 = true := inB_iff.2 (by rw [h0]; exact List.mem_cons_self ..)
  refine ⟨?_, ?_⟩
  · unfold dropS
    rw [hf0, h4, h0]
    have := delR_at (r := r0) (A := []) (B := R) (by simp)
    rw [List.nil_append, List.nil_append] at this
    rw [this]; rfl
  · have h5 : inB R r = false := by
      cases hb : inB R r with
      | false => rfl
      | true =>
        have : inB S.rows r = true := inB_iff.2 (by rw [h0]; exact List.mem_cons_of_mem _ (inB_iff.1 hb))
        rw [this] at h2; cases h2
    exact putS_new (S := { S with rows := R }) hf h5 (by rw [h0] at h3; exact h3)
set_option maxRecDepth 100000 in
set_option maxHeartbeats 4000000 in
theorem law_fullS (most : Int) (rows : List (List V)) (A : Option Addr) (n c : Nat) (w : World) (_h0 : -9223372036854775808 ≤ most ∧ most ≤ 9223372036854775807) (ha : LAt RRow 1 w A n rows) (_hc : n ≤ c) (hn : n ≤ 1048576) (hr : ∀ r ∈ rows, r.length ≤ 1048576 ∧ smallR r) (hwf : ∀ r ∈ rows, wfR r) :
    Calls Try.prog 4 #[.int .i64 most, .slice A n c] w fun e w' => e = .returned (.bool true) ∧ Ext w w' := by
  have HA := hide ha; have HR := hide hr; have HWF := hide hwf; have HN := hide hn
  clear ha hr hwf
  go_enter Try.func4, Try.ntmps4
  by_cases h1 : most < 1
  · go_wp2_with fail
    refine (awake_st _).mono ?_
    rintro e w4 ⟨rfl, x4⟩
    have X4 := hide x4
    clear x4
    go_wp2_with fail
    go_ret
    exact ⟨rfl, X4.out⟩
  by_cases h2 : 100 < most
  · go_wp2_with fail
    refine (awake_st _).mono ?_
    rintro e w4 ⟨rfl, x4⟩
    have X4 := hide x4
    clear x4
    go_wp2_with fail
    go_ret
    exact ⟨rfl, X4.out⟩
  obtain ⟨M, rfl⟩ : ∃ M : Nat, most = M := ⟨most.toNat, by omega⟩
  have HM := hide (show 1 ≤ M ∧ M ≤ 100 by omega)
  have HNW := hide (new_good_st (w := w) (width := 3) (most := (M : Int)) 0 (A := none) (n := 0) (gs := []) ⟨rfl, [], Sl.nil _ _ _, fun k g hg => by simp at hg⟩ (by decide) (fun g hg => by cases hg) (by rw [goodS_all (by omega) (by omega) (by simp)]; rfl))
  go_upto_region 6 with ((with_reducible refine HNW.out.mono ?_); rintro e w1 ⟨x, B, rfl, x1, hI, hB, hlt⟩; have HF := hide (show FI w w1 x ⟨3, M, [], [], none⟩ 1 w1.heap.size from ⟨B, hI, fun b hb => ⟨hB b hb, hlt b hb⟩, x1, Nat.le_refl _⟩); clear hI hB hlt x1)
  clear HNW
  go_wp2_with fail
  have HF0 := HF
  clear HF
  go_loopw [39] (fun s39 w' => ∃ (i : Nat) (S : SAbs) (N L : Nat), i ≤ n ∧ s39 = .int .i64 i ∧ Hid (FI w w' x S N L) ∧ Hid (S.width = 3 ∧ S.most = M ∧ N ≤ 6 * i + 1)) (fun s39 _ => n - (intOf s39).toNat)
  case atStart => exact ⟨0, _, 1, _, by omega, rfl, HF0, rfl, rfl, by omega⟩
  case round =>
    clear HF0
    obtain ⟨i, S, N, L, hin, rfl, hF, hS⟩ := hrel
    by_cases hi : i < n
    · obtain ⟨b, off, r, A9, c9, rfl, hri, hcell, hrow⟩ := HA.out.rowS hi
      have hcell := hF.out.ext0.cell hcell
      have hrm := List.mem_of_getElem? hri
      have HARG := hide (show ArgR w A9 r.length r from ⟨hrow, (HR.out r hrm).1, (HR.out r hrm).2, HWF.out r hrm⟩)
      obtain ⟨m, hm⟩ : ∃ m, r.length = m := ⟨_, rfl⟩
      rw [hm] at hcell HARG
      have HCP := hide (fun (w1 : World) (h1 : Ext w w1) => copy_arg (c := c9) (HARG.out.ext h1))
      have HV := hide (fun (w1 : World) (h1 : Ext w w1) => ref_valid r A9 m c9 w1 (HARG.out.ext h1).at_ HARG.out.len HARG.out.small)
      have hin2 : (i : Int) < (n : Int) := by omega
      have hb2 := hS.out.2.2
      have hNb := hide (show N + 6 ≤ 8388608 by omega)
      have HM3 := hide hm
      clear hri hrow hrm hb2 hm
      by_cases hm3 : m = 3
      · subst hm3
        go_wp2_with fail
        refine (HV.out _ hF.out.ext0).mono ?_
        rintro e w9 ⟨rfl, x9⟩
        have hF := hide (hF.out.ext x9)
        clear x9
        cases hv : validR r with
        | false =>
          have HFIT := hide (show fitsR S.width r = false by unfold fitsR; rw [hv, Bool.and_false])
          clear hv
          go_wp2_with fail
          refine (HCP.out _ hF.out.ext0).mono ?_
          rintro e w2 ⟨A2, c2, rfl, ha, hb, hx⟩
          have HA2 := hide ha; have HB2 := hide (fun a ha => Nat.le_trans hF.out.lim (hb a ha)); have X2 := hide hx; clear ha hb hx
          have HP := hide ((hF.out.ext X2.out).put (by have := hNb.out; omega) c2 HA2.out HB2.out)
          rw [putS_unfit HFIT.out] at HP
          go_wp2_with fail
          refine HP.out.mono ?_
          rintro e w3 ⟨rfl, h3⟩
          have H3 := hide h3
          clear h3 HP
          go_wp2_with fail
          go_roundw
          case rel => exact ⟨i + 1, S, N + 1, _, by omega, by go_num, H3.out, hS.out.1, hS.out.2.1, by have := hS.out.2.2; omega⟩
          case measure => simp [intOf]; omega
        | true =>
          have HFIT := hide (show fitsR S.width r = true by unfold fitsR; rw [hv, hS.out.1, HM3.out]; rfl)
          clear hv
          go_wp2_with fail
          refine hF.out.len.mono ?_
          rintro e w1 ⟨rfl, h1⟩
          have F1 := hide h1; clear h1
          go_wp2_with fail
          refine (HCP.out _ F1.out.ext0).mono ?_
          rintro e w2 ⟨A2, c2, rfl, ha, hb, hx⟩
          have HA2 := hide ha; have HB2 := hide (fun a ha => Nat.le_trans F1.out.lim (hb a ha)); have X2 := hide hx; clear ha hb hx
          have HP := hide ((F1.out.ext X2.out).has (by have := hNb.out; omega) c2 HA2.out)
          go_wp2_with fail
          refine HP.out.mono ?_
          rintro e w3 ⟨rfl, h3⟩
          have F3 := hide h3; clear h3 HP
          go_wp2_with fail
          refine (HCP.out _ F3.out.ext0).mono ?_
          rintro e w4 ⟨A4, c4, rfl, ha, hb, hx⟩
          have HA4 := hide ha; have HB4 := hide (fun a ha => Nat.le_trans F3.out.lim (hb a ha)); have X4 := hide hx; clear ha hb hx
          have HP := hide ((F3.out.ext X4.out).put (by have := hNb.out; omega) c4 HA4.out HB4.out)
          have hle := F3.out.fit.1
          cases hin4 : inB S.rows r with
          | true =>
            rw [putS_had HFIT.out hin4] at HP
            clear hle hin4
            go_wp2_with fail
            refine HP.out.mono ?_
            rintro e w5 ⟨rfl, h5⟩
            have F5 := hide h5; clear h5 HP
            go_wp2_with fail
            go_roundw
            case rel => exact ⟨i + 1, S, N + 1 + 1, _, by omega, by go_num, F5.out, hS.out.1, hS.out.2.1, by have := hS.out.2.2; omega⟩
            case measure => simp [intOf]; omega
          | false =>
            have HIN := hide hin4
            clear hin4
            by_cases hfull : S.rows.length < S.most
            · rw [putS_new HFIT.out HIN.out hfull] at HP
              have hlt : (S.rows.length : Int) < (M : Int) := by have := hS.out.2.1; omega
              clear hle hfull
              generalize hlen : S.rows.length = sl at *
              have HLEN := hide hlen; clear hlen
              go_wp2_with fail
              refine HP.out.mono ?_
              rintro e w5 ⟨rfl, h5⟩
              have F5 := hide h5; clear h5 HP
              have HLL := hide F5.out.len
              rw [show (S.rows ++ [r]).length = sl + 1 by rw [List.length_append, HLEN.out]; rfl] at HLL
              go_wp2_with fail
              refine HLL.out.mono ?_
              rintro e w6 ⟨rfl, h6⟩
              have F6 := hide h6; clear h6 HLL
              go_wp2_with fail
              go_roundw
              case rel => exact ⟨i + 1, _, N + 1 + 1, _, by omega, by go_num, F6.out, hS.out.1, hS.out.2.1, by have := hS.out.2.2; omega⟩
              case measure => simp [intOf]; omega
            · rw [putS_full HFIT.out HIN.out hfull] at HP
              have hlm : S.rows.length = M := by have := hS.out.2.1; omega
              have hlt : ¬ (S.rows.length : Int) < (M : Int) := by omega
              obtain ⟨r0, RR, hrr⟩ : ∃ r0 RR, S.rows = r0 :: RR := by
                have := HM.out.1
                cases hc : S.rows with
                | nil => rw [hc] at hlm; simp at hlm; omega
                | cons a l => exact ⟨a, l, rfl⟩
              obtain ⟨hd1, hd2⟩ := drop_first hrr (F3.out.fit.2 r0 (by rw [hrr]; exact List.mem_cons_self ..)).1 HFIT.out HIN.out hle
              have HD1 := hide hd1; have HD2 := hide hd2; have HRR := hide hrr; have HLM := hide hlm
              have HR0 := hide (F3.out.fit.2 r0 (by rw [hrr]; exact List.mem_cons_self ..))
              rw [hlm] at hlt ⊢
              clear hd1 hd2 hrr hlm hle hfull
              go_wp2_with fail
              refine HP.out.mono ?_
              rintro e w5 ⟨rfl, h5⟩
              have F5 := hide h5; clear h5 HP
              go_wp2_with fail
              refine (HCP.out _ F5.out.ext0).mono ?_
              rintro e w6 ⟨A6, c6, rfl, ha, hb, hx⟩
              have HA6 := hide ha; have HB6 := hide (fun a ha => Nat.le_trans F5.out.lim (hb a ha)); have X6 := hide hx; clear ha hb hx
              have HP := hide ((F5.out.ext X6.out).has (by have := hNb.out; omega) c6 HA6.out)
              rw [HIN.out] at HP
              go_wp2_with fail
              refine HP.out.mono ?_
              rintro e w7 ⟨rfl, h7⟩
              have F7 := hide h7; clear h7 HP
              have HP := hide F7.out.rows
              rw [HLM.out] at HP
              go_wp2_with fail
              refine HP.out.mono ?_
              rintro e w8 ⟨A8, c8, M8, rfl, hm8, h8⟩
              have F8 := hide h8
              obtain ⟨b8, off8, A10, c10, rfl, k8, ha10, hb10⟩ := hm8.arg (i := 0) (r := r0) (by rw [HRR.out]; rfl) (by have := HR0.out.1; unfold fitsR at this; simp only [Bool.and_eq_true, decide_eq_true_eq] at this; rw [this.1, hS.out.1]; omega) HR0.out.2.1 HR0.out.2.2
              have HP2 := hide (F8.out.drop (by have := hNb.out; omega) c10 ha10 hb10)
              rw [HD1.out] at HP2
              clear hm8 h8 HP ha10 hb10
              rw [Nat.add_zero] at k8
              have hM1 := HM.out.1
              go_wp2_with fail
              refine HP2.out.mono ?_
              rintro e w9' ⟨rfl, h9⟩
              have F9 := hide h9; clear h9 HP2 k8
              go_wp2_with fail
              refine (HCP.out _ F9.out.ext0).mono ?_
              rintro e w11 ⟨A11, c11, rfl, ha, hb, hx⟩
              have HA11 := hide ha; have HB11 := hide (fun a ha => Nat.le_trans F9.out.lim (hb a ha)); have X11 := hide hx; clear ha hb hx
              have HP := hide ((F9.out.ext X11.out).put (by have := hNb.out; omega) c11 HA11.out HB11.out)
              rw [HD2.out] at HP
              go_wp2_with fail
              refine HP.out.mono ?_
              rintro e w12 ⟨rfl, h12⟩
              have F12 := hide h12; clear h12 HP
              have HLL := hide F12.out.len
              rw [show (RR ++ [r]).length = M by rw [List.length_append]; have h1 := HLM.out; rw [HRR.out] at h1; exact h1] at HLL
              go_wp2_with fail
              refine HLL.out.mono ?_
              rintro e w13 ⟨rfl, h13⟩
              have F13 := hide h13; clear h13 HLL
              go_wp2_with fail
              go_roundw
              case rel => exact ⟨i + 1, _, _, _, by omega, by go_num, F13.out, hS.out.1, hS.out.2.1, by have := hS.out.2.2; omega⟩
              case measure => simp [intOf]; omega
      · have hm4 : ((m : Int) != 3) = true := by simp; omega
        have HFIT := hide (show fitsR S.width r = false by unfold fitsR; rw [hS.out.1, HM3.out, decide_eq_false hm3, Bool.false_and])
        clear hm3
        go_wp2_with fail
        refine (HCP.out _ hF.out.ext0).mono ?_
        rintro e w2 ⟨A2, c2, rfl, ha, hb, hx⟩
        have HA2 := hide ha; have HB2 := hide (fun a ha => Nat.le_trans hF.out.lim (hb a ha)); have X2 := hide hx; clear ha hb hx
        have HP := hide ((hF.out.ext X2.out).put (by have := hNb.out; omega) c2 HA2.out HB2.out)
        rw [putS_unfit HFIT.out] at HP
        go_wp2_with fail
        refine HP.out.mono ?_
        rintro e w3 ⟨rfl, h3⟩
        have H3 := hide h3
        clear h3 HP
        go_wp2_with fail
        go_roundw
        case rel => exact ⟨i + 1, S, N + 1, _, by omega, by go_num, H3.out, hS.out.1, hS.out.2.1, by have := hS.out.2.2; omega⟩
        case measure => simp [intOf]; omega
    · obtain rfl : i = n := by omega
      have hX := hide hF.out.ext0
      go_wp2_with fail
      refine (awake_st _).mono ?_
      rintro e w4 ⟨rfl, x4⟩
      have X4 := hide (hX.out.trans x4)
      clear x4
      go_wp2_with fail
      go_ret
      exact ⟨rfl, X4.out⟩
end Go.Proofs.Ytifloafhpeeepaa
