/-
  The document's node: is a description right?
  The document's node: Good.
  law of node: descriptions are copied.
  law of node: copySpec.
  law of node: a row of numbers of one's own, whatever the numbers are.
  law of node: made: the program's node and the document's; what was handed in is written over.
-/
import Derived.Test.YtahdiiaadjdmcaaNgI
namespace Go.Proofs.Ytahdiiaadjdmcaa
open Go.RowKit

/-- the column before the i-th -/
def lastR (xs : List Int) : Nat → Int
  | 0 => -1
  | i + 1 => xs[i]?.getD (-1)
set_option maxRecDepth 100000 in
set_option maxHeartbeats 2000000 in
theorem ref_rising {w : World} {A : Option Addr} {n : Nat} (c : Nat) {xs : List Int} (h : NumAt w A n xs) (hn : n ≤ 1048576) (width : Int) :
    Calls Try.prog 22 #[.slice A n c, .int .i64 width] w fun e w' => e = .returned (.bool (risesS width (-1) xs)) ∧ Ext w w' := by
  have HN := hide h
  have HL := hide h.1
  obtain ⟨z, hz⟩ : ∃ z, risesS width (-1) xs = z := ⟨_, rfl⟩
  rw [hz]
  have HZ := hide hz
  clear h hz
  go_enter Try.func22, Try.ntmps22
  go_wp2_with fail
  go_loopw [5] (fun s5 w' => ∃ i : Nat, i ≤ n ∧ s5 = .int .i64 i ∧ Hid (z = risesS width (lastR xs i) (xs.drop i)) ∧ Hid (-1 ≤ lastR xs i ∧ (0 < i → 0 ≤ lastR xs i)) ∧ Hid (Ext w w')) (fun s5 _ => n - (intOf s5).toNat)
  case atStart => exact ⟨0, by omega, rfl, HZ.out.symm, ⟨Int.le_refl _, fun h => absurd h (by decide)⟩, Ext.refl _⟩
  case round =>
    obtain ⟨i, hi, rfl, hq, hl, hX⟩ := hrel
    by_cases hil : i < n
    · obtain ⟨b, off, x, rfl, hx, -, hcell⟩ := (HN.out.ext hX.out).get hil
      have hil2 : (i : Int) < (n : Int) := by omega
      have hil3 : i < xs.length := by have := HL.out; omega
      have hst := hide (show z = (decide (lastR xs i < x) && (decide (x < width) && risesS width x (xs.drop (i + 1)))) by
        rw [hq.out, List.drop_eq_getElem_cons hil3]
        rw [List.getElem?_eq_getElem hil3] at hx
        rw [Option.some.inj hx]; rfl)
      have hnx := hide (show lastR xs (i + 1) = x by show (xs[i]?).getD (-1) = x; rw [hx]; rfl)
      clear hx hil3
      have hcell := cell_ext hcell
      by_cases hc0 : x < 0
      · go_upto_region 4 with fail
        refine wp_region_ext 29 (by kernel_rfl) (by kernel_rfl) (by kernel_rfl) ?_
        iterate 29
          refine wpE_k (by kernel_rfl) (by kernel_rfl) ?_
          apply Exists.intro
          refine ⟨fun w1 hw1 => ?_, fun K hK => ?_⟩
          · go_simp; first | done | rfl
          go_simp; refine hK _ _ ?_; clear hK K
        refine wpE_nil ⟨rfl, by kernel_rfl, fun wq hwq => ?_⟩
        simp only [EndQ]
        refine wpList_nil ?_
        have HW := hide hwq
        have HDN := hide (show z = false by rw [hst.out, decide_eq_false (p := lastR xs i < x) (by have := hl.out; omega)]; rfl)
        clear hwq hcell
        go_wp2_with fail
        go_ret
        exact ⟨by rw [HDN.out]; rfl, hX.out.trans HW.out⟩
      · by_cases hc2 : width ≤ x
        · go_upto_region 4 with fail
          refine wp_region_ext 29 (by kernel_rfl) (by kernel_rfl) (by kernel_rfl) ?_
          iterate 29
            refine wpE_k (by kernel_rfl) (by kernel_rfl) ?_
            apply Exists.intro
            refine ⟨fun w1 hw1 => ?_, fun K hK => ?_⟩
            · go_simp; first | done | rfl
            go_simp; refine hK _ _ ?_; clear hK K
          refine wpE_nil ⟨rfl, by kernel_rfl, fun wq hwq => ?_⟩
          simp only [EndQ]
          refine wpList_nil ?_
          have HW := hide hwq
          have HDN := hide (show z = false by rw [hst.out, decide_eq_false (p := x < width) (by omega), Bool.false_and, Bool.and_false])
          clear hwq hcell
          go_wp2_with fail
          go_ret
          exact ⟨by rw [HDN.out]; rfl, hX.out.trans HW.out⟩
        · by_cases hi0 : i = 0
          · subst hi0
            have hlt := hide (show (-1 : Int) < x ∧ x < width by omega)
            have HST := hide (show z = risesS width (lastR xs 1) (xs.drop 1) by rw [hst.out, hnx.out, decide_eq_true (p := x < width) hlt.out.2, decide_eq_true (p := lastR xs 0 < x) hlt.out.1]; rfl)
            have HLT := hide (show -1 ≤ lastR xs 1 ∧ (0 < 1 → 0 ≤ lastR xs 1) by rw [hnx.out]; have := hlt.out; omega)
            have HM := hide (show 1 ≤ n by omega)
            have hcell : ∀ w', Ext wr w' → w'.cell? ⟨b, off, none⟩ = some (.int .i64 x) := hcell
            go_upto_region 4 with fail
            refine wp_region_ext 29 (by kernel_rfl) (by kernel_rfl) (by kernel_rfl) ?_
            iterate 29
              refine wpE_k (by kernel_rfl) (by kernel_rfl) ?_
              apply Exists.intro
              refine ⟨fun w1 hw1 => ?_, fun K hK => ?_⟩
              · go_simp; first | done | rfl
              go_simp; refine hK _ _ ?_; clear hK K
            refine wpE_nil ⟨rfl, by kernel_rfl, fun wq hwq => ?_⟩
            simp only [EndQ]
            refine wpList_nil ?_
            have HW := hide hwq
            clear hwq hcell
            go_wp2_with fail
            go_roundw
            case rel => exact ⟨1, HM.out, rfl, HST, HLT, hX.out.trans HW.out⟩
            case measure => simp [intOf]; have := HM.out; omega
          · obtain ⟨j, hj⟩ : ∃ j, i = j + 1 := ⟨i - 1, by omega⟩
            obtain ⟨b2, off2, y, hA, hy, -, hcell2⟩ := (HN.out.ext hX.out).get (show j < n by omega)
            injection hA with hA
            injection hA with e1 e2
            subst e1; subst e2
            have hly := hide (show lastR xs i = y by rw [hj]; show (xs[j]?).getD (-1) = y; rw [hy]; rfl)
            clear hy
            have hj2 : (j : Int) < (n : Int) := by omega
            have hi1 : (0 : Int) < (i : Int) := by omega
            have hi3 : 0 < i := by omega
            have hwj : IntKind.i64.wrap (j : Int) = (j : Int) := IntWalk.i64_in _ (by omega)
            have hij : (i : Int) - 1 = (j : Int) := by omega
            have HM := hide (show i + 1 ≤ n by omega)
            have hcell2 := cell_ext hcell2
            have HLT := hide (show -1 ≤ lastR xs (i + 1) ∧ (0 < i + 1 → 0 ≤ lastR xs (i + 1)) by rw [hnx.out]; omega)
            clear hj hi0
            by_cases hc3 : x ≤ y
            · have HDN := hide (show z = false by rw [hst.out, hly.out, decide_eq_false (p := y < x) (by omega)]; rfl)
              go_upto_region 4 with fail
              refine wp_region_ext 29 (by kernel_rfl) (by kernel_rfl) (by kernel_rfl) ?_
              iterate 29
                refine wpE_k (by kernel_rfl) (by kernel_rfl) ?_
                apply Exists.intro
                refine ⟨fun w1 hw1 => ?_, fun K hK => ?_⟩
                · go_simp; first | done | rfl
                go_simp; refine hK _ _ ?_; clear hK K
              refine wpE_nil ⟨rfl, by kernel_rfl, fun wq hwq => ?_⟩
              simp only [EndQ]
              refine wpList_nil ?_
              have HW := hide hwq
              clear hwq hcell hcell2
              go_wp2_with fail
              go_ret
              exact ⟨by rw [HDN.out]; rfl, hX.out.trans HW.out⟩
            · have HST := hide (show z = risesS width (lastR xs (i + 1)) (xs.drop (i + 1)) by rw [hst.out, hly.out, hnx.out, decide_eq_true (p := x < width) (by omega), decide_eq_true (p := y < x) (by omega)]; rfl)
              go_upto_region 4 with fail
              refine wp_region_ext 29 (by kernel_rfl) (by kernel_rfl) (by kernel_rfl) ?_
              iterate 29
                refine wpE_k (by kernel_rfl) (by kernel_rfl) ?_
                apply Exists.intro
                refine ⟨fun w1 hw1 => ?_, fun K hK => ?_⟩
                · go_simp; first | done | rfl
                go_simp; refine hK _ _ ?_; clear hK K
              refine wpE_nil ⟨rfl, by kernel_rfl, fun wq hwq => ?_⟩
              simp only [EndQ]
              refine wpList_nil ?_
              have HW := hide hwq
              clear hwq hcell hcell2 hij
              go_wp2_with fail
              go_roundw
              case rel => exact ⟨i + 1, HM.out, by go_num, HST, HLT, hX.out.trans HW.out⟩
              case measure => simp [intOf]; have := HM.out; omega
    · obtain rfl : i = n := by omega
      have he : z = true := by rw [hq.out, List.drop_eq_nil_of_le (by have := HL.out; omega)]; rfl
      clear hq HZ HL
      subst he
      go_wp2_with fail
      go_ret
      exact ⟨rfl, hX.out⟩
end Go.Proofs.Ytahdiiaadjdmcaa

namespace Go.Proofs.Ytahdiiaadjdmcaa
open Go.RowKit

theorem not_good {s : SP} (h : GoodF s → False) : s.good = false := by
  cases hg : s.good with
  | false => rfl
  | true => exact (h (good_facts hg)).elim
theorem len_b0 {n : Nat} (h : (0 : Int) < (n : Int)) : ((n : Int) == 0) = false := beq_false_of_ne (by omega)
theorem len_b1 {n : Nat} (h : ¬ (0 : Int) < (n : Int)) : ((n : Int) == 0) = true := by rw [show (n : Int) = 0 by omega]; rfl
set_option maxRecDepth 100000 in
set_option maxHeartbeats 2000000 in
theorem ref_good {w : World} {s : SP} {L : SPL} (h : SpecAt w s L) :
    Calls Try.prog 10 #[.agg (specC s L)] w fun e w' => e = .returned (.bool s.good) ∧ Ext w w' := by
  obtain ⟨g, hg⟩ : ∃ g, w.heap.size = g := ⟨_, rfl⟩
  obtain ⟨w0, hw0⟩ : ∃ w0, w.alloc (.cells (specC s L) 46) = w0 := ⟨_, rfl⟩
  have hb := Blk.new w 46 (specC s L)
  have he := Ext.alloc w (.cells (specC s L) 46)
  rw [hw0] at hb he
  rw [hg] at hb
  have HE := hide he
  have HB := hide hb
  have b0 : w0.cell? ⟨g, 0, none⟩ = some (.int .i64 s.kind) := hb.cell 0
  have b1 : w0.cell? ⟨g, 1, none⟩ = some (.int .i64 s.inn) := hb.cell 1
  have b2 : w0.cell? ⟨g, 2, none⟩ = some (.slice L.kA s.keep.length L.kC) := hb.cell 2
  have b3 : w0.cell? ⟨g, 3, none⟩ = some (.slice L.sA s.side.length L.sC) := hb.cell 3
  have b4 : w0.cell? ⟨g, 4, none⟩ = some (.slice L.uA s.up.length L.uC) := hb.cell 4
  have b5 : w0.cell? ⟨g, 5, none⟩ = some (.int .i64 s.most) := hb.cell 5
  have HR := hide (fun (w1 : World) (h1 : Ext w0 w1) => ref_rising L.kC (h.ext (he.trans h1)).keep h.kl s.inn)
  have HS := hide (fun (w1 : World) (h1 : Ext w0 w1) => ref_rising L.sC (h.ext (he.trans h1)).side h.sl s.inn)
  have HU := hide (fun (w1 : World) (h1 : Ext w0 w1) => ref_rising L.uC (h.ext (he.trans h1)).up h.ul s.width)
  clear h hb he
  obtain ⟨z, hz⟩ : ∃ z, s.good = z := ⟨_, rfl⟩
  rw [hz]
  have HZ := hide hz
  clear hz
  unfold specC at *
  go_enter Try.func10, Try.ntmps10
  by_cases h0 : s.inn < 0
  · have HDN := hide (show z = false by rw [← HZ.out]; exact not_good fun h => by have := h.inn; omega)
    go_wp2_with fail
    go_ret
    exact ⟨by rw [HDN.out]; rfl, HE.out⟩
  by_cases h1 : 30 < s.inn
  · have HDN := hide (show z = false by rw [← HZ.out]; exact not_good fun h => by have := h.inn; omega)
    go_wp2_with fail
    go_ret
    exact ⟨by rw [HDN.out]; rfl, HE.out⟩
  by_cases h2 : s.most < 1
  · have HDN := hide (show z = false by rw [← HZ.out]; exact not_good fun h => by have := h.most; omega)
    go_wp2_with fail
    go_ret
    exact ⟨by rw [HDN.out]; rfl, HE.out⟩
  by_cases h3 : 65536 < s.most
  · have HDN := hide (show z = false by rw [← HZ.out]; exact not_good fun h => by have := h.most; omega)
    go_wp2_with fail
    go_ret
    exact ⟨by rw [HDN.out]; rfl, HE.out⟩
  have HAL := hide (rest_all (s := s) (by omega) (by omega) (by omega) (by omega))
  go_upto_region 4 with fail
  clear h0 h1 h2 h3 hw0 hg
  by_cases k2 : s.kind = 2
  · have HG := hide (good_k (s := s) (.inr (.inl k2)))
    have hw := hide (show s.width = (s.keep.length : Int) by unfold SP.width; rw [if_pos k2])
    have HKO := hide (keep_2 k2); have HSO := hide (side_n (s := s) (by omega))
    generalize s.keep.length = kn at *
    generalize s.side.length = sn at *
    have q2 : (s.kind == 2) = true := by simp [k2]
    clear k2
    have HU := hide HU.out
    rw [hw.out] at HU
    have HC := hide (HR.out w0 (Ext.refl _))
    clear HR HS
    generalize risesS s.inn (-1) s.keep = rb at *
    cases rb with
    | false =>
      have HDN := hide (show z = false by rw [← HZ.out, HG.out, HKO.out]; rfl)
      go_wp2_with ((with_reducible refine HC.out.mono ?_); rintro e w2 ⟨rfl, x2⟩; have X2 := hide x2; clear x2)
      go_ret
      exact ⟨by rw [HDN.out]; rfl, HE.out.trans X2.out⟩
    | true =>
      by_cases kl : s.inn ≤ (kn : Int)
      · have HDN := hide (show z = false by rw [← HZ.out, HG.out, HKO.out, decide_eq_false (p := (kn : Int) < s.inn) (by omega)]; rfl)
        go_wp2_with ((with_reducible refine HC.out.mono ?_); rintro e w2 ⟨rfl, x2⟩; have X2 := hide x2; have b1 := x2.cell b1; have b2 := x2.cell b2; have b3 := x2.cell b3; clear x2)
        go_ret
        exact ⟨by rw [HDN.out]; rfl, HE.out.trans X2.out⟩
      · by_cases sl : (0 : Int) < (sn : Int)
        · have HDN := hide (show z = false by rw [← HZ.out, HG.out, HSO.out, len_b0 sl]; cases s.keepOk <;> rfl)
          go_wp2_with ((with_reducible refine HC.out.mono ?_); rintro e w2 ⟨rfl, x2⟩; have X2 := hide x2; have b1 := x2.cell b1; have b2 := x2.cell b2; have b3 := x2.cell b3; clear x2)
          go_ret
          exact ⟨by rw [HDN.out]; rfl, HE.out.trans X2.out⟩
        · have HDN := hide (show z = risesS s.width (-1) s.up by rw [← HZ.out, HG.out, HKO.out, HSO.out, HAL.out, decide_eq_true (p := (kn : Int) < s.inn) (by omega), len_b1 sl]; rfl)
          rw [hw.out] at HDN
          have HU := hide HU.out
          generalize risesS (kn : Int) (-1) s.up = ub at *
          go_wp2_with (first
            | ((with_reducible refine HC.out.mono ?_); rintro e w2 ⟨rfl, x2⟩; have X2 := hide x2; have b1 := x2.cell b1; have b2 := x2.cell b2; have b3 := x2.cell b3; have b4 := x2.cell b4; clear x2)
            | ((with_reducible refine (HU.out w2 X2.out).mono ?_); rintro e w3 ⟨rfl, x3⟩; have X3 := hide x3; clear x3))
          go_ret
          exact ⟨by rw [HDN.out]; rfl, HE.out.trans (X2.out.trans X3.out)⟩
  by_cases k3 : s.kind = 3
  · have HG := hide (good_k (s := s) (.inr (.inr k3)))
    have hw := hide (show s.width = s.inn by unfold SP.width; rw [if_neg k2])
    have HKO := hide (keep_n k2); have HSO := hide (side_3 k3)
    generalize s.keep.length = kn at *
    generalize s.side.length = sn at *
    have q2 : (s.kind == 2) = false := by simp [k2]
    have q3 : (s.kind == 3) = true := by simp [k3]
    clear k2 k3
    have HU := hide HU.out
    rw [hw.out] at HU
    have HC := hide (HS.out w0 (Ext.refl _))
    clear HR HS
    by_cases kl : (0 : Int) < (kn : Int)
    · have HDN := hide (show z = false by rw [← HZ.out, HG.out, HKO.out, len_b0 kl]; rfl)
      go_wp2_with fail
      go_ret
      exact ⟨by rw [HDN.out]; rfl, HE.out⟩
    · have HKK := hide (show s.keepOk = true by rw [HKO.out]; exact len_b1 kl)
      generalize risesS s.inn (-1) s.side = rb at *
      cases rb with
      | false =>
        have HDN := hide (show z = false by rw [← HZ.out, HG.out, HSO.out]; cases s.keepOk <;> rfl)
        go_wp2_with ((with_reducible refine HC.out.mono ?_); rintro e w2 ⟨rfl, x2⟩; have X2 := hide x2; clear x2)
        go_ret
        exact ⟨by rw [HDN.out]; rfl, HE.out.trans X2.out⟩
      | true =>
        have HDN := hide (show z = risesS s.width (-1) s.up by rw [← HZ.out, HG.out, HSO.out, HAL.out, HKK.out]; rfl)
        rw [hw.out] at HDN
        have HU := hide HU.out
        generalize risesS s.inn (-1) s.up = ub at *
        go_wp2_with (first
          | ((with_reducible refine HC.out.mono ?_); rintro e w2 ⟨rfl, x2⟩; have X2 := hide x2; have b4 := x2.cell b4; clear x2)
          | ((with_reducible refine (HU.out w2 X2.out).mono ?_); rintro e w3 ⟨rfl, x3⟩; have X3 := hide x3; clear x3))
        go_ret
        exact ⟨by rw [HDN.out]; rfl, HE.out.trans (X2.out.trans X3.out)⟩
  · have hw := hide (show s.width = s.inn by unfold SP.width; rw [if_neg k2])
    have HKO := hide (keep_n k2); have HSO := hide (side_n k3)
    generalize s.keep.length = kn at *
    generalize s.side.length = sn at *
    have q2 : (s.kind == 2) = false := by simp [k2]
    have q3 : (s.kind == 3) = false := by simp [k3]
    have HK1 := hide (show s.kind ≠ 1 → z = false from fun h => by rw [← HZ.out]; exact not_good fun f => by have := f.kind; omega)
    clear k2 k3
    have HU := hide HU.out
    rw [hw.out] at HU
    clear HR HS
    by_cases k1 : s.kind = 1
    · have HG := hide (good_k (s := s) (.inl k1))
      have q1 : (s.kind == 1) = true := by simp [k1]
      have q1b : (s.kind != 1) = false := by simp [k1]
      clear k1
      by_cases kl : (0 : Int) < (kn : Int)
      · have HDN := hide (show z = false by rw [← HZ.out, HG.out, HKO.out, len_b0 kl]; rfl)
        go_wp2_with fail
        go_ret
        exact ⟨by rw [HDN.out]; rfl, HE.out⟩
      · have HKK := hide (show s.keepOk = true by rw [HKO.out]; exact len_b1 kl)
        by_cases sl : (0 : Int) < (sn : Int)
        · have HDN := hide (show z = false by rw [← HZ.out, HG.out, HSO.out, len_b0 sl]; cases s.keepOk <;> rfl)
          go_wp2_with fail
          go_ret
          exact ⟨by rw [HDN.out]; rfl, HE.out⟩
        · have HSS := hide (show s.sideOk = true by rw [HSO.out]; exact len_b1 sl)
          have HDN := hide (show z = risesS s.width (-1) s.up by rw [← HZ.out, HG.out, HAL.out, HKK.out, HSS.out]; rfl)
          rw [hw.out] at HDN
          have HC := hide (HU.out w0 (Ext.refl _))
          generalize risesS s.inn (-1) s.up = ub at *
          go_wp2_with ((with_reducible refine HC.out.mono ?_); rintro e w3 ⟨rfl, x3⟩; have X3 := hide x3; clear x3)
          go_ret
          exact ⟨by rw [HDN.out]; rfl, HE.out.trans X3.out⟩
    · have HDN := hide (HK1.out k1)
      have q1b : (s.kind != 1) = true := by simp [k1]
      clear k1
      go_wp2_with fail
      go_ret
      exact ⟨by rw [HDN.out]; rfl, HE.out⟩
end Go.Proofs.Ytahdiiaadjdmcaa

namespace Go.Proofs.Ytahdiiaadjdmcaa
open Go.RowKit

theorem ints_own {w w1 : World} {A : Option Addr} (c : Nat) {xs : List Int} (h : NumAt w A xs.length xs) (hl : xs.length ≤ 1048576) (hw : Ext w w1) :
    Calls Try.prog 17 #[.slice A xs.length c] w1 fun e w' => ∃ v, e = .returned v ∧ Ext w1 w' ∧ SlI w.heap.size xs v w' := by
  refine (ints_any xs A xs.length c w1 (h.ext hw) (by omega)).mono ?_
  rintro e w' ⟨A', c', rfl, h1, h2⟩
  exact ⟨_, rfl, h2, A', c', rfl, mine_base h1 hw.size⟩
theorem six_cells {w : World} {g : Nat} {t : TypeId} {c0 c1 c2 c3 c4 c5 : Value} (h : Blk w g t #[c0, c1, c2, c3, c4, c5]) (a b c d e f : Value) : Blk ((((((w.setCell ⟨g, 0, none⟩ a).setCell ⟨g, 1, none⟩ b).setCell ⟨g, 2, none⟩ c).setCell ⟨g, 3, none⟩ d).setCell ⟨g, 4, none⟩ e).setCell ⟨g, 5, none⟩ f) g t #[a, b, c, d, e, f] :=
  (((((h.set_ 0 a).set_ 1 b).set_ 2 c).set_ 3 d).set_ 4 e).set_ 5 f
/-- a description and its lists, all of one's own -/
structure SpecOwn (b : Nat) (w : World) (s : SP) (L : SPL) : Prop where
  keep : OwnI b w L.kA L.kC s.keep
  side : OwnI b w L.sA L.sC s.side
  up : OwnI b w L.uA L.uC s.up
theorem SpecOwn.ext {b : Nat} {w w' : World} {s : SP} {L : SPL} (h : SpecOwn b w s L) (hw : Ext w w') : SpecOwn b w' s L := ⟨h.keep.ext hw, h.side.ext hw, h.up.ext hw⟩
theorem SpecOwn.set_ {b : Nat} {w : World} {s : SP} {L : SPL} (h : SpecOwn b w s L) {g : Nat} {t : TypeId} {cs : Array Value} (hb : Blk w g t cs) (hne : 3 ≠ t) (j : Nat) (u : Value) : SpecOwn b (w.setCell ⟨g, j, none⟩ u) s L := ⟨h.keep.set_ hb hne j u, h.side.set_ hb hne j u, h.up.set_ hb hne j u⟩
theorem SpecOwn.six {b : Nat} {w : World} {s : SP} {L : SPL} (h : SpecOwn b w s L) {g : Nat} {t : TypeId} {cs : Array Value} (hb : Blk w g t cs) (hne : 3 ≠ t) (x0 x1 x2 x3 x4 x5 : Value) : SpecOwn b ((((((w.setCell ⟨g, 0, none⟩ x0).setCell ⟨g, 1, none⟩ x1).setCell ⟨g, 2, none⟩ x2).setCell ⟨g, 3, none⟩ x3).setCell ⟨g, 4, none⟩ x4).setCell ⟨g, 5, none⟩ x5) s L :=
  (((((h.set_ hb hne 0 x0).set_ (hb.set_ 0 _) hne 1 x1).set_ ((hb.set_ 0 _).set_ 1 _) hne 2 x2).set_ (((hb.set_ 0 _).set_ 1 _).set_ 2 _) hne 3 x3).set_ ((((hb.set_ 0 _).set_ 1 _).set_ 2 _).set_ 3 _) hne 4 x4).set_ (((((hb.set_ 0 _).set_ 1 _).set_ 2 _).set_ 3 _).set_ 4 _) hne 5 x5
theorem SpecOwn.at_ {b : Nat} {w : World} {s : SP} {L : SPL} (h : SpecOwn b w s L) (h1 : s.keep.length ≤ 1048576) (h2 : s.side.length ≤ 1048576) (h3 : s.up.length ≤ 1048576) : SpecAt w s L := ⟨h.keep.num, h.side.num, h.up.num, h1, h2, h3⟩
theorem ext_six {w w1 : World} {g : Nat} (h : Ext w w1) (hg : w.heap.size ≤ g) (x0 x1 x2 x3 x4 x5 : Value) : Ext w ((((((w1.setCell ⟨g, 0, none⟩ x0).setCell ⟨g, 1, none⟩ x1).setCell ⟨g, 2, none⟩ x2).setCell ⟨g, 3, none⟩ x3).setCell ⟨g, 4, none⟩ x4).setCell ⟨g, 5, none⟩ x5) :=
  (((((h.setCell (p := ⟨g, 0, none⟩) hg x0).setCell (p := ⟨g, 1, none⟩) hg x1).setCell (p := ⟨g, 2, none⟩) hg x2).setCell (p := ⟨g, 3, none⟩) hg x3).setCell (p := ⟨g, 4, none⟩) hg x4).setCell (p := ⟨g, 5, none⟩) hg x5
def zeroSpec : Array Value := #[.int .i64 0, .int .i64 0, .slice none 0 0, .slice none 0 0, .slice none 0 0, .int .i64 0]
set_option maxRecDepth 100000 in
set_option maxHeartbeats 4000000 in
theorem of_any {w : World} {s : SP} {L : SPL} (h : SpecAt w s L) :
    Calls Try.prog 11 #[.agg (specC s L)] w fun e w' => ∃ L', e = .returned (.agg (specC s L')) ∧ SpecOwn w.heap.size w' s L' ∧ Ext w w' := by
  obtain ⟨g, hg⟩ : ∃ g, w.heap.size = g := ⟨_, rfl⟩
  obtain ⟨w0, hw0⟩ : ∃ w0, (w.alloc (.cells (specC s L) 25)).alloc (.cells zeroSpec 46) = w0 := ⟨_, rfl⟩
  have hb := (Blk.new w 25 (specC s L)).ext (Ext.alloc _ (.cells zeroSpec 46))
  have hz := Blk.new (w.alloc (.cells (specC s L) 25)) 46 zeroSpec
  have he := (Ext.alloc w (.cells (specC s L) 25)).alloc' (.cells zeroSpec 46)
  rw [World.size_alloc] at hz
  rw [hw0] at hb he hz
  rw [hg] at hb hz
  have HE := hide he; have HZ := hide hz; have HGE := hide (Nat.le_of_eq hg)
  have b0 : w0.cell? ⟨g, 0, none⟩ = some (.int .i64 s.kind) := hb.cell 0
  have b1 : w0.cell? ⟨g, 1, none⟩ = some (.int .i64 s.inn) := hb.cell 1
  have b2 : w0.cell? ⟨g, 2, none⟩ = some (.slice L.kA s.keep.length L.kC) := hb.cell 2
  have b3 : w0.cell? ⟨g, 3, none⟩ = some (.slice L.sA s.side.length L.sC) := hb.cell 3
  have b4 : w0.cell? ⟨g, 4, none⟩ = some (.slice L.uA s.up.length L.uC) := hb.cell 4
  have b5 : w0.cell? ⟨g, 5, none⟩ = some (.int .i64 s.most) := hb.cell 5
  have HS := hide (h.ext he)
  clear h hb he hz
  unfold specC at *
  unfold zeroSpec at *
  go_enter Try.func11, Try.ntmps11
  go_upto_region 1 with fail
  have b0 := cell_ext b0; have b1 := cell_ext b1; have b2 := cell_ext b2; have b3 := cell_ext b3; have b4 := cell_ext b4; have b5 := cell_ext b5
  refine wp_region_ext 16 (by kernel_rfl) (by kernel_rfl) (by kernel_rfl) ?_
  iterate 6
    refine wpE_k (by kernel_rfl) (by kernel_rfl) ?_
    apply Exists.intro
    refine ⟨fun w1 hw1 => ?_, fun K hK => ?_⟩
    · go_simp; first | done | rfl
    go_simp; refine hK _ _ ?_; clear hK K
  refine wpE_p [] (SlI w0.heap.size s.keep) (fun u w1 w2 _ h2 h => h.ext h2) rfl (by kernel_rfl) (fun w2 hw2 => ?_) ?_
  · have HC := ints_own L.kC HS.out.keep HS.out.kl hw2
    clear b0 b1 b2 b3 b4 b5
    simp only [LookQ]
    go_simp
    first | exact ⟨Ext.refl _, HC⟩ | exact Ext.refl _
  iterate 2
    refine wpE_k (by kernel_rfl) (by kernel_rfl) ?_
    apply Exists.intro
    refine ⟨fun w1 hw1 => ?_, fun K hK => ?_⟩
    · go_simp; first | done | rfl
    go_simp; refine hK _ _ ?_; clear hK K
  refine wpE_p [] (SlI w0.heap.size s.side) (fun u w1 w2 _ h2 h => h.ext h2) rfl (by kernel_rfl) (fun w2 hw2 => ?_) ?_
  · have HC := ints_own L.sC HS.out.side HS.out.sl hw2
    clear b0 b1 b2 b3 b4 b5
    simp only [LookQ]
    go_simp
    first | exact ⟨Ext.refl _, HC⟩ | exact Ext.refl _
  iterate 2
    refine wpE_k (by kernel_rfl) (by kernel_rfl) ?_
    apply Exists.intro
    refine ⟨fun w1 hw1 => ?_, fun K hK => ?_⟩
    · go_simp; first | done | rfl
    go_simp; refine hK _ _ ?_; clear hK K
  refine wpE_p [] (SlI w0.heap.size s.up) (fun u w1 w2 _ h2 h => h.ext h2) rfl (by kernel_rfl) (fun w2 hw2 => ?_) ?_
  · have HC := ints_own L.uC HS.out.up HS.out.ul hw2
    clear b0 b1 b2 b3 b4 b5
    simp only [LookQ]
    go_simp
    first | exact ⟨Ext.refl _, HC⟩ | exact Ext.refl _
  iterate 2
    refine wpE_k (by kernel_rfl) (by kernel_rfl) ?_
    apply Exists.intro
    refine ⟨fun w1 hw1 => ?_, fun K hK => ?_⟩
    · go_simp; first | done | rfl
    go_simp; refine hK _ _ ?_; clear hK K
  refine wpE_p [9, 12, 15] (fun u w1 => ∃ L', u = .agg (specC s L') ∧ SpecOwn w0.heap.size w1 s L') (fun u w1 w2 _ h2 ⟨L', h3, h4⟩ => ⟨L', h3, h4.ext h2⟩) rfl (by kernel_rfl) (fun w2 hw2 => ?_) ?_
  · clear b0 b1 b2 b3 b4 b5
    simp only [LookQ]
    intro u1 hu1 u2 hu2 u3 hu3
    obtain ⟨kA, kC, rfl, o1⟩ := hu1 _ rfl
    obtain ⟨sA, sC, rfl, o2⟩ := hu2 _ rfl
    obtain ⟨uA, uC, rfl, o3⟩ := hu3 _ rfl
    clear hu1 hu2 hu3
    have HO := hide (show SpecOwn w0.heap.size w2 s ⟨kA, kC, sA, sC, uA, uC⟩ from ⟨o1, o2, o3⟩)
    clear o1 o2 o3
    go_simp
    exact ⟨Ext.refl _, ⟨kA, kC, sA, sC, uA, uC⟩, rfl, HO.out⟩
  refine wpE_nil ⟨rfl, by kernel_rfl, fun w3 hw3 => ?_⟩
  simp only [EndQ, List.drop]
  rintro _ ⟨L', rfl, o1⟩ u1 - u2 - u3 -
  have X3 := hide hw3; have O1 := hide o1
  have B3 := hide (HZ.out.ext hw3)
  have f0 := B3.out.frozen 0; have f1 := B3.out.frozen 1; have f2 := B3.out.frozen 2; have f3 := B3.out.frozen 3; have f4 := B3.out.frozen 4; have f5 := B3.out.frozen 5
  have c0 : _ = some (Value.int .i64 0) := B3.out.cell 0; have c1 : _ = some (Value.int .i64 0) := B3.out.cell 1; have c2 : _ = some (Value.slice none 0 0) := B3.out.cell 2; have c3 : _ = some (Value.slice none 0 0) := B3.out.cell 3; have c4 : _ = some (Value.slice none 0 0) := B3.out.cell 4; have c5 : _ = some (Value.int .i64 0) := B3.out.cell 5
  clear hw3 o1 b0 b1 b2 b3 b4 b5 hw0 hg
  unfold specC
  go_wp2_with fail
  have R := six_cells B3.out (.int .i64 s.kind) (.int .i64 s.inn) (.slice L'.kA s.keep.length L'.kC) (.slice L'.sA s.side.length L'.sC) (.slice L'.uA s.up.length L'.uC) (.int .i64 s.most)
  have r0 := R.cell 0; have r1 := R.cell 1; have r2 := R.cell 2; have r3 := R.cell 3; have r4 := R.cell 4; have r5 := R.cell 5
  refine bodyPost_ret (v := .agg #[.int .i64 s.kind, .int .i64 s.inn, .slice L'.kA s.keep.length L'.kC, .slice L'.sA s.side.length L'.sC, .slice L'.uA s.up.length L'.uC, .int .i64 s.most]) (by simp [results, Try.results11, go_sem, r0, r1, r2, r3, r4, r5]) rfl ?_
  have hg2 := HGE.out
  refine ⟨L', rfl, ?_, ext_six (HE.out.trans X3.out) (by omega) _ _ _ _ _ _⟩
  have h1 := O1.out.six B3.out (by decide) (.int .i64 s.kind) (.int .i64 s.inn) (.slice L'.kA s.keep.length L'.kC) (.slice L'.sA s.side.length L'.sC) (.slice L'.uA s.up.length L'.uC) (.int .i64 s.most)
  have h2 := HE.out.size
  exact ⟨mine_base h1.keep h2, mine_base h1.side h2, mine_base h1.up h2⟩
end Go.Proofs.Ytahdiiaadjdmcaa

namespace Go.Proofs.Ytahdiiaadjdmcaa
open Go.RowKit

set_option maxRecDepth 100000 in
set_option maxHeartbeats 4000000 in
theorem copySpec_any {w : World} {s : SP} {L : SPL} (h : SpecAt w s L) :
    Calls Try.prog 8 #[.agg (specC s L)] w fun e w' => ∃ L', e = .returned (.agg (specC s L')) ∧ SpecOwn w.heap.size w' s L' ∧ Ext w w' := by
  obtain ⟨g, hg⟩ : ∃ g, w.heap.size = g := ⟨_, rfl⟩
  obtain ⟨w0, hw0⟩ : ∃ w0, (w.alloc (.cells (specC s L) 25)).alloc (.cells zeroSpec 25) = w0 := ⟨_, rfl⟩
  have hb := (Blk.new w 25 (specC s L)).ext (Ext.alloc _ (.cells zeroSpec 25))
  have hz := Blk.new (w.alloc (.cells (specC s L) 25)) 25 zeroSpec
  have he := (Ext.alloc w (.cells (specC s L) 25)).alloc' (.cells zeroSpec 25)
  rw [World.size_alloc] at hz
  rw [hw0] at hb he hz
  rw [hg] at hb hz
  have HE := hide he; have HZ := hide hz; have HGE := hide (Nat.le_of_eq hg); have HB := hide hb
  have b2 : w0.cell? ⟨g, 2, none⟩ = some (.slice L.kA s.keep.length L.kC) := hb.cell 2
  have b3 : w0.cell? ⟨g, 3, none⟩ = some (.slice L.sA s.side.length L.sC) := hb.cell 3
  have b4 : w0.cell? ⟨g, 4, none⟩ = some (.slice L.uA s.up.length L.uC) := hb.cell 4
  have HS := hide (h.ext he)
  clear h hb he hz
  unfold specC at *
  unfold zeroSpec at *
  go_enter Try.func8, Try.ntmps8
  go_upto_region 1 with fail
  have b2 := cell_ext b2; have b3 := cell_ext b3; have b4 := cell_ext b4
  refine wp_region_ext 10 (by kernel_rfl) (by kernel_rfl) (by kernel_rfl) ?_
  iterate 2
    refine wpE_k (by kernel_rfl) (by kernel_rfl) ?_
    apply Exists.intro
    refine ⟨fun w1 hw1 => ?_, fun K hK => ?_⟩
    · go_simp; first | done | rfl
    go_simp; refine hK _ _ ?_; clear hK K
  refine wpE_p [] (SlI w0.heap.size s.keep) (fun u w1 w2 _ h2 h => h.ext h2) rfl (by kernel_rfl) (fun w2 hw2 => ?_) ?_
  · have HC := ints_own L.kC HS.out.keep HS.out.kl hw2
    clear b2 b3 b4
    simp only [LookQ]
    go_simp
    first | exact ⟨Ext.refl _, HC⟩ | exact Ext.refl _
  iterate 2
    refine wpE_k (by kernel_rfl) (by kernel_rfl) ?_
    apply Exists.intro
    refine ⟨fun w1 hw1 => ?_, fun K hK => ?_⟩
    · go_simp; first | done | rfl
    go_simp; refine hK _ _ ?_; clear hK K
  refine wpE_p [] (SlI w0.heap.size s.side) (fun u w1 w2 _ h2 h => h.ext h2) rfl (by kernel_rfl) (fun w2 hw2 => ?_) ?_
  · have HC := ints_own L.sC HS.out.side HS.out.sl hw2
    clear b2 b3 b4
    simp only [LookQ]
    go_simp
    first | exact ⟨Ext.refl _, HC⟩ | exact Ext.refl _
  iterate 2
    refine wpE_k (by kernel_rfl) (by kernel_rfl) ?_
    apply Exists.intro
    refine ⟨fun w1 hw1 => ?_, fun K hK => ?_⟩
    · go_simp; first | done | rfl
    go_simp; refine hK _ _ ?_; clear hK K
  refine wpE_p [] (SlI w0.heap.size s.up) (fun u w1 w2 _ h2 h => h.ext h2) rfl (by kernel_rfl) (fun w2 hw2 => ?_) ?_
  · have HC := ints_own L.uC HS.out.up HS.out.ul hw2
    clear b2 b3 b4
    simp only [LookQ]
    go_simp
    first | exact ⟨Ext.refl _, HC⟩ | exact Ext.refl _
  iterate 1
    refine wpE_k (by kernel_rfl) (by kernel_rfl) ?_
    apply Exists.intro
    refine ⟨fun w1 hw1 => ?_, fun K hK => ?_⟩
    · go_simp; first | done | rfl
    go_simp; refine hK _ _ ?_; clear hK K
  refine wpE_nil ⟨rfl, by kernel_rfl, fun w3 hw3 => ?_⟩
  simp only [EndQ, List.drop]
  rintro _ ⟨uA, uC, rfl, o3⟩ _ ⟨sA, sC, rfl, o2⟩ _ ⟨kA, kC, rfl, o1⟩
  clear b2 b3 b4 hw0 hg
  have X3 := hide hw3
  have B3 := hide (HB.out.ext hw3)
  have Z3 := hide (HZ.out.ext hw3)
  have O3 := hide (show SpecOwn w0.heap.size w3 s ⟨kA, kC, sA, sC, uA, uC⟩ from ⟨o1, o2, o3⟩)
  have B31 := hide (B3.out.set_ 2 (.slice kA s.keep.length kC))
  have B32 := hide (B31.out.set_ 3 (.slice sA s.side.length sC))
  have B33 := hide (B32.out.set_ 4 (.slice uA s.up.length uC))
  have O4 := hide (((O3.out.set_ B3.out (by decide) 2 (.slice kA s.keep.length kC)).set_ B31.out (by decide) 3 (.slice sA s.side.length sC)).set_ B32.out (by decide) 4 (.slice uA s.up.length uC))
  have E4 := hide ((((HE.out.trans hw3).setCell (p := ⟨g, 2, none⟩) HGE.out (.slice kA s.keep.length kC)).setCell (p := ⟨g, 3, none⟩) HGE.out (.slice sA s.side.length sC)).setCell (p := ⟨g, 4, none⟩) HGE.out (.slice uA s.up.length uC))
  have Z4 := hide (((Z3.out.far (p := ⟨g, 2, none⟩) (by show g + 1 ≠ g; omega) (.slice kA s.keep.length kC)).far (p := ⟨g, 3, none⟩) (by show g + 1 ≠ g; omega) (.slice sA s.side.length sC)).far (p := ⟨g, 4, none⟩) (by show g + 1 ≠ g; omega) (.slice uA s.up.length uC))
  have c2 := B3.out.cell 2; have c3 := B3.out.cell 3; have c4 := B3.out.cell 4
  have f2 := B3.out.frozen 2; have f3 := B3.out.frozen 3; have f4 := B3.out.frozen 4
  clear hw3 o1 o2 o3
  go_upto_region 2 with fail
  clear c2 c3 c4 f2 f3 f4 B31 B32 B3
  generalize ((w3.setCell ⟨g, 2, none⟩ (.slice kA s.keep.length kC)).setCell ⟨g, 3, none⟩ (.slice sA s.side.length sC)).setCell ⟨g, 4, none⟩ (.slice uA s.up.length uC) = w4 at *
  have B4 := hide (show Blk w4 g 25 #[.int .i64 s.kind, .int .i64 s.inn, .slice kA s.keep.length kC, .slice sA s.side.length sC, .slice uA s.up.length uC, .int .i64 s.most] from B33.out)
  have d0 : w4.cell? ⟨g, 0, none⟩ = some (.int .i64 s.kind) := B4.out.cell 0
  have d1 : w4.cell? ⟨g, 1, none⟩ = some (.int .i64 s.inn) := B4.out.cell 1
  have d2 : w4.cell? ⟨g, 2, none⟩ = some (.slice kA s.keep.length kC) := B4.out.cell 2
  have d3 : w4.cell? ⟨g, 3, none⟩ = some (.slice sA s.side.length sC) := B4.out.cell 3
  have d4 : w4.cell? ⟨g, 4, none⟩ = some (.slice uA s.up.length uC) := B4.out.cell 4
  have d5 : w4.cell? ⟨g, 5, none⟩ = some (.int .i64 s.most) := B4.out.cell 5
  have f0 := Z4.out.frozen 0; have f1 := Z4.out.frozen 1; have f2 := Z4.out.frozen 2; have f3 := Z4.out.frozen 3; have f4 := Z4.out.frozen 4; have f5 := Z4.out.frozen 5
  have c0 : _ = some (Value.int .i64 0) := Z4.out.cell 0; have c1 : _ = some (Value.int .i64 0) := Z4.out.cell 1; have c2 : _ = some (Value.slice none 0 0) := Z4.out.cell 2; have c3 : _ = some (Value.slice none 0 0) := Z4.out.cell 3; have c4 : _ = some (Value.slice none 0 0) := Z4.out.cell 4; have c5 : _ = some (Value.int .i64 0) := Z4.out.cell 5
  go_wp2_with fail
  have R := six_cells Z4.out (.int .i64 s.kind) (.int .i64 s.inn) (.slice kA s.keep.length kC) (.slice sA s.side.length sC) (.slice uA s.up.length uC) (.int .i64 s.most)
  have r0 := R.cell 0; have r1 := R.cell 1; have r2 := R.cell 2; have r3 := R.cell 3; have r4 := R.cell 4; have r5 := R.cell 5
  refine bodyPost_ret (v := .agg #[.int .i64 s.kind, .int .i64 s.inn, .slice kA s.keep.length kC, .slice sA s.side.length sC, .slice uA s.up.length uC, .int .i64 s.most]) (by simp [results, Try.results8, go_sem, r0, r1, r2, r3, r4, r5]) rfl ?_
  have hg2 := HGE.out
  refine ⟨⟨kA, kC, sA, sC, uA, uC⟩, rfl, ?_, ext_six E4.out (by omega) _ _ _ _ _ _⟩
  have h1 := O4.out.six Z4.out (by decide) (.int .i64 s.kind) (.int .i64 s.inn) (.slice kA s.keep.length kC) (.slice sA s.side.length sC) (.slice uA s.up.length uC) (.int .i64 s.most)
  have h2 := HE.out.size
  exact ⟨mine_base h1.keep h2, mine_base h1.side h2, mine_base h1.up h2⟩
end Go.Proofs.Ytahdiiaadjdmcaa

namespace Go.Proofs.Ytahdiiaadjdmcaa
open Go.RowKit

def OwnM (b : Nat) (w : World) (A : Option Addr) (n c : Nat) : Prop := ∃ xs, w.ownsRow b 3 1 (.slice A n c) n xs
theorem OwnI.mess {b : Nat} {w : World} {A : Option Addr} {c : Nat} {xs : List Int} (h : OwnI b w A c xs) : OwnM b w A xs.length c := ⟨_, h⟩
theorem OwnM.ext {b n c : Nat} {w w' : World} {A : Option Addr} (h : OwnM b w A n c) (hw : Ext w w') : OwnM b w' A n c := by
  obtain ⟨xs, h⟩ := h
  exact ⟨xs, mine_ext h hw⟩
theorem OwnM.any {b n c : Nat} {w : World} {A : Option Addr} (h : OwnM b w A n c) (p j : Nat) (u : Value) : OwnM b (w.setCell ⟨p, j, none⟩ u) A n c := by
  obtain ⟨xs, h0, h⟩ := h
  rcases h with h1 | ⟨g, cap, cur, h1, h2, h3, h4, h5, h6, h7⟩
  · exact ⟨xs, h0, .inl h1⟩
  · have hb : Blk w g 3 cur := h3
    by_cases hg : g = p
    · subst hg
      refine ⟨(cur.setIfInBounds j u).toList.take (n * 1), ?_, .inr ⟨g, cap, _, h1, h2, hb.set_ j u, h4, h5, by rw [Array.size_setIfInBounds]; exact h6, rfl⟩⟩
      rw [List.length_take, Array.length_toList, Array.size_setIfInBounds, h6]; omega
    · exact ⟨xs, h0, .inr ⟨g, cap, cur, h1, h2, hb.far (p := ⟨p, j, none⟩) hg u, h4, h5, h6, h7⟩⟩
theorem OwnM.at_ {b n c : Nat} {w : World} {A : Option Addr} (h : OwnM b w A n c) {j : Nat} (hj : j < n) : ∃ g cs v, A = some ⟨g, 0, none⟩ ∧ b ≤ g ∧ Blk w g 3 cs ∧ w.cell? ⟨g, j, none⟩ = some v := by
  obtain ⟨xs, h0, h⟩ := h
  rcases h with ⟨-, h1⟩ | ⟨g, cap, cur, k1, k2, k3, k4, k5, k6, k7⟩
  · omega
  · injection k1 with k1
    subst k1
    have hb : Blk w g 3 cur := k3
    exact ⟨g, cur, cur[j]'(by omega), rfl, k2, hb, by rw [hb.cell j]; exact Array.getElem?_eq_getElem (by omega)⟩
end Go.Proofs.Ytahdiiaadjdmcaa

namespace Go.Proofs.Ytahdiiaadjdmcaa
open Go.RowKit

/-- the description that was handed in, while its lists are written over -/
structure MdI (b M : Nat) (w3 : World) (g5 : Nat) (s : SP) (L : SPL) (w' : World) : Prop where
  blk : Blk w' g5 25 (specC s L)
  keep : OwnM b w' L.kA s.keep.length L.kC
  side : OwnM b w' L.sA s.side.length L.sC
  up : OwnM b w' L.uA s.up.length L.uC
  chg : Chg (fun x => b ≤ x ∧ x < M) w3 w'
theorem blk_ne {w : World} {g k : Nat} {s t : TypeId} {cs ds : Array Value} (h : Blk w g s cs) (h2 : Blk w k t ds) (hne : s ≠ t) : g ≠ k := fun e => by
  subst e
  unfold Blk at h h2
  rw [h] at h2
  injection h2 with h2
  injection h2 with _ h2 _
  exact hne h2
theorem MdI.put {b M : Nat} {w3 w' : World} {g5 : Nat} {s : SP} {L : SPL} (h : MdI b M w3 g5 s L w') {g j : Nat} {cs : Array Value} (hb : Blk w' g 3 cs) (h1 : b ≤ g) (h2 : g < M) (u : Value) : MdI b M w3 g5 s L (w'.setCell ⟨g, j, none⟩ u) :=
  ⟨h.blk.far (p := ⟨g, j, none⟩) (blk_ne h.blk hb (by decide)) u, h.keep.any g j u, h.side.any g j u, h.up.any g j u, Chg.setCell h.chg (p := ⟨g, j, none⟩) (.inl ⟨h1, h2⟩) u⟩
/-- the document's node, new -/
def docC (s : SP) (L : SPL) : Array Value := #[.int .i64 s.kind, .int .i64 s.inn, .slice L.kA s.keep.length L.kC, .slice L.sA s.side.length L.sC, .slice L.uA s.up.length L.uC, .int .i64 s.most, .slice none 0 0, .slice none 0 0, .slice none 0 0, .slice none 0 0, .bool false, .slice none 0 0, .slice none 0 0, .slice none 0 0, .slice none 0 0]
def DocNew (b : Nat) (w : World) (d : Nat) (s : SP) : Prop := ∃ L, Blk w d 51 (docC s L) ∧ SpecOwn b w s L ∧ b ≤ d ∧ ∀ x, (L.kA = some x ∨ L.sA = some x ∨ L.uA = some x) → b ≤ x.block ∧ x.block < d
/-- what made says; b: from there on the document's node lies -/
def MadeN (s : SP) (w w' : World) (e : Ending) : Prop :=
  Ext w w' ∧ ((s.good = false ∧ e = .returned (.tuple #[.pointer none, .pointer none, .bool true])) ∨
    (s.good = true ∧ ∃ n d B b, e = .returned (.tuple #[.pointer (some ⟨n, 0, none⟩), .pointer (some ⟨d, 0, none⟩), .bool true]) ∧ NdI w' B n (nkOf s) emptyN 262144 ∧ (∀ x, B x → w.heap.size ≤ x ∧ x < b) ∧ w.heap.size ≤ b ∧ DocNew b w' d s))
set_option maxRecDepth 100000 in
set_option maxHeartbeats 4000000 in
theorem made_any {w : World} {s : SP} {L : SPL} (h : SpecAt w s L) :
    Calls Try.prog 4 #[.agg (specC s L)] w fun e w' => MadeN s w w' e := by
  obtain ⟨g, hg⟩ : ∃ g, w.heap.size = g := ⟨_, rfl⟩
  obtain ⟨w0, hw0⟩ : ∃ w0, w.alloc (.cells (specC s L) 25) = w0 := ⟨_, rfl⟩
  have hb := Blk.new w 25 (specC s L)
  have he := Ext.alloc w (.cells (specC s L) 25)
  rw [hw0] at hb he
  rw [hg] at hb
  have HE := hide he; have HB := hide hb; have HGE := hide (Nat.le_of_eq hg)
  have hs := h.ext he
  have HS := hide hs
  have HCP := hide (copySpec_any hs)
  have b0 : w0.cell? ⟨g, 0, none⟩ = some (.int .i64 s.kind) := hb.cell 0
  have b1 : w0.cell? ⟨g, 1, none⟩ = some (.int .i64 s.inn) := hb.cell 1
  have b2 : w0.cell? ⟨g, 2, none⟩ = some (.slice L.kA s.keep.length L.kC) := hb.cell 2
  have b3 : w0.cell? ⟨g, 3, none⟩ = some (.slice L.sA s.side.length L.sC) := hb.cell 3
  have b4 : w0.cell? ⟨g, 4, none⟩ = some (.slice L.uA s.up.length L.uC) := hb.cell 4
  have b5 : w0.cell? ⟨g, 5, none⟩ = some (.int .i64 s.most) := hb.cell 5
  clear h hb he hs
  unfold specC at *
  go_enter Try.func4, Try.ntmps4
  go_upto_region 1 with fail
  go_upto_region 2 with ((with_reducible refine HCP.out.mono ?_); rintro e w1 ⟨L1, rfl, o1, x1⟩; have O1 := hide o1; have X1 := hide x1; clear o1 x1)
  obtain ⟨g5, hg5⟩ : ∃ g5, w1.heap.size = g5 := ⟨_, rfl⟩
  rw [hg5]
  have hb5 := Blk.new w1 25 (specC s L1)
  have he5 := Ext.alloc w1 (.cells (specC s L1) 25)
  have hs5 := (O1.out.at_ HS.out.kl HS.out.sl HS.out.ul).ext he5
  have ho5 := O1.out.ext he5
  rw [hg5] at hb5
  unfold specC at hb5 he5 hs5 ho5
  generalize w1.alloc (.cells #[.int .i64 s.kind, .int .i64 s.inn, .slice L1.kA s.keep.length L1.kC, .slice L1.sA s.side.length L1.sC, .slice L1.uA s.up.length L1.uC, .int .i64 s.most] 25) = w5 at *
  have HNW := hide (new_any hs5)
  have HLB := hide (show ∀ x, (L1.kA = some x ∨ L1.sA = some x ∨ L1.uA = some x) → w0.heap.size ≤ x.block ∧ x.block < w5.heap.size from fun x hx => by
    rcases hx with hx | hx | hx
    · have := ho5.keep.lt x hx; omega
    · have := ho5.side.lt x hx; omega
    · have := ho5.up.lt x hx; omega)
  have HWS := hide (show w.heap.size ≤ w5.heap.size from by have := HE.out.size; have := X1.out.size; have := he5.size; omega)
  have HX5 := hide (X1.out.trans he5)
  have HO5 := hide ho5; have HB5 := hide hb5
  have d0 : w5.cell? ⟨g5, 0, none⟩ = some (.int .i64 s.kind) := hb5.cell 0
  have d1 : w5.cell? ⟨g5, 1, none⟩ = some (.int .i64 s.inn) := hb5.cell 1
  have d2 : w5.cell? ⟨g5, 2, none⟩ = some (.slice L1.kA s.keep.length L1.kC) := hb5.cell 2
  have d3 : w5.cell? ⟨g5, 3, none⟩ = some (.slice L1.sA s.side.length L1.sC) := hb5.cell 3
  have d4 : w5.cell? ⟨g5, 4, none⟩ = some (.slice L1.uA s.up.length L1.uC) := hb5.cell 4
  have d5 : w5.cell? ⟨g5, 5, none⟩ = some (.int .i64 s.most) := hb5.cell 5
  clear hs5 ho5 hb5 he5 hg5 HCP HGE O1 X1 b0 b1 b2 b3 b4 b5
  unfold specC at HNW
  have HNE := hide (HNW.out.mono (R' := fun e w' => Ext w5 w' ∧ ∃ p q, e = .returned (.tuple #[.pointer p, .int .i64 q]) ∧ ((s.good = false ∧ p = none ∧ q = 190) ∨ (s.good = true ∧ q = 0 ∧ ∃ n B, p = some ⟨n, 0, none⟩ ∧ NdI w' B n (nkOf s) emptyN 262144 ∧ (∀ b, B b → w5.heap.size ≤ b) ∧ ∀ b, B b → b < w'.heap.size))) fun e w' hh => ⟨hh.1, hh.2.elim (fun ⟨h1, h2⟩ => ⟨none, 190, h2, .inl ⟨h1, rfl, rfl⟩⟩) fun ⟨h1, n, B, h2, h3⟩ => ⟨_, _, h2, .inr ⟨h1, rfl, n, B, rfl, h3⟩⟩⟩)
  clear HNW
  go_upto_region 3 with ((with_reducible refine HNE.out.mono ?_); rintro e w6 ⟨x6, p, q, rfl, hn⟩; have X6 := hide x6; have HNN := hide hn; clear x6 hn)
  clear d0 d1 d2 d3 d4 d5 HNE
  have HM0 := hide (show MdI w0.heap.size w5.heap.size w6 g5 s L1 w6 from by
    have hx := X6.out
    have hk := HO5.out.keep.ext hx; have hd := HO5.out.side.ext hx; have hu := HO5.out.up.ext hx
    exact ⟨HB5.out.ext hx, hk.mess, hd.mess, hu.mess, Chg.refl _ _⟩)
  have HL3 := hide (show s.keep.length ≤ 1048576 ∧ s.side.length ≤ 1048576 ∧ s.up.length ≤ 1048576 from ⟨HS.out.kl, HS.out.sl, HS.out.ul⟩)
  have d2 : w6.cell? ⟨g5, 2, none⟩ = some (.slice L1.kA s.keep.length L1.kC) := HM0.out.blk.cell 2
  clear HO5 HB5
  go_wp2_with fail
  have hl1 := HL3.out.1
  go_loopw [8, 21] (fun _ s21 w' => ∃ i : Nat, i ≤ s.keep.length ∧ s21 = .int .i64 i ∧ Hid (MdI w0.heap.size w5.heap.size w6 g5 s L1 w')) (fun _ s21 _ => s.keep.length - (intOf s21).toNat)
  case atStart => exact ⟨0, by omega, rfl, HM0⟩
  case round =>
    clear d2
    obtain ⟨i, hin, rfl, hM⟩ := hrel
    by_cases hi : i < s.keep.length
    · have hi2 : (i : Int) < (s.keep.length : Int) := by omega
      have e2 : wr.cell? ⟨g5, 2, none⟩ = some (.slice L1.kA s.keep.length L1.kC) := hM.out.blk.cell 2
      obtain ⟨gk, cs, v, hA, h1, hb, hv⟩ := hM.out.keep.at_ hi
      rw [hA] at e2
      have hf := hb.frozen i
      have HMP := hide (hM.out.put (j := i) hb h1 (HLB.out _ (.inl hA)).2 (.int .i64 (-5)))
      clear hb h1 hA
      go_wp2_with fail
      go_roundw
      case rel => exact ⟨i + 1, by omega, by go_num, HMP⟩
      case measure => simp [intOf]; omega
    · obtain rfl : i = s.keep.length := by omega
      have e3 : wr.cell? ⟨g5, 3, none⟩ = some (.slice L1.sA s.side.length L1.sC) := hM.out.blk.cell 3
      have hl2 := HL3.out.2.1
      go_wp2_with fail
      clear e3 HM0
      go_loopw [9, 32] (fun _ s32 w' => ∃ i : Nat, i ≤ s.side.length ∧ s32 = .int .i64 i ∧ Hid (MdI w0.heap.size w5.heap.size w6 g5 s L1 w')) (fun _ s32 _ => s.side.length - (intOf s32).toNat)
      case atStart => exact ⟨0, by omega, rfl, hM⟩
      case round =>
        clear hM
        obtain ⟨i, hin, rfl, hM⟩ := hrel
        by_cases hi : i < s.side.length
        · have hi2 : (i : Int) < (s.side.length : Int) := by omega
          have e2 : wr.cell? ⟨g5, 3, none⟩ = some (.slice L1.sA s.side.length L1.sC) := hM.out.blk.cell 3
          obtain ⟨gk, cs, v, hA, h1, hb, hv⟩ := hM.out.side.at_ hi
          rw [hA] at e2
          have hf := hb.frozen i
          have HMP := hide (hM.out.put (j := i) hb h1 (HLB.out _ (.inr (.inl hA))).2 (.int .i64 (-5)))
          clear hb h1 hA
          go_wp2_with fail
          go_roundw
          case rel => exact ⟨i + 1, by omega, by go_num, HMP⟩
          case measure => simp [intOf]; omega
        · obtain rfl : i = s.side.length := by omega
          have e3 : wr.cell? ⟨g5, 4, none⟩ = some (.slice L1.uA s.up.length L1.uC) := hM.out.blk.cell 4
          have hl3 := HL3.out.2.2
          go_wp2_with fail
          clear e3
          go_loopw [10, 43] (fun _ s43 w' => ∃ i : Nat, i ≤ s.up.length ∧ s43 = .int .i64 i ∧ Hid (MdI w0.heap.size w5.heap.size w6 g5 s L1 w')) (fun _ s43 _ => s.up.length - (intOf s43).toNat)
          case atStart => exact ⟨0, by omega, rfl, hM⟩
          case round =>
            clear hM
            obtain ⟨i, hin, rfl, hM⟩ := hrel
            by_cases hi : i < s.up.length
            · have hi2 : (i : Int) < (s.up.length : Int) := by omega
              have e2 : wr.cell? ⟨g5, 4, none⟩ = some (.slice L1.uA s.up.length L1.uC) := hM.out.blk.cell 4
              obtain ⟨gk, cs, v, hA, h1, hb, hv⟩ := hM.out.up.at_ hi
              rw [hA] at e2
              have hf := hb.frozen i
              have HMP := hide (hM.out.put (j := i) hb h1 (HLB.out _ (.inr (.inr hA))).2 (.int .i64 (-5)))
              clear hb h1 hA
              go_wp2_with fail
              go_roundw
              case rel => exact ⟨i + 1, by omega, by go_num, HMP⟩
              case measure => simp [intOf]; omega
            · obtain rfl : i = s.up.length := by omega
              have X06 := HX5.out.trans X6.out
              have XR := hide (hM.out.chg.ext X06 fun x hx => hx.1)
              have hbr := HB.out.ext XR.out
              have b0 : wr.cell? ⟨g, 0, none⟩ = some (.int .i64 s.kind) := hbr.cell 0
              have b1 : wr.cell? ⟨g, 1, none⟩ = some (.int .i64 s.inn) := hbr.cell 1
              have b2 : wr.cell? ⟨g, 2, none⟩ = some (.slice L.kA s.keep.length L.kC) := hbr.cell 2
              have b3 : wr.cell? ⟨g, 3, none⟩ = some (.slice L.sA s.side.length L.sC) := hbr.cell 3
              have b4 : wr.cell? ⟨g, 4, none⟩ = some (.slice L.uA s.up.length L.uC) := hbr.cell 4
              have b5 : wr.cell? ⟨g, 5, none⟩ = some (.int .i64 s.most) := hbr.cell 5
              have HOF := hide (of_any (HS.out.ext XR.out))
              unfold specC at HOF
              clear X06 hbr
              have HGD := hide (fun (w' : World) (L' : SPL) (h : SpecAt w' s L') => ref_good h)
              unfold specC at HGD
              go_upto_if 54 with (first | ((with_reducible refine HOF.out.mono ?_); rintro e w8 ⟨L8, rfl, o8, x8⟩; have X8 := hide x8; have O8 := hide (o8.at_ HL3.out.1 HL3.out.2.1 HL3.out.2.2); clear o8 x8) | ((with_reducible refine (HGD.out _ _ O8.out).mono ?_); rintro e w9 ⟨rfl, x9⟩; have X9 := hide x9; clear x9))
              have HU := hide (show ∀ b, w5.heap.size ≤ b → ¬ (w0.heap.size ≤ b ∧ b < w5.heap.size) from fun b hb hn => by omega)
              rcases HNN.out with ⟨hz, rfl, rfl⟩ | ⟨hz, rfl, n, B, rfl, hi, hb1, hb2⟩
              · have HZ := hide hz
                rw [hz] at HGD ⊢
                clear hz b0 b1 b2 b3 b4 b5
                go_wp2_with fail
                go_ret3
                exact ⟨HE.out.trans (XR.out.trans (X8.out.trans X9.out)), .inl ⟨HZ.out, rfl⟩⟩
              · have X89 := X8.out.trans X9.out
                have b0 := X89.cell b0; have b1 := X89.cell b1; have b2 := X89.cell b2; have b3 := X89.cell b3; have b4 := X89.cell b4; have b5 := X89.cell b5
                have HOF2 := hide (of_any (HS.out.ext (XR.out.trans X89)))
                unfold specC at HOF2
                have HZ := hide hz
                have HNI := hide ((hi.chg hM.out.chg fun b hb => HU.out b (hb1 b hb)).ext X89)
                have HBB := hide (show ∀ x, B x → w.heap.size ≤ x ∧ x < w9.heap.size from fun x hx => ⟨Nat.le_trans HWS.out (hb1 x hx), Nat.lt_of_lt_of_le (hb2 x hx) (Nat.le_trans hM.out.chg.size X89.size)⟩)
                rw [hz] at HGD ⊢
                clear hz hi hb1 hb2 X89 HOF
                go_upto_block 6 with ((with_reducible refine HOF2.out.mono ?_); rintro e w10 ⟨L10, rfl, o10, x10⟩; have X10 := hide x10; have O10 := hide o10; clear o10 x10)
                go_ret3
                have hd := Blk.new w10 51 (docC s L10)
                have he := Ext.alloc w10 (.cells (docC s L10) 51)
                have h9 := X8.out.size; have h8 := X9.out.size; have h7 := XR.out.size; have h6 := HE.out.size; have h5 := X10.out.size
                refine ⟨(HE.out.trans (XR.out.trans (X8.out.trans (X9.out.trans X10.out)))).trans he, .inr ⟨HZ.out, n, w10.heap.size, B, w9.heap.size, rfl, (HNI.out.ext X10.out).ext he, HBB.out, by omega, L10, hd, O10.out.ext he, h5, fun x hx => ?_⟩⟩
                rcases hx with hx | hx | hx
                · exact O10.out.keep.lt x hx
                · exact O10.out.side.lt x hx
                · exact O10.out.up.lt x hx
end Go.Proofs.Ytahdiiaadjdmcaa
