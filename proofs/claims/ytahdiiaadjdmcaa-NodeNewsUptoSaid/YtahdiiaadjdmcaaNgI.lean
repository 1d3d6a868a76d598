/-
  node: is a description right?
  node: what a right description says.
  node: New.
-/
import Derived.Test.YtahdiiaadjdmcaaNgH
import Derived.Deep.CutBlock
import Derived.Test.YtahdiiaadjdmcaaCloneI
namespace Go.Proofs.Ytahdiiaadjdmcaa
open Go.RowKit

structure SP where
  kind : Int
  inn : Int
  keep : List Int
  side : List Int
  up : List Int
  most : Int
structure SPL where
  kA : Option Addr
  kC : Nat
  sA : Option Addr
  sC : Nat
  uA : Option Addr
  uC : Nat
def specC (s : SP) (L : SPL) : Array Value := #[.int .i64 s.kind, .int .i64 s.inn, .slice L.kA s.keep.length L.kC, .slice L.sA s.side.length L.sC, .slice L.uA s.up.length L.uC, .int .i64 s.most]
structure SpecAt (w : World) (s : SP) (L : SPL) : Prop where
  keep : NumAt w L.kA s.keep.length s.keep
  side : NumAt w L.sA s.side.length s.side
  up : NumAt w L.uA s.up.length s.up
  kl : s.keep.length ≤ 1048576
  sl : s.side.length ≤ 1048576
  ul : s.up.length ≤ 1048576
theorem SpecAt.ext {w w' : World} {s : SP} {L : SPL} (h : SpecAt w s L) (hw : Ext w w') : SpecAt w' s L := ⟨h.keep.ext hw, h.side.ext hw, h.up.ext hw, h.kl, h.sl, h.ul⟩
def SP.width (s : SP) : Int := if s.kind = 2 then s.keep.length else s.inn
def SP.keepOk (s : SP) : Bool := if s.kind = 2 then risesS s.inn (-1) s.keep && decide ((s.keep.length : Int) < s.inn) else decide (s.keep.length = 0)
def SP.sideOk (s : SP) : Bool := if s.kind = 3 then risesS s.inn (-1) s.side else decide (s.side.length = 0)
def SP.restOk (s : SP) : Bool := decide (0 ≤ s.inn) && decide (s.inn ≤ 30) && decide (1 ≤ s.most) && decide (s.most ≤ 65536) && risesS s.width (-1) s.up
def SP.good (s : SP) : Bool := decide (s.kind = 1 ∨ s.kind = 2 ∨ s.kind = 3) && s.keepOk && s.sideOk && s.restOk
set_option maxRecDepth 100000 in
set_option maxHeartbeats 1000000 in
theorem rising_any {w : World} {A : Option Addr} {n : Nat} (c : Nat) {xs : List Int} (h : NumAt w A n xs) (hn : n ≤ 1048576) (width : Int) :
    Calls Try.prog 27 #[.slice A n c, .int .i64 width] w fun e w' => e = .returned (.bool (risesS width (-1) xs)) ∧ Ext w w' := by
  have HN := hide h
  have HL := hide h.1
  obtain ⟨z, hz⟩ : ∃ z, risesS width (-1) xs = z := ⟨_, rfl⟩
  rw [hz]
  have HZ := hide hz
  clear h hz
  go_enter Try.func27, Try.ntmps27
  go_wp2_with fail
  go_loopw [5, 10] (fun s5 s10 w' => ∃ (i : Nat) (last : Int), i ≤ n ∧ s10 = .int .i64 i ∧ s5 = .int .i64 last ∧ Hid (z = risesS width last (xs.drop i)) ∧ w = w') (fun _ s10 _ => n - (intOf s10).toNat)
  case atStart => exact ⟨0, -1, by omega, rfl, rfl, HZ.out.symm, rfl⟩
  case round =>
    obtain ⟨i, last, hi, rfl, rfl, hq, rfl⟩ := hrel
    by_cases hil : i < n
    · obtain ⟨b, off, x, rfl, hx, -, hcell⟩ := HN.out.get hil
      have hil2 : (i : Int) < (n : Int) := by omega
      have hil3 : i < xs.length := by have := HL.out; omega
      have hst := hide (show z = (decide (last < x) && (decide (x < width) && risesS width x (xs.drop (i + 1)))) by
        rw [hq.out, List.drop_eq_getElem_cons hil3]
        rw [List.getElem?_eq_getElem hil3] at hx
        rw [Option.some.inj hx]; rfl)
      clear hx hil3
      by_cases hc1 : x ≤ last
      · go_wp2_with fail
        go_ret
        refine ⟨?_, Ext.refl _⟩
        rw [hst.out, decide_eq_false (by omega)]; rfl
      · by_cases hc2 : width ≤ x
        · go_wp2_with fail
          go_ret
          refine ⟨?_, Ext.refl _⟩
          rw [hst.out, decide_eq_false (p := x < width) (by omega), Bool.false_and, Bool.and_false]; rfl
        · go_wp2_with fail
          go_roundw
          case rel => exact ⟨i + 1, x, by omega, by go_num, rfl, hide (by rw [hst.out, decide_eq_true (p := last < x) (by omega), decide_eq_true (p := x < width) (by omega)]; rfl), trivial⟩
          case measure => simp [intOf]; omega
    · obtain rfl : i = n := by omega
      have he : z = true := by rw [hq.out, List.drop_eq_nil_of_le (by have := HL.out; omega)]; rfl
      clear hq HZ HL
      subst he
      go_wp2_with fail
      go_ret
      exact ⟨rfl, Ext.refl _⟩
set_option maxRecDepth 100000 in
theorem width_any (w : World) (s : SP) (L : SPL) :
    Calls Try.prog 21 #[.agg (specC s L)] w fun e w' => e = .returned (.int .i64 s.width) ∧ Ext w w' := by
  have HB := hide (Blk.new w 25 (specC s L))
  have b0 := HB.out.cell 0; have b1 := HB.out.cell 1; have b2 := HB.out.cell 2
  unfold SP.width
  unfold specC at *
  by_cases hk : s.kind = 2
  · rw [if_pos hk]
    go_enter Try.func21, Try.ntmps21
    go_wp2_with fail
    go_ret
    exact ⟨rfl, Ext.alloc _ _⟩
  · rw [if_neg hk]
    go_enter Try.func21, Try.ntmps21
    go_wp2_with fail
    go_ret
    exact ⟨rfl, Ext.alloc _ _⟩
theorem len_zero (n : Nat) : decide (n = 0) = ((n : Int) == 0) := by
  cases n with
  | zero => rfl
  | succ n => simp; omega
theorem keep_2 {s : SP} (h : s.kind = 2) : s.keepOk = (risesS s.inn (-1) s.keep && decide ((s.keep.length : Int) < s.inn)) := by unfold SP.keepOk; rw [if_pos h]
theorem keep_n {s : SP} (h : ¬ s.kind = 2) : s.keepOk = ((s.keep.length : Int) == 0) := by unfold SP.keepOk; rw [if_neg h, len_zero]
theorem side_3 {s : SP} (h : s.kind = 3) : s.sideOk = risesS s.inn (-1) s.side := by unfold SP.sideOk; rw [if_pos h]
theorem side_n {s : SP} (h : ¬ s.kind = 3) : s.sideOk = ((s.side.length : Int) == 0) := by unfold SP.sideOk; rw [if_neg h, len_zero]
theorem good_k {s : SP} (h : s.kind = 1 ∨ s.kind = 2 ∨ s.kind = 3) : s.good = (s.keepOk && (s.sideOk && s.restOk)) := by
  unfold SP.good; rw [decide_eq_true h, Bool.true_and, Bool.and_assoc]
theorem rest_0 {s : SP} (h : ¬ 0 ≤ s.inn) : s.restOk = false := by unfold SP.restOk; rw [decide_eq_false h]; rfl
theorem rest_1 {s : SP} (h : ¬ s.inn ≤ 30) : s.restOk = false := by unfold SP.restOk; rw [decide_eq_false h, Bool.and_false]; rfl
theorem rest_2 {s : SP} (h : ¬ 1 ≤ s.most) : s.restOk = false := by unfold SP.restOk; rw [decide_eq_false h, Bool.and_false]; rfl
theorem rest_3 {s : SP} (h : ¬ s.most ≤ 65536) : s.restOk = false := by unfold SP.restOk; rw [decide_eq_false h, Bool.and_false]; rfl
theorem rest_all {s : SP} (h1 : 0 ≤ s.inn) (h2 : s.inn ≤ 30) (h3 : 1 ≤ s.most) (h4 : s.most ≤ 65536) : s.restOk = risesS s.width (-1) s.up := by
  unfold SP.restOk; rw [decide_eq_true h1, decide_eq_true h2, decide_eq_true h3, decide_eq_true h4]; rfl
set_option maxRecDepth 100000 in
set_option maxHeartbeats 4000000 in
theorem good_any {w : World} {s : SP} {L : SPL} (h : SpecAt w s L) :
    Calls Try.prog 18 #[.agg (specC s L)] w fun e w' => e = .returned (.bool s.good) ∧ Ext w w' := by
  obtain ⟨g, hg⟩ : ∃ g, w.heap.size = g := ⟨_, rfl⟩
  obtain ⟨w0, hw0⟩ : ∃ w0, w.alloc (.cells (specC s L) 25) = w0 := ⟨_, rfl⟩
  have hb := Blk.new w 25 (specC s L)
  have he := Ext.alloc w (.cells (specC s L) 25)
  rw [hw0] at hb he
  rw [hg] at hb
  have HE := hide he
  have b0 : w0.cell? ⟨g, 0, none⟩ = some (.int .i64 s.kind) := hb.cell 0
  have b1 : w0.cell? ⟨g, 1, none⟩ = some (.int .i64 s.inn) := hb.cell 1
  have b2 : w0.cell? ⟨g, 2, none⟩ = some (.slice L.kA s.keep.length L.kC) := hb.cell 2
  have b3 : w0.cell? ⟨g, 3, none⟩ = some (.slice L.sA s.side.length L.sC) := hb.cell 3
  have b4 : w0.cell? ⟨g, 4, none⟩ = some (.slice L.uA s.up.length L.uC) := hb.cell 4
  have b5 : w0.cell? ⟨g, 5, none⟩ = some (.int .i64 s.most) := hb.cell 5
  have HB := hide hb
  have HR := hide (fun (w1 : World) (h1 : Ext w0 w1) => rising_any L.kC (h.ext (he.trans h1)).keep h.kl s.inn)
  have HS := hide (fun (w1 : World) (h1 : Ext w0 w1) => rising_any L.sC (h.ext (he.trans h1)).side h.sl s.inn)
  have HU := hide (fun (w1 : World) (h1 : Ext w0 w1) => rising_any L.uC (h.ext (he.trans h1)).up h.ul s.width)
  have HW := hide (fun (w1 : World) => width_any w1 s L)
  clear h hb he
  unfold specC at *
  go_enter Try.func18, Try.ntmps18
  go_upto_region 1 with fail
  clear hw0 hg
  refine wp_region_line [true, true, true, true, true, true, true, true, false, false] (fun w' => w'.cell? ⟨g, 2, none⟩ = some (.slice L.kA s.keep.length L.kC) ∧ w'.cell? ⟨g, 3, none⟩ = some (.slice L.sA s.side.length L.sC)) (by kernel_rfl) (by kernel_rfl) (fun _ _ _ _ _ h => h) ?_ ?_
  · exact fun w' hw' => ⟨hw'.cell b2, hw'.cell b3⟩
  intro wq hwq
  unfold wpL
  apply Exists.intro
  refine ⟨fun w9 h9 => ?_, fun K hK => ?_⟩
  · go_simp; first | done | rfl
  go_simp; refine hK _ ?_; clear hK K
  unfold wpL
  apply Exists.intro
  refine ⟨fun w9 h9 => ?_, fun K hK => ?_⟩
  · go_simp; first | done | rfl
  go_simp; refine hK _ ?_; clear hK K
  unfold wpL
  apply Exists.intro
  refine ⟨fun w9 h9 => ?_, fun K hK => ?_⟩
  · go_simp; first | done | rfl
  go_simp; refine hK _ ?_; clear hK K
  unfold wpL
  apply Exists.intro
  refine ⟨fun w9 h9 => ?_, fun K hK => ?_⟩
  · go_simp; first | done | rfl
  go_simp; refine hK _ ?_; clear hK K
  unfold wpL
  apply Exists.intro
  refine ⟨fun w9 h9 => ?_, fun K hK => ?_⟩
  · go_simp; first | done | rfl
  go_simp; refine hK _ ?_; clear hK K
  unfold wpL
  apply Exists.intro
  refine ⟨fun w9 h9 => ?_, fun K hK => ?_⟩
  · go_simp; first | done | rfl
  go_simp; refine hK _ ?_; clear hK K
  unfold wpL
  apply Exists.intro
  refine ⟨fun w9 h9 => ?_, fun K hK => ?_⟩
  · go_simp; first | done | rfl
  go_simp; refine hK _ ?_; clear hK K
  unfold wpL
  apply Exists.intro
  refine ⟨fun w9 h9 => ?_, fun K hK => ?_⟩
  · go_simp; first | done | rfl
  go_simp; refine hK _ ?_; clear hK K
  unfold wpL
  go_wp2_with fail
  simp only [exL]
  refine ⟨⟨hwq.cell b2, hwq.cell b3⟩, ?_⟩
  unfold wpL
  go_wp2_with fail
  simp only [exL]
  refine ⟨⟨hwq.cell b2, hwq.cell b3⟩, ?_⟩
  unfold wpL
  have b0 := hwq.cell b0; have b1 := hwq.cell b1; have b2 := hwq.cell b2; have b3 := hwq.cell b3; have b4 := hwq.cell b4; have b5 := hwq.cell b5
  have HR := hide (HR.out wq hwq); have HS := hide (HS.out wq hwq)
  have HU2 := hide (fun (w1 : World) (h1 : Ext wq w1) => HU.out w1 (hwq.trans h1))
  have HEQ := hide (HE.out.trans hwq)
  have HB2 := hide (HB.out.ext hwq)
  clear HU HE hwq HB
  go_upto_block 0 with fail
  go_cut [3, 4] from 13 to 39 (fun s3 s4 wx => s3 = .bool s.keepOk ∧ s4 = .bool s.sideOk ∧ Hid (Ext wq wx) ∧ Hid (s.kind = 1 ∨ s.kind = 2 ∨ s.kind = 3))
  case first =>
    by_cases k2 : s.kind = 2
    · have KO := hide (keep_2 k2); have SO := hide (side_n (s := s) (by omega)); have K2 := hide k2
      have q2 : (s.kind == 2) = true := by simp [k2]
      clear k2
      generalize risesS s.inn (-1) s.keep = rb at *
      cases rb with
      | false =>
        go_wp2_with ((with_reducible refine HR.out.mono ?_); rintro e w2 ⟨rfl, x2⟩; have X2 := hide x2; clear x2)
        go_meet
        exact ⟨by rw [KO.out]; rfl, by rw [SO.out], X2.out, .inr (.inl K2.out)⟩
      | true =>
        go_wp2_with ((with_reducible refine HR.out.mono ?_); rintro e w2 ⟨rfl, x2⟩; have X2 := hide x2; have c1 := x2.cell b1; have c2 := x2.cell b2; clear x2)
        go_meet
        exact ⟨by rw [KO.out]; rfl, by rw [SO.out], X2.out, .inr (.inl K2.out)⟩
    by_cases k3 : s.kind = 3
    · have KO := hide (keep_n k2); have SO := hide (side_3 k3); have K3 := hide k3
      have q2 : (s.kind == 2) = false := by simp [k2]
      have q3 : (s.kind == 3) = true := by simp [k3]
      clear k2 k3
      generalize risesS s.inn (-1) s.side = rb at *
      go_wp2_with ((with_reducible refine HS.out.mono ?_); rintro e w2 ⟨rfl, x2⟩; have X2 := hide x2; clear x2)
      go_meet
      exact ⟨by rw [KO.out], by rw [SO.out], X2.out, .inr (.inr K3.out)⟩
    by_cases k1 : s.kind = 1
    · have KO := hide (keep_n k2); have SO := hide (side_n k3); have K1 := hide k1
      have q2 : (s.kind == 2) = false := by simp [k2]
      have q3 : (s.kind == 3) = false := by simp [k3]
      have q1 : (s.kind == 1) = true := by simp [k1]
      clear k2 k3 k1
      go_wp2_with fail
      go_meet
      exact ⟨by rw [KO.out], by rw [SO.out], Ext.refl _, .inl K1.out⟩
    · go_wp2_with fail
      go_ret
      refine ⟨?_, HEQ.out⟩
      unfold SP.good
      rw [decide_eq_false (by omega)]; rfl
  case rest =>
    obtain ⟨rfl, rfl, hx, hk⟩ := hcut
    have HGD := hide (good_k hk.out)
    obtain ⟨kb, hkb⟩ : ∃ b, s.keepOk = b := ⟨_, rfl⟩
    obtain ⟨sb, hsb⟩ : ∃ b, s.sideOk = b := ⟨_, rfl⟩
    rw [hkb, hsb] at HGD ⊢
    have b0 := cell_ext (hx.out.cell b0); have b1 := cell_ext (hx.out.cell b1); have b2 := cell_ext (hx.out.cell b2); have b3 := cell_ext (hx.out.cell b3); have b4 := cell_ext (hx.out.cell b4); have b5 := cell_ext (hx.out.cell b5)
    have HU2 := hide (fun (w1 : World) (h1 : Ext _ w1) => HU2.out w1 (hx.out.trans h1))
    have HEQ := hide (HEQ.out.trans hx.out)
    clear hkb hsb hk HR HS
    go_upto_region 9 with fail
    cases kb with
    | false =>
      refine wp_region_ext 31 (by kernel_rfl) (by kernel_rfl) (by kernel_rfl) ?_
      iterate 31
        refine wpE_k (by kernel_rfl) (by kernel_rfl) ?_
        apply Exists.intro
        refine ⟨fun w1 hw1 => ?_, fun K hK => ?_⟩
        · go_simp; first | done | rfl | exact (HW.out w1) | exact (HU2.out w1 hw1)
        go_simp; refine hK _ _ ?_; clear hK K
      refine wpE_nil ⟨rfl, by kernel_rfl, fun wq hwq => ?_⟩
      simp only [EndQ]
      go_wp2_with fail
      go_ret
      exact ⟨by rw [HGD.out]; rfl, HEQ.out.trans hwq⟩
    | true =>
      cases sb with
      | false =>
        refine wp_region_ext 31 (by kernel_rfl) (by kernel_rfl) (by kernel_rfl) ?_
        iterate 31
          refine wpE_k (by kernel_rfl) (by kernel_rfl) ?_
          apply Exists.intro
          refine ⟨fun w1 hw1 => ?_, fun K hK => ?_⟩
          · go_simp; first | done | rfl | exact (HW.out w1) | exact (HU2.out w1 hw1)
          go_simp; refine hK _ _ ?_; clear hK K
        refine wpE_nil ⟨rfl, by kernel_rfl, fun wq hwq => ?_⟩
        simp only [EndQ]
        go_wp2_with fail
        go_ret
        exact ⟨by rw [HGD.out]; rfl, HEQ.out.trans hwq⟩
      | true =>
        by_cases h5 : 0 ≤ s.inn
        rotate_left
        · have HRF := hide (rest_0 h5)
          have h5' := Int.not_le.1 h5
          refine wp_region_ext 31 (by kernel_rfl) (by kernel_rfl) (by kernel_rfl) ?_
          iterate 31
            refine wpE_k (by kernel_rfl) (by kernel_rfl) ?_
            apply Exists.intro
            refine ⟨fun w1 hw1 => ?_, fun K hK => ?_⟩
            · go_simp; first | done | rfl | exact (HW.out w1) | exact (HU2.out w1 hw1)
            go_simp; refine hK _ _ ?_; clear hK K
          refine wpE_nil ⟨rfl, by kernel_rfl, fun wq hwq => ?_⟩
          simp only [EndQ]
          go_wp2_with fail
          go_ret
          exact ⟨by rw [HGD.out, HRF.out]; rfl, HEQ.out.trans hwq⟩
        by_cases h6 : s.inn ≤ 30
        rotate_left
        · have HRF := hide (rest_1 h6)
          have h6' := Int.not_le.1 h6
          refine wp_region_ext 31 (by kernel_rfl) (by kernel_rfl) (by kernel_rfl) ?_
          iterate 31
            refine wpE_k (by kernel_rfl) (by kernel_rfl) ?_
            apply Exists.intro
            refine ⟨fun w1 hw1 => ?_, fun K hK => ?_⟩
            · go_simp; first | done | rfl | exact (HW.out w1) | exact (HU2.out w1 hw1)
            go_simp; refine hK _ _ ?_; clear hK K
          refine wpE_nil ⟨rfl, by kernel_rfl, fun wq hwq => ?_⟩
          simp only [EndQ]
          go_wp2_with fail
          go_ret
          exact ⟨by rw [HGD.out, HRF.out]; rfl, HEQ.out.trans hwq⟩
        by_cases h7 : 1 ≤ s.most
        rotate_left
        · have HRF := hide (rest_2 h7)
          have h7' := Int.not_le.1 h7
          refine wp_region_ext 31 (by kernel_rfl) (by kernel_rfl) (by kernel_rfl) ?_
          iterate 31
            refine wpE_k (by kernel_rfl) (by kernel_rfl) ?_
            apply Exists.intro
            refine ⟨fun w1 hw1 => ?_, fun K hK => ?_⟩
            · go_simp; first | done | rfl | exact (HW.out w1) | exact (HU2.out w1 hw1)
            go_simp; refine hK _ _ ?_; clear hK K
          refine wpE_nil ⟨rfl, by kernel_rfl, fun wq hwq => ?_⟩
          simp only [EndQ]
          go_wp2_with fail
          go_ret
          exact ⟨by rw [HGD.out, HRF.out]; rfl, HEQ.out.trans hwq⟩
        by_cases h8 : s.most ≤ 65536
        rotate_left
        · have HRF := hide (rest_3 h8)
          have h8' := Int.not_le.1 h8
          refine wp_region_ext 31 (by kernel_rfl) (by kernel_rfl) (by kernel_rfl) ?_
          iterate 31
            refine wpE_k (by kernel_rfl) (by kernel_rfl) ?_
            apply Exists.intro
            refine ⟨fun w1 hw1 => ?_, fun K hK => ?_⟩
            · go_simp; first | done | rfl | exact (HW.out w1) | exact (HU2.out w1 hw1)
            go_simp; refine hK _ _ ?_; clear hK K
          refine wpE_nil ⟨rfl, by kernel_rfl, fun wq hwq => ?_⟩
          simp only [EndQ]
          go_wp2_with fail
          go_ret
          exact ⟨by rw [HGD.out, HRF.out]; rfl, HEQ.out.trans hwq⟩
        have hra := hide (rest_all h5 h6 h7 h8)
        generalize risesS s.width (-1) s.up = rb at *
        refine wp_region_ext 31 (by kernel_rfl) (by kernel_rfl) (by kernel_rfl) ?_
        iterate 31
          refine wpE_k (by kernel_rfl) (by kernel_rfl) ?_
          apply Exists.intro
          refine ⟨fun w1 hw1 => ?_, fun K hK => ?_⟩
          · go_simp; first | done | rfl | exact (HW.out w1) | exact (HU2.out w1 hw1)
          go_simp; refine hK _ _ ?_; clear hK K
        refine wpE_nil ⟨rfl, by kernel_rfl, fun wq hwq => ?_⟩
        simp only [EndQ]
        go_wp2_with fail
        go_ret
        exact ⟨by rw [HGD.out, hra.out]; rfl, HEQ.out.trans hwq⟩
end Go.Proofs.Ytahdiiaadjdmcaa

namespace Go.Proofs.Ytahdiiaadjdmcaa
open Go.RowKit

def nkOf (s : SP) : NK := ⟨s.kind.toNat, s.inn.toNat, s.keep.map Int.toNat, s.side.map Int.toNat, s.up.map Int.toNat, s.most.toNat⟩
structure GoodF (s : SP) : Prop where
  kind : s.kind = 1 ∨ s.kind = 2 ∨ s.kind = 3
  inn : 0 ≤ s.inn ∧ s.inn ≤ 30
  most : 1 ≤ s.most ∧ s.most ≤ 65536
  keep : s.keepOk = true
  side : s.sideOk = true
  up : risesS s.width (-1) s.up = true
theorem good_facts {s : SP} (h : s.good = true) : GoodF s := by
  unfold SP.good SP.restOk at h
  simp only [Bool.and_eq_true, decide_eq_true_eq] at h
  obtain ⟨⟨⟨h1, h2⟩, h3⟩, ⟨⟨⟨h4, h5⟩, h6⟩, h7⟩, h8⟩ := h
  exact ⟨h1, ⟨h4, h5⟩, ⟨h6, h7⟩, h2, h3, h8⟩
theorem rises_ge {w : Int} : ∀ {l : Int} {xs : List Int}, risesS w l xs = true → ∀ x ∈ xs, l < x ∧ x < w
  | _, [], _, x, hx => by cases hx
  | l, c :: xs, h, x, hx => by
    unfold risesS at h
    simp only [Bool.and_eq_true, decide_eq_true_eq] at h
    rcases List.mem_cons.1 hx with rfl | hx
    · exact ⟨h.1, h.2.1⟩
    · have := rises_ge h.2.2 x hx; exact ⟨by omega, this.2⟩
theorem rises_len {w : Int} : ∀ {l : Int} {xs : List Int}, risesS w l xs = true → -1 ≤ l → (xs.length : Int) ≤ w - l - 1 ∨ xs = []
  | _, [], _, _ => .inr rfl
  | l, c :: xs, h, hl => by
    unfold risesS at h
    simp only [Bool.and_eq_true, decide_eq_true_eq] at h
    left
    rcases rises_len h.2.2 (by omega) with h2 | rfl
    · rw [List.length_cons]; omega
    · simp; omega
theorem rises_cols {w : Int} {xs : List Int} (h : risesS w (-1) xs = true) (hw : w ≤ 30) : xs.length ≤ 30 ∧ ∀ c ∈ xs.map Int.toNat, c < w.toNat := by
  refine ⟨?_, fun c hc => ?_⟩
  · rcases rises_len h (by omega) with h2 | rfl
    · omega
    · simp
  · obtain ⟨x, hx, rfl⟩ := List.mem_map.1 hc
    have := rises_ge h x hx; omega
theorem cast_cols {w : Int} {xs : List Int} (h : risesS w (-1) xs = true) : (xs.map Int.toNat).map Int.ofNat = xs := by
  rw [List.map_map]
  conv => rhs; rw [← List.map_id xs]
  refine List.map_congr_left fun x hx => ?_
  have := rises_ge h x hx
  exact Int.toNat_of_nonneg (by omega)
theorem keep_rises {s : SP} (h : GoodF s) : (s.kind = 2 ∧ risesS s.inn (-1) s.keep = true ∧ (s.keep.length : Int) < s.inn) ∨ (s.kind ≠ 2 ∧ s.keep = []) := by
  have hk := h.keep
  unfold SP.keepOk at hk
  by_cases k2 : s.kind = 2
  · rw [if_pos k2] at hk
    simp only [Bool.and_eq_true, decide_eq_true_eq] at hk
    exact .inl ⟨k2, hk.1, hk.2⟩
  · rw [if_neg k2, decide_eq_true_eq] at hk
    exact .inr ⟨k2, List.length_eq_zero_iff.1 hk⟩
theorem side_rises {s : SP} (h : GoodF s) : (s.kind = 3 ∧ risesS s.inn (-1) s.side = true) ∨ (s.kind ≠ 3 ∧ s.side = []) := by
  have hk := h.side
  unfold SP.sideOk at hk
  by_cases k2 : s.kind = 3
  · rw [if_pos k2] at hk; exact .inl ⟨k2, hk⟩
  · rw [if_neg k2, decide_eq_true_eq] at hk
    exact .inr ⟨k2, List.length_eq_zero_iff.1 hk⟩
theorem width_ok {s : SP} (h : GoodF s) : 0 ≤ s.width ∧ s.width ≤ 30 := by
  unfold SP.width
  rcases keep_rises h with ⟨k, h1, h2⟩ | ⟨k, h1⟩
  · rw [if_pos k]; have := h.inn; omega
  · rw [if_neg k]; exact h.inn
theorem nk_width {s : SP} (h : GoodF s) : (nkOf s).width = s.width.toNat := by
  unfold NK.width SP.width nkOf
  dsimp only
  rcases h.kind with k | k | k
  · rw [if_neg (by omega), if_neg (by omega)]
  · rw [if_pos (by omega), if_pos k, List.length_map]; omega
  · rw [if_neg (by omega), if_neg (by omega)]
theorem goodS_of {w m : Int} {gs : List (List Int)} (h1 : 0 ≤ w ∧ w ≤ 30) (h2 : 1 ≤ m ∧ m ≤ 65536) (h3 : gs.length ≤ 4) (h4 : ∀ g ∈ gs, risesS w (-1) g = true) : goodS w m gs = 0 := by
  rw [goodS_all (by omega) (by omega) (by omega), if_pos (List.all_eq_true.2 h4)]
theorem side_len {s : SP} (h : GoodF s) : s.side.length ≤ 30 := by
  rcases side_rises h with ⟨-, h1⟩ | ⟨-, h1⟩
  · exact (rises_cols h1 h.inn.2).1
  · rw [h1]; simp
theorem nk_ok {s : SP} (h : GoodF s) : NKOk (nkOf s) := by
  have hm := h.most
  have hi := h.inn
  refine ⟨?_, ?_, ?_, ?_, ?_, ?_⟩
  · show s.kind.toNat = 1 ∨ s.kind.toNat = 2 ∨ s.kind.toNat = 3
    rcases h.kind with k | k | k <;> omega
  · show s.inn.toNat ≤ 30
    omega
  · show 1 ≤ s.most.toNat ∧ s.most.toNat ≤ 65536
    omega
  · show (s.keep.map Int.toNat).length ≤ 30 ∧ ∀ c ∈ s.keep.map Int.toNat, c < s.inn.toNat
    rw [List.length_map]
    rcases keep_rises h with ⟨-, h1, -⟩ | ⟨-, h1⟩
    · exact rises_cols h1 hi.2
    · rw [h1]; simp
  · show (s.side.map Int.toNat).length ≤ 30 ∧ ∀ c ∈ s.side.map Int.toNat, c < s.inn.toNat
    rw [List.length_map]
    rcases side_rises h with ⟨-, h1⟩ | ⟨-, h1⟩
    · exact rises_cols h1 hi.2
    · rw [h1]; simp
  · rw [nk_width h]
    show (s.up.map Int.toNat).length ≤ 30 ∧ ∀ c ∈ s.up.map Int.toNat, c < s.width.toNat
    rw [List.length_map]
    exact rises_cols h.up (width_ok h).2
theorem cast_keep {s : SP} (h : GoodF s) : (nkOf s).keep.map Int.ofNat = s.keep := by
  rcases keep_rises h with ⟨-, h1, -⟩ | ⟨-, h1⟩
  · exact cast_cols h1
  · unfold nkOf; rw [h1]; rfl
theorem cast_side {s : SP} (h : GoodF s) : (nkOf s).side.map Int.ofNat = s.side := by
  rcases side_rises h with ⟨-, h1⟩ | ⟨-, h1⟩
  · exact cast_cols h1
  · unfold nkOf; rw [h1]; rfl
theorem cast_up {s : SP} (h : GoodF s) : (nkOf s).up.map Int.ofNat = s.up := cast_cols h.up
/-- blocks by their age -/
def labGo : List (Nat × Nat) → Nat → Option Nat
  | [], _ => none
  | (T, i) :: l, b => if b < T then some i else labGo l b
def labL (T0 : Nat) (l : List (Nat × Nat)) : Lab := fun b => if b < T0 then none else labGo l b
def emptyN : NAbs := ⟨⟨[], [], [], []⟩, none⟩
/-- a node is laid -/
theorem node_made {w : World} {K : NK} {v : NdV} {lab : Lab} {N : Nat} (hK : NKOk K) (h1 : Blk w v.n 38 #[ptr v.l, .iface (workT K) (ptr v.k)]) (h2 : Blk w v.l 69 (liveC K v)) (h3 : Blk w v.k (workS K) (workC K v))
    (b1 : lab v.n = some 0) (b2 : lab v.l = some 0) (b3 : lab v.k = some 0) (r1 : NumIn w (lab.own 0) v.kA K.keep.length (K.keep.map Int.ofNat)) (r2 : NumIn w (lab.own 0) v.sA K.side.length (K.side.map Int.ofNat)) (r3 : NumIn w (lab.own 0) v.uA K.up.length (K.up.map Int.ofNat))
    (s1 : StI w (lab.own 1) v.x1 (S1 K emptyN) N) (s2 : K.kind = 3 → StI w (lab.own 2) v.x2 (S2 K emptyN) N) (s3 : K.kind = 3 → StI w (lab.own 3) v.x3 (S3 K emptyN) N)
    (m1 : K.kind = 2 → lab v.m1 = some 4 ∧ MapS w v.m1 0 (fun _ => none) ∧ v.m2 = .map none) (hlt : ∀ b i, lab b = some i → b < w.heap.size) : NdI w lab.dom v.n K emptyN N := by
  refine ⟨hK, NOk.start K, fun o ho => (by cases ho), lab, v, ⟨⟨hlt, fun i => ?_⟩, s1⟩, rfl, fun _ h => h⟩
  match i with
  | 0 => exact ⟨⟨h1, b1⟩, ⟨h2, b2⟩, ⟨h3, b3⟩, r1, r2, r3⟩
  | 1 => exact trivial
  | 2 => exact s2
  | 3 => exact s3
  | 4 => exact fun hk => ⟨(m1 hk).1, 0, _, Nat.zero_le _, (m1 hk).2.1, fun own _ => rfl⟩
  | 5 => exact fun hk => ⟨none, (m1 hk).2.2, fun o ho => by cases ho⟩
  | _ + 6 => exact trivial
end Go.Proofs.Ytahdiiaadjdmcaa

namespace Go.Proofs.Ytahdiiaadjdmcaa
open Go.RowKit

/-- a row of numbers of one's own -/
def OwnI (b : Nat) (w : World) (A : Option Addr) (c : Nat) (xs : List Int) : Prop := w.ownsRow b 3 1 (.slice A xs.length c) xs.length (xs.map (Value.int .i64))
theorem OwnI.ext {b : Nat} {w w' : World} {A : Option Addr} {c : Nat} {xs : List Int} (h : OwnI b w A c xs) (hw : Ext w w') : OwnI b w' A c xs := mine_ext h hw
theorem OwnI.set_ {b : Nat} {w : World} {A : Option Addr} {c : Nat} {xs : List Int} (h : OwnI b w A c xs) {g : Nat} {t : TypeId} {cs : Array Value} (hb : Blk w g t cs) (hne : 3 ≠ t) (j : Nat) (u : Value) : OwnI b (w.setCell ⟨g, j, none⟩ u) A c xs := mine_set h hb hne j u
theorem OwnI.num {b : Nat} {w : World} {A : Option Addr} {c : Nat} {xs : List Int} (h : OwnI b w A c xs) : NumAt w A xs.length xs := NumAt.own h
theorem OwnI.lt {b : Nat} {w : World} {A : Option Addr} {c : Nat} {xs : List Int} (h : OwnI b w A c xs) : ∀ a, A = some a → b ≤ a.block ∧ a.block < w.heap.size := fun a ha => by
  subst ha
  exact World.ownsRow.lt h a.block rfl
theorem clone_own {w w1 : World} {A : Option Addr} (c : Nat) {xs : List Int} (h : NumAt w A xs.length xs) (hl : xs.length ≤ 1048576) (hw : Ext w w1) :
    Calls Try.prog 19 #[.slice A xs.length c] w1 fun e w' => ∃ v, e = .returned v ∧ Ext w1 w' ∧ ∃ A' c', v = .slice A' xs.length c' ∧ OwnI w.heap.size w' A' c' xs := by
  refine (cloneI (xs.map (Value.int .i64)) A xs.length c w1 (h.ext hw).2 (nums_one xs) (by omega)).mono ?_
  rintro e w' ⟨A', c', rfl, h1, h2⟩
  exact ⟨_, rfl, h2, A', c', rfl, mine_base h1 hw.size⟩
def SlI (b : Nat) (xs : List Int) (v : Value) (w : World) : Prop := ∃ A' c', v = .slice A' xs.length c' ∧ OwnI b w A' c' xs
theorem SlI.ext {b : Nat} {xs : List Int} {v : Value} {w w' : World} (h : SlI b xs v w) (hw : Ext w w') : SlI b xs v w' := by
  obtain ⟨A, c, e, h⟩ := h
  exact ⟨A, c, e, h.ext hw⟩
theorem nums_1 {w : World} {gb : Nat} {A : Option Addr} {c : Nat} {xs : List Int} (hb : Blk w gb 23 #[.slice A xs.length c]) (h : NumAt w A xs.length xs) : NumsAt w (some ⟨gb, 0, none⟩) 1 [xs] := by
  refine ⟨rfl, _, hb.sl (n := 1) (size := 1) rfl, fun k g hg => ?_⟩
  cases k with
  | zero =>
    obtain rfl : xs = g := by simpa using hg
    exact ⟨_, _, rfl, h⟩
  | succ k => simp at hg
theorem live_eq {s : SP} (h : GoodF s) (v : NdV) : liveC (nkOf s) v = #[.int .i64 s.kind, .int .i64 s.inn, .slice v.kA s.keep.length v.kC, .slice v.sA s.side.length v.sC, .slice v.uA s.up.length v.uC, .int .i64 s.most, ptr v.x1] := by
  have h1 : ((s.kind.toNat : Nat) : Int) = s.kind := by rcases h.kind with k | k | k <;> omega
  have h2 : ((s.inn.toNat : Nat) : Int) = s.inn := by have := h.inn; omega
  have h3 : ((s.most.toNat : Nat) : Int) = s.most := by have := h.most; omega
  unfold liveC nkOf
  dsimp only
  rw [h1, h2, h3, List.length_map, List.length_map, List.length_map]
theorem num_in {w : World} {b : Nat} {A : Option Addr} {c : Nat} {xs : List Int} {ys : List Nat} {B : Nat → Prop} (h : OwnI b w A c xs) (hy : ys.map Int.ofNat = xs) (hl : ∀ a, A = some a → B a.block) : NumIn w B A ys.length (ys.map Int.ofNat) := by
  subst hy
  have h1 := h.num
  rw [List.length_map] at h1
  exact ⟨h1, hl⟩
theorem labGo_in {T : Nat} : ∀ {L : List (Nat × Nat)} {g i : Nat}, (∀ p ∈ L, p.1 ≤ T) → labGo L g = some i → g < T
  | [], _, _, _, h => by cases h
  | (U, j) :: L, g, i, hL, h => by
    unfold labGo at h
    have h0 := hL (U, j) (List.mem_cons_self ..)
    dsimp only at h0
    split at h
    · omega
    · exact labGo_in (fun p hp => hL p (List.mem_cons_of_mem _ hp)) h
theorem labL_in {T0 T : Nat} {L : List (Nat × Nat)} {g i : Nat} (hL : ∀ p ∈ L, p.1 ≤ T) (h : labL T0 L g = some i) : T0 ≤ g ∧ g < T := by
  unfold labL at h
  split at h
  · cases h
  · exact ⟨by omega, labGo_in hL h⟩
theorem size_set (w : World) (p : Addr) (u : Value) : (w.setCell p u).heap.size = w.heap.size := by simp
/-- the node's own struct gets its work -/
theorem new_end {w4 w7 w8 : World} {s : SP} {b l k x1 x2 x3 m1 kC sC uC : Nat} {kA sA uA : Option Addr} {m2 : Value} {BB1 : Nat → Prop} {lab : Lab} (hF : GoodF s) (x78 : Ext w7 w8)
    (hl : Blk w7 l 69 #[.int .i64 s.kind, .int .i64 s.inn, .slice kA s.keep.length kC, .slice sA s.side.length sC, .slice uA s.up.length uC, .int .i64 s.most, ptr x1])
    (hn : Blk w7 (l + 1) 38 #[ptr l, .nilIface]) (hk : Blk w8 k (workS (nkOf s)) (workC (nkOf s) ⟨l + 1, l, k, kA, kC, sA, sC, uA, uC, x1, x2, x3, m1, m2⟩)) (hkn : k ≠ l + 1)
    (i1 : StI w7 BB1 x1 ⟨s.width.toNat, s.most.toNat, [s.up].map fun g => g.map Int.toNat, [], none⟩ 262144) (o1 : OwnI b w7 uA uC s.up) (o2 : OwnI b w7 sA sC s.side) (o3 : OwnI b w7 kA kC s.keep)
    (p1 : OwnI b w4 uA uC s.up) (p2 : OwnI b w4 sA sC s.side) (p3 : OwnI b w4 kA kC s.keep) (hr : ∀ g, b ≤ g → g < w4.heap.size → lab g = some 0) (l0 : lab l = some 0) (l1 : lab (l + 1) = some 0) (l2 : lab k = some 0)
    (hb : ∀ g, BB1 g → lab g = some 1) (hlt : ∀ g i, lab g = some i → g < w8.heap.size) (s2 : s.kind = 3 → StI w8 (lab.own 2) x2 (S2 (nkOf s) emptyN) 262144) (s3 : s.kind = 3 → StI w8 (lab.own 3) x3 (S3 (nkOf s) emptyN) 262144)
    (hm : s.kind = 2 → lab m1 = some 4 ∧ MapS w8 m1 0 (fun _ => none) ∧ m2 = .map none) :
    NdI (w8.setCell ⟨l + 1, 1, none⟩ (.iface (workT (nkOf s)) (ptr k))) lab.dom (l + 1) (nkOf s) emptyN 262144 := by
  have hn8 := hn.ext x78
  have hC : Chg (fun g => g = l + 1) w8 (w8.setCell ⟨l + 1, 1, none⟩ (.iface (workT (nkOf s)) (ptr k))) := chg_var w8 (l + 1) 1 _
  have hs : ∀ {B : Nat → Prop} {x : Nat} {S : SAbs} {i : Nat}, (∀ g, B g → lab g = some i) → i ≠ 0 → StI w8 B x S 262144 → StI (w8.setCell ⟨l + 1, 1, none⟩ (.iface (workT (nkOf s)) (ptr k))) (lab.own i) x S 262144 := fun h1 h2 h3 =>
    (h3.chg hC fun g hg e => by subst e; have := h1 _ hg; rw [l1] at this; injection this with this; exact h2 this.symm).mono fun g hg => h1 g hg
  have hknd : (nkOf s).kind = s.kind.toNat := rfl
  have e1 : (⟨s.width.toNat, s.most.toNat, [s.up].map fun g => g.map Int.toNat, [], none⟩ : SAbs) = S1 (nkOf s) emptyN := by unfold S1; rw [nk_width hF]; rfl
  have hrow : ∀ {A : Option Addr} {c : Nat} {xs : List Int}, OwnI b w4 A c xs → ∀ a, A = some a → lab.own 0 a.block := fun h a ha => hr _ (h.lt a ha).1 (h.lt a ha).2
  refine node_made (v := ⟨l + 1, l, k, kA, kC, sA, sC, uA, uC, x1, x2, x3, m1, m2⟩) (nk_ok hF) (hn8.set_ 1 _) ?_ (hk.far hkn _) l1 l0 l2 ?_ ?_ ?_ (hs (i := 1) hb (by decide) (e1 ▸ i1.ext x78)) (fun h => hs (i := 2) (fun g hg => hg) (by decide) (s2 (by omega))) (fun h => hs (i := 3) (fun g hg => hg) (by decide) (s3 (by omega))) (fun h => ?_) (fun g i hg => by have := hlt g i hg; have := hC.size; omega)
  · rw [live_eq hF]
    exact (hl.ext x78).far (by show l ≠ l + 1; omega) _
  · exact num_in ((o3.ext x78).set_ hn8 (by decide) 1 _) (cast_keep hF) (hrow p3)
  · exact num_in ((o2.ext x78).set_ hn8 (by decide) 1 _) (cast_side hF) (hrow p2)
  · exact num_in ((o1.ext x78).set_ hn8 (by decide) 1 _) (cast_up hF) (hrow p1)
  · obtain ⟨h1, h2, h3⟩ := hm (by omega)
    exact ⟨h1, h2.setCell (fun e => by
      have e : m1 = l + 1 := e
      rw [e, l1] at h1; injection h1 with h1; exact absurd h1 (by decide)) _, h3⟩
theorem up_rises {s : SP} (h : GoodF s) : ∀ g ∈ [s.up], risesS s.width (-1) g = true := fun g hg => by
  obtain rfl := List.mem_singleton.1 hg; exact h.up
theorem up_small {s : SP} (h : GoodF s) : ∀ g ∈ [s.up], g.length ≤ 1048576 := fun g hg => by
  obtain rfl := List.mem_singleton.1 hg
  have := (rises_cols h.up (width_ok h).2).1; omega
theorem side_small {s : SP} (h : GoodF s) : ∀ g ∈ [s.side], g.length ≤ 1048576 := fun g hg => by
  obtain rfl := List.mem_singleton.1 hg
  have := side_len h; omega
theorem side_allR {s : SP} (h : GoodF s) (h3 : s.kind = 3) : ∀ g ∈ [s.side], risesS s.inn (-1) g = true := fun g hg => by
  obtain rfl := List.mem_singleton.1 hg
  rcases side_rises h with ⟨-, h1⟩ | ⟨h1, -⟩
  · exact h1
  · exact absurd h3 h1
set_option maxRecDepth 100000 in
set_option maxHeartbeats 4000000 in
theorem new_any {w : World} {s : SP} {L : SPL} (h : SpecAt w s L) :
    Calls Try.prog 9 #[.agg (specC s L)] w fun e w' => Ext w w' ∧ ((s.good = false ∧ e = .returned (.tuple #[.pointer none, .int .i64 190])) ∨ (s.good = true ∧ ∃ n B, e = .returned (.tuple #[.pointer (some ⟨n, 0, none⟩), .int .i64 0]) ∧ NdI w' B n (nkOf s) emptyN 262144 ∧ (∀ b, B b → w.heap.size ≤ b) ∧ ∀ b, B b → b < w'.heap.size)) := by
  obtain ⟨g, hg⟩ : ∃ g, w.heap.size = g := ⟨_, rfl⟩
  obtain ⟨w0, hw0⟩ : ∃ w0, w.alloc (.cells (specC s L) 25) = w0 := ⟨_, rfl⟩
  have hb := Blk.new w 25 (specC s L)
  have he := Ext.alloc w (.cells (specC s L) 25)
  rw [hw0] at hb he
  rw [hg] at hb
  have HE := hide he
  have HB := hide hb
  have HGE := hide (Nat.le_of_eq hg)
  have b0 : w0.cell? ⟨g, 0, none⟩ = some (.int .i64 s.kind) := hb.cell 0
  have b1 : w0.cell? ⟨g, 1, none⟩ = some (.int .i64 s.inn) := hb.cell 1
  have b2 : w0.cell? ⟨g, 2, none⟩ = some (.slice L.kA s.keep.length L.kC) := hb.cell 2
  have b3 : w0.cell? ⟨g, 3, none⟩ = some (.slice L.sA s.side.length L.sC) := hb.cell 3
  have b4 : w0.cell? ⟨g, 4, none⟩ = some (.slice L.uA s.up.length L.uC) := hb.cell 4
  have b5 : w0.cell? ⟨g, 5, none⟩ = some (.int .i64 s.most) := hb.cell 5
  have HG := hide (good_any (h.ext he))
  have HS := hide (h.ext he)
  clear h hb he
  obtain ⟨z, hz⟩ : ∃ z, s.good = z := ⟨_, rfl⟩
  rw [hz] at HG ⊢
  have HZ := hide hz
  clear hz
  unfold specC at *
  cases z with
  | false =>
    go_enter Try.func9, Try.ntmps9
    go_wp2_with ((with_reducible refine HG.out.mono ?_); rintro e w1 ⟨rfl, x1⟩; have X1 := hide x1; clear x1)
    go_ret2
    exact ⟨HE.out.trans X1.out, .inl ⟨trivial, rfl⟩⟩
  | true =>
    have HF := hide (good_facts HZ.out)
    go_enter Try.func9, Try.ntmps9
    go_upto_region 3 with ((with_reducible refine HG.out.mono ?_); rintro e w1 ⟨rfl, x1⟩; have X1 := hide x1; clear x1)
    clear hw0 hg
    have b0 := X1.out.cell b0; have b1 := X1.out.cell b1; have b2 := X1.out.cell b2; have b3 := X1.out.cell b3; have b4 := X1.out.cell b4; have b5 := X1.out.cell b5
    have HB1 := hide (HB.out.ext X1.out)
    have HS1 := hide (HS.out.ext X1.out)
    have b2 := cell_ext b2; have b3 := cell_ext b3; have b4 := cell_ext b4
    refine wp_region_ext 10 (by kernel_rfl) (by kernel_rfl) (by kernel_rfl) ?_
    iterate 2
      refine wpE_k (by kernel_rfl) (by kernel_rfl) ?_
      apply Exists.intro
      refine ⟨fun w1 hw1 => ?_, fun K hK => ?_⟩
      · go_simp; first | done | rfl
      go_simp; refine hK _ _ ?_; clear hK K
    refine wpE_p [] (SlI w1.heap.size s.keep) (fun u w1 w2 _ h2 h => h.ext h2) rfl (by kernel_rfl) (fun w2 hw2 => ?_) ?_
    · have HC := clone_own L.kC HS1.out.keep HS1.out.kl hw2
      clear b0 b1 b2 b3 b4 b5
      simp only [LookQ]
      go_simp
      exact ⟨Ext.refl _, HC⟩
    iterate 2
      refine wpE_k (by kernel_rfl) (by kernel_rfl) ?_
      apply Exists.intro
      refine ⟨fun w1 hw1 => ?_, fun K hK => ?_⟩
      · go_simp; first | done | rfl
      go_simp; refine hK _ _ ?_; clear hK K
    refine wpE_p [] (SlI w1.heap.size s.side) (fun u w1 w2 _ h2 h => h.ext h2) rfl (by kernel_rfl) (fun w2 hw2 => ?_) ?_
    · have HC := clone_own L.sC HS1.out.side HS1.out.sl hw2
      clear b0 b1 b2 b3 b4 b5
      simp only [LookQ]
      go_simp
      exact ⟨Ext.refl _, HC⟩
    iterate 2
      refine wpE_k (by kernel_rfl) (by kernel_rfl) ?_
      apply Exists.intro
      refine ⟨fun w1 hw1 => ?_, fun K hK => ?_⟩
      · go_simp; first | done | rfl
      go_simp; refine hK _ _ ?_; clear hK K
    refine wpE_p [] (SlI w1.heap.size s.up) (fun u w1 w2 _ h2 h => h.ext h2) rfl (by kernel_rfl) (fun w2 hw2 => ?_) ?_
    · have HC := clone_own L.uC HS1.out.up HS1.out.ul hw2
      clear b0 b1 b2 b3 b4 b5
      simp only [LookQ]
      go_simp
      exact ⟨Ext.refl _, HC⟩
    iterate 1
      refine wpE_k (by kernel_rfl) (by kernel_rfl) ?_
      apply Exists.intro
      refine ⟨fun w1 hw1 => ?_, fun K hK => ?_⟩
      · go_simp; first | done | rfl
      go_simp; refine hK _ _ ?_; clear hK K
    refine wpE_nil ⟨rfl, by kernel_rfl, fun w3 hw3 => ?_⟩
    simp only [EndQ, List.drop]
    rintro _ ⟨uA, uC, rfl, o1⟩ _ ⟨sA, sC, rfl, o2⟩ _ ⟨kA, kC, rfl, o3⟩
    clear b2 b3 b4
    have X3 := hide hw3
    have B3 := hide (HB1.out.ext hw3)
    have E3 := hide ((HE.out.trans X1.out).trans hw3)
    have B31 := hide (B3.out.set_ 2 (.slice kA s.keep.length kC))
    have B32 := hide (B31.out.set_ 3 (.slice sA s.side.length sC))
    have B33 := hide (B32.out.set_ 4 (.slice uA s.up.length uC))
    have O1 := hide (((o1.set_ B3.out (by decide) 2 (.slice kA s.keep.length kC)).set_ B31.out (by decide) 3 (.slice sA s.side.length sC)).set_ B32.out (by decide) 4 (.slice uA s.up.length uC))
    have O2 := hide (((o2.set_ B3.out (by decide) 2 (.slice kA s.keep.length kC)).set_ B31.out (by decide) 3 (.slice sA s.side.length sC)).set_ B32.out (by decide) 4 (.slice uA s.up.length uC))
    have O3 := hide (((o3.set_ B3.out (by decide) 2 (.slice kA s.keep.length kC)).set_ B31.out (by decide) 3 (.slice sA s.side.length sC)).set_ B32.out (by decide) 4 (.slice uA s.up.length uC))
    have E4 := hide (((E3.out.setCell (p := ⟨g, 2, none⟩) HGE.out (.slice kA s.keep.length kC)).setCell (p := ⟨g, 3, none⟩) HGE.out (.slice sA s.side.length sC)).setCell (p := ⟨g, 4, none⟩) HGE.out (.slice uA s.up.length uC))
    have c2 := B3.out.cell 2; have c3 := B3.out.cell 3; have c4 := B3.out.cell 4
    have f2 := B3.out.frozen 2; have f3 := B3.out.frozen 3; have f4 := B3.out.frozen 4
    have L1 := hide (show w.heap.size ≤ w1.heap.size ∧ g < w1.heap.size from ⟨(HE.out.trans X1.out).size, HB1.out.lt⟩)
    clear hw3 o1 o2 o3 b0 b1 b5
    go_upto_region 4 with fail
    clear c2 c3 c4 f2 f3 f4 B31 B32 B3
    generalize ((w3.setCell ⟨g, 2, none⟩ (.slice kA s.keep.length kC)).setCell ⟨g, 3, none⟩ (.slice sA s.side.length sC)).setCell ⟨g, 4, none⟩ (.slice uA s.up.length uC) = w4 at *
    have B4 := hide (show Blk w4 g 25 #[.int .i64 s.kind, .int .i64 s.inn, .slice kA s.keep.length kC, .slice sA s.side.length sC, .slice uA s.up.length uC, .int .i64 s.most] from B33.out)
    clear B33 E3 X3 HS1 HS HG HB HB1 HE X1
    have HW := hide (fun w1 => width_any w1 s ⟨kA, kC, sA, sC, uA, uC⟩)
    unfold specC at HW
    have c0 : w4.cell? ⟨g, 0, none⟩ = some (.int .i64 s.kind) := B4.out.cell 0
    have c1 : w4.cell? ⟨g, 1, none⟩ = some (.int .i64 s.inn) := B4.out.cell 1
    have c2 : w4.cell? ⟨g, 2, none⟩ = some (.slice kA s.keep.length kC) := B4.out.cell 2
    have c3 : w4.cell? ⟨g, 3, none⟩ = some (.slice sA s.side.length sC) := B4.out.cell 3
    have c4 : w4.cell? ⟨g, 4, none⟩ = some (.slice uA s.up.length uC) := B4.out.cell 4
    have c5 : w4.cell? ⟨g, 5, none⟩ = some (.int .i64 s.most) := B4.out.cell 5
    have c0 := cell_ext c0; have c1 := cell_ext c1; have c2 := cell_ext c2; have c3 := cell_ext c3; have c4 := cell_ext c4; have c5 := cell_ext c5
    refine wp_region_extw 7 (by kernel_rfl) (by kernel_rfl) (by kernel_rfl) (fun _ _ _ _ _ h => h) ?_
    iterate 6
      refine wpE_k (by kernel_rfl) (by kernel_rfl) ?_
      apply Exists.intro
      refine ⟨fun w1 hw1 => ?_, fun K hK => ?_⟩
      · go_simp; first | done | rfl | exact (HW.out w1)
      go_simp; refine hK _ _ ?_; clear hK K
    refine wpE_p [] (fun u w1 => ∃ gb, u = .slice (some ⟨gb, 0, none⟩) 1 1 ∧ Blk w1 gb 23 #[.slice uA s.up.length uC]) (fun u w1 w2 _ h2 ⟨gb, h3, h4⟩ => ⟨gb, h3, h4.ext h2⟩) rfl (by kernel_rfl) (fun w1 hw1 => ?_) ?_
    · clear c0 c1 c2 c3 c4 c5
      simp only [LookQ]
      go_simp
      exact ⟨Ext.alloc _ _, Blk.new _ _ _⟩
    refine wpE_nil ⟨rfl, by kernel_rfl, fun w5 hw5 => ?_⟩
    simp only [EndQ, List.drop, List.take]
    rintro _ ⟨gb, rfl, hgb⟩
    have c0 := c0 w5 hw5; have c1 := c1 w5 hw5; have c2 := c2 w5 hw5; have c3 := c3 w5 hw5; have c4 := c4 w5 hw5; have c5 := c5 w5 hw5
    have HN := hide (new_good_st (width := s.width) (most := s.most) (A := some ⟨gb, 0, none⟩) (n := 1) 1 (gs := [s.up]) (nums_1 hgb (O1.out.num.ext hw5)) (by decide) (up_small HF.out) (goodS_of (width_ok HF.out) HF.out.most (by simp) (up_rises HF.out)))
    have X5 := hide hw5
    clear hw5 hgb HW
    go_wp2_with ((with_reducible refine HN.out.mono ?_); rintro e w6 ⟨x1, BB1, rfl, h6, i6, l6, u6⟩; have X6 := hide h6; have I6 := hide i6; have L6 := hide l6; have U6 := hide u6; have c0 := h6.cell c0; have c1 := h6.cell c1; have c2 := h6.cell c2; have c3 := h6.cell c3; have c4 := h6.cell c4; have c5 := h6.cell c5; clear h6 i6 l6 u6)
    simp only [exW, wpW]
    refine ⟨_, rfl, ?_⟩; go_simp
    refine ⟨_, rfl, ?_⟩; go_simp
    refine ⟨_, rfl, ?_⟩; go_simp
    refine ⟨_, rfl, ?_⟩; go_simp
    refine ⟨_, rfl, ?_⟩; go_simp
    have BL := hide (show Blk ((w6.alloc (.cells #[.int .i64 s.kind, .int .i64 s.inn, .slice kA s.keep.length kC, .slice sA s.side.length sC, .slice uA s.up.length uC, .int .i64 s.most, .pointer (some ⟨x1, 0, none⟩)] 69)).alloc (.cells #[.pointer (some ⟨w6.heap.size, 0, none⟩), .nilIface] 38)) w6.heap.size 69 #[.int .i64 s.kind, .int .i64 s.inn, .slice kA s.keep.length kC, .slice sA s.side.length sC, .slice uA s.up.length uC, .int .i64 s.most, .pointer (some ⟨x1, 0, none⟩)] from (Blk.new w6 _ _).ext (Ext.alloc _ _))
    have BN := hide (show Blk ((w6.alloc (.cells #[.int .i64 s.kind, .int .i64 s.inn, .slice kA s.keep.length kC, .slice sA s.side.length sC, .slice uA s.up.length uC, .int .i64 s.most, .pointer (some ⟨x1, 0, none⟩)] 69)).alloc (.cells #[.pointer (some ⟨w6.heap.size, 0, none⟩), .nilIface] 38)) (w6.heap.size + 1) 38 #[.pointer (some ⟨w6.heap.size, 0, none⟩), .nilIface] from by
      have h := Blk.new (w6.alloc (.cells #[.int .i64 s.kind, .int .i64 s.inn, .slice kA s.keep.length kC, .slice sA s.side.length sC, .slice uA s.up.length uC, .int .i64 s.most, .pointer (some ⟨x1, 0, none⟩)] 69)) 38 #[.pointer (some ⟨w6.heap.size, 0, none⟩), .nilIface]
      rw [World.size_alloc] at h
      exact h)
    have X7 := hide ((Ext.alloc w6 (.cells #[.int .i64 s.kind, .int .i64 s.inn, .slice kA s.keep.length kC, .slice sA s.side.length sC, .slice uA s.up.length uC, .int .i64 s.most, .pointer (some ⟨x1, 0, none⟩)] 69)).alloc' (.cells #[.pointer (some ⟨w6.heap.size, 0, none⟩), .nilIface] 38))
    have Z7 := hide (show ((w6.alloc (.cells #[.int .i64 s.kind, .int .i64 s.inn, .slice kA s.keep.length kC, .slice sA s.side.length sC, .slice uA s.up.length uC, .int .i64 s.most, .pointer (some ⟨x1, 0, none⟩)] 69)).alloc (.cells #[.pointer (some ⟨w6.heap.size, 0, none⟩), .nilIface] 38)).heap.size = w6.heap.size + 2 from by rw [World.size_alloc, World.size_alloc])
    go_upto_region 6 with fail
    generalize (w6.alloc (.cells #[.int .i64 s.kind, .int .i64 s.inn, .slice kA s.keep.length kC, .slice sA s.side.length sC, .slice uA s.up.length uC, .int .i64 s.most, .pointer (some ⟨x1, 0, none⟩)] 69)).alloc (.cells #[.pointer (some ⟨w6.heap.size, 0, none⟩), .nilIface] 38) = w7 at *
    have c0 := X7.out.cell c0; have c1 := X7.out.cell c1; have c2 := X7.out.cell c2; have c3 := X7.out.cell c3; have c5 := X7.out.cell c5
    obtain ⟨l, hl⟩ : ∃ l, w6.heap.size = l := ⟨_, rfl⟩
    rw [hl] at BL BN Z7 ⊢
    have HL := hide hl
    have n0 : w7.cell? ⟨l + 1, 0, none⟩ = some (.pointer (some ⟨l, 0, none⟩)) := BN.out.cell 0
    have n1 : w7.cell? ⟨l + 1, 1, none⟩ = some .nilIface := BN.out.cell 1
    have f1 := BN.out.frozen 1
    have f2 := fun o => (BN.out.ext (Ext.alloc w7 o)).frozen 1
    have n2 : ∀ o, (w7.alloc o).cell? ⟨l + 1, 1, none⟩ = some .nilIface := fun o => (BN.out.ext (Ext.alloc w7 o)).cell 1
    have f3 := fun o o2 => (BN.out.ext ((Ext.alloc w7 o).alloc' o2)).frozen 1
    have n3 : ∀ o o2, ((w7.alloc o).alloc o2).cell? ⟨l + 1, 1, none⟩ = some .nilIface := fun o o2 => (BN.out.ext ((Ext.alloc w7 o).alloc' o2)).cell 1
    have I7 := hide (I6.out.ext X7.out)
    have o1 := hide (O1.out.ext (X5.out.trans (X6.out.trans X7.out))); have o2 := hide (O2.out.ext (X5.out.trans (X6.out.trans X7.out))); have o3 := hide (O3.out.ext (X5.out.trans (X6.out.trans X7.out)))
    clear hl c4
    by_cases k1 : s.kind = 1
    · have q1 : (s.kind == 1) = true := by simp [k1]
      have K1 := hide k1
      clear k1 f3 n3
      go_wp2_with fail
      go_ret2
      have e1 : workT (nkOf s) = 74 ∧ workS (nkOf s) = 76 ∧ ∀ v, workC (nkOf s) v = #[ptr v.l] := by
        have hk1 : (nkOf s).kind = 1 := by show s.kind.toNat = 1; rw [K1.out]; rfl
        exact ⟨by unfold workT; rw [hk1]; rfl, (workC_leaf hk1 ⟨0, 0, 0, none, 0, none, 0, none, 0, 0, 0, 0, 0, .nilIface⟩).1, fun v => (workC_leaf hk1 v).2⟩
      have hh := L1.out
      have h4 := E4.out.size; have h5 := X5.out.size; have h6 := X6.out.size; have h7 := Z7.out; have h8 := HL.out
      have hk := Blk.new w7 76 #[ptr l]
      have HLAB := hide (show ∀ g i, labL w.heap.size [(w5.heap.size, 0), (w6.heap.size, 1), (w7.heap.size + 1, 0)] g = some i → w.heap.size ≤ g ∧ g < w7.heap.size + 1 from fun g i hg => labL_in (by simp only [List.mem_cons, List.not_mem_nil, or_false, forall_eq_or_imp, forall_eq]; omega) hg)
      have he := new_end (k := w7.heap.size) (x2 := 0) (x3 := 0) (m1 := 0) (m2 := .nilIface) (lab := labL w.heap.size [(w5.heap.size, 0), (w6.heap.size, 1), (w7.heap.size + 1, 0)]) HF.out (Ext.alloc w7 (.cells #[ptr l] 76)) BL.out BN.out (by rw [e1.2.1, e1.2.2]; exact hk) (by omega) I7.out o1.out o2.out o3.out O1.out O2.out O3.out
        (fun g hg hg2 => by unfold labL; rw [if_neg (by omega)]; unfold labGo; rw [if_pos (by omega)])
        (by unfold labL; rw [if_neg (by omega)]; simp only [labGo]; rw [if_neg (by omega), if_neg (by omega), if_pos (by omega)])
        (by unfold labL; rw [if_neg (by omega)]; simp only [labGo]; rw [if_neg (by omega), if_neg (by omega), if_pos (by omega)])
        (by unfold labL; rw [if_neg (by omega)]; simp only [labGo]; rw [if_neg (by omega), if_neg (by omega), if_pos (by omega)])
        (fun g hg => by have := L6.out g hg; have := U6.out g hg; unfold labL; rw [if_neg (by omega)]; simp only [labGo]; rw [if_neg (by omega), if_pos (by omega)])
        (fun g i hg => by rw [World.size_alloc]; exact (HLAB.out g i hg).2)
        (fun h => absurd h (by rw [K1.out]; decide)) (fun h => absurd h (by rw [K1.out]; decide)) (fun h => absurd h (by rw [K1.out]; decide))
      rw [e1.1] at he
      refine ⟨(((E4.out.trans X5.out).trans (X6.out.trans X7.out)).alloc' _).setCell (p := ⟨l + 1, 1, none⟩) (by show w.heap.size ≤ l + 1; omega) _, .inr ⟨trivial, l + 1, _, rfl, he, fun g ⟨i, hg⟩ => (HLAB.out g i hg).1, fun g ⟨i, hg⟩ => ?_⟩⟩
      rw [size_set, World.size_alloc]
      exact (HLAB.out g i hg).2
    by_cases k2 : s.kind = 2
    · have q1 : (s.kind == 1) = false := by simp [k1]
      have q2 : (s.kind == 2) = true := by simp [k2]
      have K2 := hide k2
      have hmm := @run_makeMap Try.prog
      clear k1 k2
      go_wp2_with fail
      go_ret2
      have hk2 : (nkOf s).kind = 2 := by show s.kind.toNat = 2; rw [K2.out]; rfl
      have e1 : workT (nkOf s) = 77 := by unfold workT; rw [hk2]; rfl
      have e2 : workS (nkOf s) = 80 := by unfold workS; rw [hk2]; rfl
      have hh := L1.out
      have h4 := E4.out.size; have h5 := X5.out.size; have h6 := X6.out.size; have h7 := Z7.out; have h8 := HL.out
      have hk := Blk.new (w7.alloc (.map #[] 0)) 80 #[ptr l, .map (some w7.heap.size), .map none]
      rw [World.size_alloc] at hk
      have HLAB := hide (show ∀ g i, labL w.heap.size [(w5.heap.size, 0), (w6.heap.size, 1), (w7.heap.size, 0), (w7.heap.size + 1, 4), (w7.heap.size + 2, 0)] g = some i → w.heap.size ≤ g ∧ g < w7.heap.size + 2 from fun g i hg => labL_in (by simp only [List.mem_cons, List.not_mem_nil, or_false, forall_eq_or_imp, forall_eq]; omega) hg)
      have he := new_end (k := w7.heap.size + 1) (x2 := 0) (x3 := 0) (m1 := w7.heap.size) (m2 := .map none) (lab := labL w.heap.size [(w5.heap.size, 0), (w6.heap.size, 1), (w7.heap.size, 0), (w7.heap.size + 1, 4), (w7.heap.size + 2, 0)]) HF.out ((Ext.alloc w7 (.map #[] 0)).alloc' (.cells #[ptr l, .map (some w7.heap.size), .map none] 80)) BL.out BN.out (by rw [e2, (workC_trim hk2 _).2]; exact hk) (by omega) I7.out o1.out o2.out o3.out O1.out O2.out O3.out
        (fun g hg hg2 => by unfold labL; rw [if_neg (by omega)]; unfold labGo; rw [if_pos (by omega)])
        (by unfold labL; rw [if_neg (by omega)]; simp only [labGo]; rw [if_neg (by omega), if_neg (by omega), if_pos (by omega)])
        (by unfold labL; rw [if_neg (by omega)]; simp only [labGo]; rw [if_neg (by omega), if_neg (by omega), if_pos (by omega)])
        (by unfold labL; rw [if_neg (by omega)]; simp only [labGo]; rw [if_neg (by omega), if_neg (by omega), if_neg (by omega), if_neg (by omega), if_pos (by omega)])
        (fun g hg => by have := L6.out g hg; have := U6.out g hg; unfold labL; rw [if_neg (by omega)]; simp only [labGo]; rw [if_neg (by omega), if_pos (by omega)])
        (fun g i hg => by rw [World.size_alloc, World.size_alloc]; exact (HLAB.out g i hg).2)
        (fun h => absurd h (by rw [K2.out]; decide)) (fun h => absurd h (by rw [K2.out]; decide))
        (fun _ => ⟨by unfold labL; rw [if_neg (by omega)]; simp only [labGo]; rw [if_neg (by omega), if_neg (by omega), if_neg (by omega), if_pos (by omega)], (MapS.made w7).ext (Ext.alloc _ _), rfl⟩)
      rw [e1] at he
      refine ⟨((((E4.out.trans X5.out).trans (X6.out.trans X7.out)).alloc' _).alloc' _).setCell (p := ⟨l + 1, 1, none⟩) (by show w.heap.size ≤ l + 1; omega) _, .inr ⟨trivial, l + 1, _, rfl, he, fun g ⟨i, hg⟩ => (HLAB.out g i hg).1, fun g ⟨i, hg⟩ => ?_⟩⟩
      rw [size_set, World.size_alloc, World.size_alloc]
      exact (HLAB.out g i hg).2
    · have q1 : (s.kind == 1) = false := by simp [k1]
      have q2 : (s.kind == 2) = false := by simp [k2]
      have K3 := hide (show s.kind = 3 from by have := HF.out.kind; omega)
      clear k1 k2
      have X8 := hide (Ext.alloc w7 (.cells #[.slice sA s.side.length sC] 23))
      have HN2 := hide (new_good_st (width := s.inn) (most := s.most) (n := 1) 1 (gs := [s.side]) (nums_1 (Blk.new w7 23 #[.slice sA s.side.length sC]) (o2.out.num.ext X8.out)) (by decide) (side_small HF.out) (goodS_of HF.out.inn HF.out.most (by simp) (side_allR HF.out K3.out)))
      have Z8 := hide (World.size_alloc w7 (.cells #[.slice sA s.side.length sC] 23))
      clear f2 n2 f3 n3
      go_upto_region 8 with ((with_reducible refine HN2.out.mono ?_); rintro e w9 ⟨x2, BB2, rfl, h9, i9, l9, u9⟩; have X9 := hide h9; have I9 := hide i9; have L9 := hide l9; have U9 := hide u9; have c0 := (X8.out.trans h9).cell c0; have c1 := (X8.out.trans h9).cell c1; have c2 := (X8.out.trans h9).cell c2; have c3 := (X8.out.trans h9).cell c3; have c5 := (X8.out.trans h9).cell c5; clear h9 i9 l9 u9)
      have HN3 := hide (new_good_st (w := w9) (width := (s.side.length : Int)) (most := s.most) (A := none) (n := 0) 0 (gs := []) ⟨rfl, [], Sl.nil _ _ _, fun k g hg => by simp at hg⟩ (by decide) (by simp) (goodS_of ⟨by omega, by have := side_len HF.out; omega⟩ HF.out.most (by simp) (by simp)))
      go_upto_region 9 with ((with_reducible refine HN3.out.mono ?_); rintro e w11 ⟨x3, BB3, rfl, h9, i9, l9, u9⟩; have X11 := hide h9; have I11 := hide i9; have L11 := hide l9; have U11 := hide u9; clear h9 i9 l9 u9)
      have XX := hide ((X8.out.trans X9.out).trans X11.out)
      have BN11 := hide (BN.out.ext XX.out)
      have n0 : w11.cell? ⟨l + 1, 0, none⟩ = some (.pointer (some ⟨l, 0, none⟩)) := BN11.out.cell 0
      have f2 := fun o => (BN11.out.ext (Ext.alloc w11 o)).frozen 1
      have n2 : ∀ o, (w11.alloc o).cell? ⟨l + 1, 1, none⟩ = some .nilIface := fun o => (BN11.out.ext (Ext.alloc w11 o)).cell 1
      clear c0 c1 c2 c3 c5
      go_wp2_with fail
      go_ret2
      have hk3 : (nkOf s).kind = 3 := by show s.kind.toNat = 3; rw [K3.out]; rfl
      have e1 : workT (nkOf s) = 64 ∧ workS (nkOf s) = 67 ∧ ∀ v, workC (nkOf s) v = #[ptr v.l, ptr v.x2, ptr v.x3] := ⟨by unfold workT; rw [hk3]; rfl, by unfold workS; rw [hk3]; rfl, fun v => by unfold workC; rw [hk3]; rfl⟩
      have hh := L1.out
      have h4 := E4.out.size; have h5 := X5.out.size; have h6 := X6.out.size; have h7 := Z7.out; have h8 := HL.out
      have g8 := Z8.out; have g9 := X9.out.size; have g11 := X11.out.size
      have hk := Blk.new w11 67 #[ptr l, ptr x2, ptr x3]
      have HLAB := hide (show ∀ g i, labL w.heap.size [(w5.heap.size, 0), (w6.heap.size, 1), (w7.heap.size + 1, 0), (w9.heap.size, 2), (w11.heap.size, 3), (w11.heap.size + 1, 0)] g = some i → w.heap.size ≤ g ∧ g < w11.heap.size + 1 from fun g i hg => labL_in (by simp only [List.mem_cons, List.not_mem_nil, or_false, forall_eq_or_imp, forall_eq]; omega) hg)
      have he := new_end (k := w11.heap.size) (x2 := x2) (x3 := x3) (m1 := 0) (m2 := .nilIface) (lab := labL w.heap.size [(w5.heap.size, 0), (w6.heap.size, 1), (w7.heap.size + 1, 0), (w9.heap.size, 2), (w11.heap.size, 3), (w11.heap.size + 1, 0)]) HF.out (XX.out.trans (Ext.alloc w11 (.cells #[ptr l, ptr x2, ptr x3] 67))) BL.out BN.out (by rw [e1.2.1, e1.2.2]; exact hk) (by omega) I7.out o1.out o2.out o3.out O1.out O2.out O3.out
        (fun g hg hg2 => by unfold labL; rw [if_neg (by omega)]; unfold labGo; rw [if_pos (by omega)])
        (by unfold labL; rw [if_neg (by omega)]; simp only [labGo]; rw [if_neg (by omega), if_neg (by omega), if_pos (by omega)])
        (by unfold labL; rw [if_neg (by omega)]; simp only [labGo]; rw [if_neg (by omega), if_neg (by omega), if_pos (by omega)])
        (by unfold labL; rw [if_neg (by omega)]; simp only [labGo]; rw [if_neg (by omega), if_neg (by omega), if_neg (by omega), if_neg (by omega), if_neg (by omega), if_pos (by omega)])
        (fun g hg => by have := L6.out g hg; have := U6.out g hg; unfold labL; rw [if_neg (by omega)]; simp only [labGo]; rw [if_neg (by omega), if_pos (by omega)])
        (fun g i hg => by rw [World.size_alloc]; exact (HLAB.out g i hg).2)
        (fun _ => ((I9.out.ext (X11.out.trans (Ext.alloc _ _))).mono fun g hg => by
          have := L9.out g hg; have := U9.out g hg
          show labL _ _ g = some 2
          unfold labL; rw [if_neg (by omega)]; simp only [labGo]; rw [if_neg (by omega), if_neg (by omega), if_neg (by omega), if_pos (by omega)]))
        (fun _ => by
          have h := (I11.out.ext (Ext.alloc w11 (.cells #[ptr l, ptr x2, ptr x3] 67))).mono (C := (labL w.heap.size [(w5.heap.size, 0), (w6.heap.size, 1), (w7.heap.size + 1, 0), (w9.heap.size, 2), (w11.heap.size, 3), (w11.heap.size + 1, 0)]).own 3) fun g hg => by
            have := L11.out g hg; have := U11.out g hg
            show labL _ _ g = some 3
            unfold labL; rw [if_neg (by omega)]; simp only [labGo]; rw [if_neg (by omega), if_neg (by omega), if_neg (by omega), if_neg (by omega), if_pos (by omega)]
          have e3 : S3 (nkOf s) emptyN = ⟨((s.side.length : Nat) : Int).toNat, s.most.toNat, [], [], none⟩ := by unfold S3 nkOf; dsimp only; rw [List.length_map]; rfl
          rw [e3]
          exact h)
        (fun h => absurd h (by rw [K3.out]; decide))
      rw [e1.1] at he
      refine ⟨(((E4.out.trans X5.out).trans (X6.out.trans (X7.out.trans XX.out))).alloc' _).setCell (p := ⟨l + 1, 1, none⟩) (by show w.heap.size ≤ l + 1; omega) _, .inr ⟨trivial, l + 1, _, rfl, he, fun g ⟨i, hg⟩ => (HLAB.out g i hg).1, fun g ⟨i, hg⟩ => ?_⟩⟩
      rw [size_set, World.size_alloc]
      exact (HLAB.out g i hg).2
end Go.Proofs.Ytahdiiaadjdmcaa
