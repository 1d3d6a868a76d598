/-
  store: lay is walked.
-/
import Derived.Test.YtahdiiaadjdmcaaGbG
import Derived.Test.YtahdiiaadjdmcaaGbD
namespace Go.Proofs.Ytahdiiaadjdmcaa
open Go.RowKit

theorem infoIx : (Try.prog.info? 85).map (fun i => (i.zero, i.size, i.bytes)) = some (some (.pointer none), 1, 8) := by kernel_rfl
theorem wrap_size (s L : Nat) (h : s * L ≤ 4611686018427387000) : ∃ q q1 : Nat, Hid (q = s * L) ∧ Hid (q1 = q + 1) ∧ IntKind.i64.wrap ((s : Int) * ((L : Nat) : Int)) = (q : Int) ∧ IntKind.i64.wrap ((q : Int) + 1) = (q1 : Int) :=
  ⟨s * L, s * L + 1, rfl, rfl, by rw [Int.natCast_mul]; exact IntWalk.i64_in _ (by rw [← Int.natCast_mul]; omega), by rw [Int.natCast_add]; exact IntWalk.i64_in _ (by omega)⟩
set_option maxRecDepth 100000 in
set_option maxHeartbeats 2000000 in
theorem lay_any {w : World} {x width most : Nat} {gs : List (List Nat)} {GA : Option Addr} {cG : Nat} {Bg : Nat → Prop} {c4 c5 c6 c7 c8 c9 c10 : Value}
    (hx : Blk w x 91 (layC width most (gs.length + 1) GA gs.length cG c4 c5 c6 c7 c8 c9 c10)) (hg : GrpAt w Bg GA gs.length gs) (hBx : ¬ Bg x) (hBl : ∀ b, Bg b → b < w.heap.size) (hm : 1 ≤ most ∧ most ≤ 65536) (hg4 : gs.length ≤ 4) :
    Calls Try.prog 28 #[.pointer (some ⟨x, 0, none⟩)] w fun e w' => e = .returned (.tuple #[]) ∧ ∃ lab v, StM w' lab v ∧ Fresh v x width most gs ∧ (∀ b, lab.dom b → b = x ∨ Bg b ∨ w.heap.size ≤ b) ∧ Chg (fun b => b = x) w w' := by
  obtain ⟨i0, hi0, hz0, hz1, hz2⟩ := info_parts infoIx
  have hxlt := hx.lt
  have HR := hide (fun (w1 : World) => arena_newR most w1 hm.1 (by omega))
  have HW := hide (fun (w1 : World) => new_good most w1 hm.1 (by omega))
  have hL : most * (gs.length + 1) ≤ 327680 := Nat.le_trans (Nat.mul_le_mul hm.2 (show gs.length + 1 ≤ 5 by omega)) (by omega)
  have hL1 : 1 ≤ most * (gs.length + 1) := Nat.mul_pos (by omega) (by omega)
  have HI := hide (fun (w1 : World) => arena_newI (most * (gs.length + 1)) w1 hL1 (by omega))
  have HO := hide (fun (w1 : World) => chain_new (most * (gs.length + 1)) (most * (gs.length + 1) + 1) w1 hL1 (by omega) (by omega) (by omega))
  have HMP := hide (show LMp w w x Bg (Lab.with_ (fun _ => none) 1 Bg) (stvL x width most gs GA cG 0 0 0 none 0 [] 0 0 0) (fun i => i = 1 ∨ i = 8 ∨ 10 ≤ i) from by
    refine ⟨fun b i hb => (Lab.with_dom ⟨i, hb⟩).elim (hBl b) fun ⟨k, hk⟩ => (by cases hk), fun i hi => ?_, fun b hb => (Lab.with_dom hb).elim .inl fun ⟨k, hk⟩ => (by cases hk), fun h => (Lab.with_dom h).elim hBx fun ⟨k, hk⟩ => (by cases hk), Chg.refl _ _⟩
    match i, hi with
    | 0, hi => omega
    | 1, _ => exact hg.mono fun b hb => Lab.with_own hb
    | 2, hi => omega
    | 3, hi => omega
    | 4, hi => omega
    | 5, hi => omega
    | 6, hi => omega
    | 7, hi => omega
    | 8, _ => exact ⟨fun i r h => (by cases h), rfl, fun i u z h => (by cases h)⟩
    | 9, hi => omega
    | k + 10, _ => exact fun xk h => (by cases h))
  have HX := hide hx
  have a1 : w.cell? ⟨x, 1, none⟩ = some (.int .i64 most) := hx.cell 1
  have a4 : w.cell? ⟨x, 4, none⟩ = some c4 := hx.cell 4
  have hm1 := hm.1
  have HBx := hide hBx
  generalize hgl : gs.length = gl at *
  have HGL := hide hgl
  clear hx hg hBx hBl hgl
  have hmm := @run_makeMap Try.prog
  go_enter Try.func28, Try.ntmps28
  go_upto_region 1 with ((with_reducible refine (HR.out _).mono ?_); rintro e w1 ⟨xs, rfl, h1, h2, h3⟩; have R1 := hide h1; have R2 := hide h2; have R3 := hide h3; have b4 : w1.cell? ⟨x, 4, none⟩ = some c4 := (HX.out.ext h3).cell 4; have f4 := (HX.out.ext h3).frozen 4; clear h1 h2 h3)
  have X1 := hide (show Blk (w1.setCell ⟨x, 4, none⟩ (.pointer (some ⟨xs, 0, none⟩))) x 91 (layC width most (gl + 1) GA gl cG (.pointer (some ⟨xs, 0, none⟩)) c5 c6 c7 c8 c9 c10) from (HX.out.ext R3.out).set_ 4 _)
  have M1 := hide ((HMP.out.new hxlt R3.out 4 (.pointer (some ⟨xs, 0, none⟩)) (v' := stvL x width most gs GA cG xs 0 0 none 0 [] 0 0 0) 2 (B' := fun b => b = xs) (fun b hb => by subst hb; exact ⟨R2.out, R1.out.lt _ rfl⟩)
    (fun hC hne => R1.out.chg hC hne) (fun i hi hne h => part_stvL i (by omega) (fun e => absurd e hne) (fun _ => rfl) (fun _ => rfl) (fun _ => rfl) (fun _ => rfl) (fun _ => rfl) (fun _ => rfl) (fun _ _ => rfl) h)))
  clear HX HMP R1 R2 R3 b4 f4 HR
  generalize w1.setCell ⟨x, 4, none⟩ (.pointer (some ⟨xs, 0, none⟩)) = wa at *
  generalize (Lab.with_ (fun _ => none) 1 Bg).with_ 2 (fun b => b = xs) = lab1 at *
  have b5 : (wa.alloc (.map #[] 0)).cell? ⟨x, 5, none⟩ = some c5 := (X1.out.ext (Ext.alloc wa _)).cell 5
  have f5 : (wa.alloc (.map #[] 0)).frozen? ⟨x, 5, none⟩ = false := (X1.out.ext (Ext.alloc wa _)).frozen 5
  go_upto_region 2 with fail
  have X2 := hide (show Blk ((wa.alloc (.map #[] 0)).setCell ⟨x, 5, none⟩ (.map (some wa.heap.size))) x 91 (layC width most (gl + 1) GA gl cG (.pointer (some ⟨xs, 0, none⟩)) (.map (some wa.heap.size)) c6 c7 c8 c9 c10) from (X1.out.ext (Ext.alloc wa _)).set_ 5 _)
  have M2 := hide ((M1.out.new hxlt (Ext.alloc wa (.map #[] 0)) 5 (.map (some wa.heap.size)) (v' := stvL x width most gs GA cG xs wa.heap.size 0 none 0 [] 0 0 0) 3 (B' := fun b => b = wa.heap.size) (fun b hb => by subst hb; simp)
    (fun hC hne => ⟨rfl, 0, Nat.le_refl _, (MapI.made wa).chg hC (hne _ rfl)⟩) (fun i hi hne h => part_stvL i (by omega) (fun _ => rfl) (fun e => absurd e hne) (fun _ => rfl) (fun _ => rfl) (fun _ => rfl) (fun _ => rfl) (fun _ => rfl) (fun _ _ => rfl) h)))
  clear X1 M1 b5 f5
  generalize (wa.alloc (.map #[] 0)).setCell ⟨x, 5, none⟩ (.map (some wa.heap.size)) = wb at *
  generalize wa.heap.size = rm at *
  generalize lab1.with_ 3 (fun b => b = rm) = lab2 at *
  have a1 : wb.cell? ⟨x, 1, none⟩ = some (.int .i64 most) := X2.out.cell 1
  go_upto_region 3 with ((with_reducible refine (HW.out _).mono ?_); rintro e w1 ⟨xw, rfl, h1, h3⟩; have R1 := hide h1; have R3 := hide h3; have b6 : w1.cell? ⟨x, 6, none⟩ = some c6 := (X2.out.ext h3).cell 6; have f6 := (X2.out.ext h3).frozen 6; clear h1 h3)
  have X3 := hide (show Blk (w1.setCell ⟨x, 6, none⟩ (.pointer (some ⟨xw, 0, none⟩))) x 91 (layC width most (gl + 1) GA gl cG (.pointer (some ⟨xs, 0, none⟩)) (.map (some rm)) (.pointer (some ⟨xw, 0, none⟩)) c7 c8 c9 c10) from (X2.out.ext R3.out).set_ 6 _)
  have M3 := hide ((M2.out.new hxlt R3.out 6 (.pointer (some ⟨xw, 0, none⟩)) (v' := stvL x width most gs GA cG xs rm xw none 0 [] 0 0 0) 4 (fun b hb => hb)
    (fun hC hne => ⟨0, Nat.le_refl _, R1.out.far hC hne⟩) (fun i hi hne h => part_stvL i (by omega) (fun _ => rfl) (fun _ => rfl) (fun e => absurd e hne) (fun _ => rfl) (fun _ => rfl) (fun _ => rfl) (fun _ => rfl) (fun _ _ => rfl) h)))
  clear X2 M2 b6 f6 R1 R3 a1
  generalize w1.setCell ⟨x, 6, none⟩ (.pointer (some ⟨xw, 0, none⟩)) = wc at *
  generalize lab2.with_ 4 _ = lab3 at *
  have b7 : wc.cell? ⟨x, 7, none⟩ = some c7 := X3.out.cell 7
  have f7 := X3.out.frozen 7
  go_upto_region 4 with fail
  have X4 := hide (show Blk (wc.setCell ⟨x, 7, none⟩ (.slice none 0 0)) x 91 (layC width most (gl + 1) GA gl cG (.pointer (some ⟨xs, 0, none⟩)) (.map (some rm)) (.pointer (some ⟨xw, 0, none⟩)) (.slice none 0 0) c8 c9 c10) from X3.out.set_ 7 _)
  have M4 := hide (M3.out.set 7 (.slice none 0 0))
  clear X3 M3 b7 f7
  generalize wc.setCell ⟨x, 7, none⟩ (.slice none 0 0) = wd at *
  have a3 : wd.cell? ⟨x, 3, none⟩ = some (.slice GA gl cG) := X4.out.cell 3
  have HG0 := hide (show LayG w wd x Bg width most gs GA gl cG xs rm xw c8 c9 c10 (fun i => i = 4 ∨ i = 3 ∨ i = 2 ∨ i = 1 ∨ i = 8 ∨ 10 ≤ i) 0 from ⟨lab3, none, 0, [], rfl, M4.out, X4.out, OwnH.nil _ _ _ _⟩)
  clear X4 M4
  have hgl0 : (0 : Int) ≤ (gl : Int) := by omega
  go_wp2_with fail
  clear a3
  go_loopw [2, 3, 38] (fun _ _ s38 w' => ∃ k : Nat, k ≤ gl ∧ s38 = .int .i64 k ∧ Hid (LayG w w' x Bg width most gs GA gl cG xs rm xw c8 c9 c10 (fun i => i = 4 ∨ i = 3 ∨ i = 2 ∨ i = 1 ∨ i = 8 ∨ 10 ≤ i) k)) (fun _ _ s38 _ => gl - (intOf s38).toNat)
  case atStart => exact ⟨0, by omega, rfl, HG0⟩
  case round =>
    obtain ⟨k, hkl, rfl, hG⟩ := hrel
    clear HG0
    obtain ⟨lab, gA, gC, gx, hgx, m5, x5, o5⟩ := hG.out
    have M5 := hide m5; have X5 := hide x5; have O5 := hide o5; have HGX := hide hgx
    clear m5 x5 o5 hgx hG
    by_cases hk : k < gl
    · have a1 : wr.cell? ⟨x, 1, none⟩ = some (.int .i64 most) := X5.out.cell 1
      go_upto_region 7 with ((with_reducible refine (HW.out _).mono ?_); rintro e w1 ⟨xk, rfl, h1, h3⟩; have R1 := hide h1; have R3 := hide h3; clear h1 h3)
      have B6 := hide ((X5.out.ext R3.out).ext (Ext.alloc w1 (.cells #[.pointer (some ⟨xk, 0, none⟩)] 85)))
      have O6 := hide ((O5.out.ext R3.out).ext (Ext.alloc w1 (.cells #[.pointer (some ⟨xk, 0, none⟩)] 85)))
      have HS := hide (show Sl (w1.alloc (.cells #[.pointer (some ⟨xk, 0, none⟩)] 85)) (some ⟨w1.heap.size, 0, none⟩) 1 1 [.pointer (some ⟨xk, 0, none⟩)] from (Blk.new w1 _ _).sl rfl)
      have HONE := hide (show OneCells [Value.pointer (some ⟨xk, 0, none⟩)] from fun v hv => by simp at hv; rw [hv]; rfl)
      have a7 : w1.cell? ⟨x, 7, none⟩ = some (.slice gA k gC) := (X5.out.ext R3.out).cell 7
      go_upto_region 8 with (at_builtin; refine wpList_append_b rfl (.tmp 52) (.tmp 54) _ rfl (fun b => w.heap.size ≤ b ∧ b < wr.heap.size ∧ ¬ lab.dom b ∧ b ≠ x) 85 i0 _ 1 8 Try.underlying86 hi0 hz0 hz1 hz2 rfl (by omega) (.slice gA k gC) k (ptrC gx) rfl O6.out _ 1 1 _ rfl HS.out HONE.out (by unfold maxLen; omega) (by omega) ?_; intro A8 g8 w8 own8 G8 C8; have hb8 := (B6.out.grown G8.out (own_ne_blk O6.out.own B6.out (by decide))); have f8 := hb8.frozen 7; have v8 := hb8.cell 7; clear hb8)
      have HGN := hide (LayG.push hxlt HGX.out M5.out X5.out O5.out R1.out R3.out own8.out G8.out C8.out)
      clear M5 X5 O5 R1 R3 own8 G8 C8 f8 v8 B6 O6 HS HONE a7 a1
      go_wp2_with fail
      go_roundw
      case rel => exact ⟨k + 1, by omega, by go_num, HGN⟩
      case measure => simp [intOf]; omega
    · obtain rfl : k = gl := by omega
      clear HW
      have a1 : wr.cell? ⟨x, 1, none⟩ = some (.int .i64 most) := X5.out.cell 1
      obtain ⟨L1, hL1⟩ : ∃ L1, k + 1 = L1 := ⟨_, rfl⟩
      have a2 : wr.cell? ⟨x, 2, none⟩ = some (.int .i64 (L1 : Int)) := by rw [← hL1]; exact X5.out.cell 2
      obtain ⟨q, q1, HQ, HQ1, hwq, hwq1⟩ := wrap_size most L1 (by rw [← hL1]; omega)
      rw [hL1] at HI HO
      have HL1 := hide hL1
      clear hL1
      rw [← HQ.out] at HI HO
      rw [← HQ1.out] at HO
      go_upto_region 9 with fail
      have a1 := cell_ext a1; have a2 := cell_ext a2
      refine wp_region_extq 10 _ rfl (by kernel_rfl) (by kernel_rfl) (by kernel_rfl) (fun _ _ _ _ _ h => h) ?_
      refine ⟨_, _, ?_, rfl, ?_⟩; rotate_left
      refine ⟨⟨by kernel_rfl, fun w9 => ?_⟩, fun _ _ _ h => h, fun K hK => ?_⟩
      · go_simp; first | done | rfl
      go_simp; refine hK _ _ ?_; clear hK K
      iterate 9
        refine wpE_k (by kernel_rfl) (by kernel_rfl) ?_
        apply Exists.intro
        refine ⟨fun w1 hw1 => ?_, fun K hK => ?_⟩
        · go_simp; first | done | rfl
        go_simp; refine hK _ _ ?_; clear hK K
      refine wpE_nil ⟨rfl, by kernel_rfl, fun w5 hw5 => ?_⟩
      simp only [EndQ, List.drop, List.take, List.dropLast]
      clear a1 a2
      have X6 := hide (X5.out.ext hw5); have M6 := hide (M5.out.ext hw5); have O6 := hide (LayO.up (O5.out.ext hw5) hw5.size)
      clear X5 M5 O5 hw5
      go_wp2_with ((with_reducible refine (HI.out _).mono ?_); rintro e w1 ⟨xl, rfl, h1, h2, h3⟩; have R1 := hide h1; have R2 := hide h2; have R3 := hide h3; have b8 : w1.cell? ⟨x, 8, none⟩ = some c8 := (X6.out.ext h3).cell 8; have f8 := (X6.out.ext h3).frozen 8; clear h1 h2 h3)
      simp only [exS]
      unfold wpS
      apply Exists.intro
      refine ⟨fun w9 => ?_, fun K hK => ?_⟩
      · go_simp; first | done | rfl
      go_simp; refine hK _ ?_; clear hK K
      unfold wpS
      apply Exists.intro
      refine ⟨fun w9 => ?_, fun K hK => ?_⟩
      · go_simp; first | done | rfl
      go_simp; refine hK _ ?_; clear hK K
      unfold wpS
      apply Exists.intro
      refine ⟨fun w9 => ?_, fun K hK => ?_⟩
      · go_simp; first | done | rfl
      go_simp; refine hK _ ?_; clear hK K
      unfold wpS
      apply Exists.intro
      refine ⟨fun w9 => ?_, fun K hK => ?_⟩
      · go_simp; first | done | rfl
      go_simp; refine hK _ ?_; clear hK K
      unfold wpS
      apply Exists.intro
      refine ⟨fun w9 => ?_, fun K hK => ?_⟩
      · go_simp; first | done | rfl
      go_simp; refine hK _ ?_; clear hK K
      unfold wpS
      go_upto_region 10 with fail
      have hl1 := HL1.out
      have hlg := HGL.out
      have e1 : (stvL x width most gs GA cG xs rm xw gA gC gx 0 0 0).L = L1 := by rw [← hl1, ← hlg]; rfl
      have X7 := hide (show Blk (w1.setCell ⟨x, 8, none⟩ (.pointer (some ⟨xl, 0, none⟩))) x 91 (layC width most (k + 1) GA k cG (.pointer (some ⟨xs, 0, none⟩)) (.map (some rm)) (.pointer (some ⟨xw, 0, none⟩)) (.slice gA k gC) (.pointer (some ⟨xl, 0, none⟩)) c9 c10) from (X6.out.ext R3.out).set_ 8 _)
      have M7 := hide ((M6.out.new hxlt R3.out 8 (.pointer (some ⟨xl, 0, none⟩)) (v' := stvL x width most gs GA cG xs rm xw gA gC gx xl 0 0) 5 (B' := fun b => b = xl) (fun b hb => by subst hb; exact ⟨R2.out, R1.out.lt _ rfl⟩)
        (fun hC hne => by
          have h9 := R1.out.chg hC hne
          rw [HQ.out, ← e1] at h9
          exact h9) (fun i hi hne h => part_stvL i (by omega) (fun _ => rfl) (fun _ => rfl) (fun _ => rfl) (fun e => absurd e hne) (fun _ => rfl) (fun _ => rfl) (fun _ => rfl) (fun _ _ => rfl) h)))
      have O7 := hide (LayO.new (O6.out.ext R3.out) (X6.out.ext R3.out) (j := 5) (B' := fun b => b = xl) 8 (.pointer (some ⟨xl, 0, none⟩)) (fun b hb => by subst hb; exact R2.out))
      clear X6 M6 O6 R1 R2 R3 b8 f8 HI hl1 hlg e1
      generalize w1.setCell ⟨x, 8, none⟩ (.pointer (some ⟨xl, 0, none⟩)) = we at *
      generalize lab.with_ 5 _ = lab5 at *
      have b9 : (we.alloc (.map #[] 0)).cell? ⟨x, 9, none⟩ = some c9 := (X7.out.ext (Ext.alloc we _)).cell 9
      have f9 : (we.alloc (.map #[] 0)).frozen? ⟨x, 9, none⟩ = false := (X7.out.ext (Ext.alloc we _)).frozen 9
      go_upto_region 11 with fail
      have X8 := hide (show Blk ((we.alloc (.map #[] 0)).setCell ⟨x, 9, none⟩ (.map (some we.heap.size))) x 91 (layC width most (k + 1) GA k cG (.pointer (some ⟨xs, 0, none⟩)) (.map (some rm)) (.pointer (some ⟨xw, 0, none⟩)) (.slice gA k gC) (.pointer (some ⟨xl, 0, none⟩)) (.map (some we.heap.size)) c10) from (X7.out.ext (Ext.alloc we _)).set_ 9 _)
      have M8 := hide ((M7.out.new hxlt (Ext.alloc we (.map #[] 0)) 9 (.map (some we.heap.size)) (v' := stvL x width most gs GA cG xs rm xw gA gC gx xl we.heap.size 0) 6 (B' := fun b => b = we.heap.size) (fun b hb => by subst hb; simp)
        (fun hC hne => ⟨rfl, 0, Nat.le_refl _, (MapI.made we).chg hC (hne _ rfl)⟩) (fun i hi hne h => part_stvL i (by omega) (fun _ => rfl) (fun _ => rfl) (fun _ => rfl) (fun _ => rfl) (fun e => absurd e hne) (fun _ => rfl) (fun _ => rfl) (fun _ _ => rfl) h)))
      have O8 := hide (LayO.new (O7.out.ext (Ext.alloc we (.map #[] 0))) (X7.out.ext (Ext.alloc we _)) (j := 6) (B' := fun b => b = we.heap.size) 9 (.map (some we.heap.size)) (fun b hb => by subst hb; exact Nat.le_refl _))
      clear X7 M7 O7 b9 f9
      generalize (we.alloc (.map #[] 0)).setCell ⟨x, 9, none⟩ (.map (some we.heap.size)) = wf at *
      generalize we.heap.size = lm at *
      generalize lab5.with_ 6 _ = lab6 at *
      have a1 : wf.cell? ⟨x, 1, none⟩ = some (.int .i64 most) := X8.out.cell 1
      have a2 : wf.cell? ⟨x, 2, none⟩ = some (.int .i64 (L1 : Int)) := by rw [← HL1.out]; exact X8.out.cell 2
      have a1 := cell_ext a1; have a2 := cell_ext a2
      refine wp_region_extq 20 _ rfl (by kernel_rfl) (by kernel_rfl) (by kernel_rfl) (fun _ _ _ _ _ h => h) ?_
      refine ⟨_, _, ?_, rfl, ?_⟩; rotate_left
      refine ⟨⟨by kernel_rfl, fun w9 => ?_⟩, fun _ _ _ h => h, fun K hK => ?_⟩
      · go_simp; first | done | rfl
      go_simp; refine hK _ _ ?_; clear hK K
      iterate 19
        refine wpE_k (by kernel_rfl) (by kernel_rfl) ?_
        apply Exists.intro
        refine ⟨fun w1 hw1 => ?_, fun K hK => ?_⟩
        · go_simp; first | done | rfl
        go_simp; refine hK _ _ ?_; clear hK K
      refine wpE_nil ⟨rfl, by kernel_rfl, fun wg hwg => ?_⟩
      simp only [EndQ, List.drop, List.take, List.dropLast]
      clear a1 a2
      have X9 := hide (X8.out.ext hwg); have M9 := hide (M8.out.ext hwg); have O9 := hide (LayO.up (O8.out.ext hwg) hwg.size)
      clear X8 M8 O8 hwg
      go_wp2_with ((with_reducible refine (HO.out _).mono ?_); rintro e w1 ⟨xo, rfl, h1, h2, h3⟩; have R1 := hide h1; have R2 := hide h2; have R3 := hide h3; have b10 : w1.cell? ⟨x, 10, none⟩ = some c10 := (X9.out.ext h3).cell 10; have f10 := (X9.out.ext h3).frozen 10; clear h1 h2 h3)
      simp only [exS]
      unfold wpS
      apply Exists.intro
      refine ⟨fun w9 => ?_, fun K hK => ?_⟩
      · go_simp; first | done | rfl
      go_simp; refine hK _ ?_; clear hK K
      unfold wpS
      apply Exists.intro
      refine ⟨fun w9 => ?_, fun K hK => ?_⟩
      · go_simp; first | done | rfl
      go_simp; refine hK _ ?_; clear hK K
      unfold wpS
      apply Exists.intro
      refine ⟨fun w9 => ?_, fun K hK => ?_⟩
      · go_simp; first | done | rfl
      go_simp; refine hK _ ?_; clear hK K
      unfold wpS
      apply Exists.intro
      refine ⟨fun w9 => ?_, fun K hK => ?_⟩
      · go_simp; first | done | rfl
      go_simp; refine hK _ ?_; clear hK K
      unfold wpS
      apply Exists.intro
      refine ⟨fun w9 => ?_, fun K hK => ?_⟩
      · go_simp; first | done | rfl
      go_simp; refine hK _ ?_; clear hK K
      unfold wpS
      go_wp2_with fail
      have hl1 := HL1.out
      have hlg := HGL.out
      have e1 : (stvL x width most gs GA cG xs rm xw gA gC gx 0 0 0).L = L1 := by rw [← hl1, ← hlg]; rfl
      have XE : Blk (w1.setCell ⟨x, 10, none⟩ (.pointer (some ⟨xo, 0, none⟩))) x 91 (layC width most (k + 1) GA k cG (.pointer (some ⟨xs, 0, none⟩)) (.map (some rm)) (.pointer (some ⟨xw, 0, none⟩)) (.slice gA k gC) (.pointer (some ⟨xl, 0, none⟩)) (.map (some lm)) (.pointer (some ⟨xo, 0, none⟩))) := (X9.out.ext R3.out).set_ 10 _
      have ME := (M9.out.new hxlt R3.out 10 (.pointer (some ⟨xo, 0, none⟩)) (v' := stvL x width most gs GA cG xs rm xw gA gC gx xl lm xo) 7 (B' := fun b => b = xo) (fun b hb => by subst hb; exact ⟨R2.out, R1.out.lt _ rfl⟩)
        (fun hC hne => by
          have h9 := R1.out.chg hC hne
          rw [HQ1.out, HQ.out, ← e1] at h9
          exact h9) (fun i hi hne h => part_stvL i (by omega) (fun _ => rfl) (fun _ => rfl) (fun _ => rfl) (fun _ => rfl) (fun _ => rfl) (fun e => absurd e hne) (fun _ => rfl) (fun _ _ => rfl) h))
      have OE := LayO.new (O9.out.ext R3.out) (X9.out.ext R3.out) (j := 7) (B' := fun b => b = xo) 10 (.pointer (some ⟨xo, 0, none⟩)) (fun b hb => by subst hb; exact R2.out)
      refine bodyPost_end (v := .tuple #[]) (by simp [results, Try.results28, go_sem]) rfl ?_
      exact ⟨rfl, LMp.done ME XE OE HGX.out HGL.out fun i hi => hi⟩
end Go.Proofs.Ytahdiiaadjdmcaa
