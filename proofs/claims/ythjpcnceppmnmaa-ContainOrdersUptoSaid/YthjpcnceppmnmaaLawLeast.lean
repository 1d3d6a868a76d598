/-
  ContainLeast: the walk.
-/
import Derived.Test.YthjpcnceppmnmaaLawCores
namespace Go.Proofs.Ythjpcnceppmnmaa
open Go.RowKit

theorem eqR_yes {a b : Qy} (ha : Shaped a) (hb : Shaped b) (hl : a.head.length = b.head.length) (h1 : Lies a b) (h2 : Lies b a) : eqR a b = (true, 0) := by
  have e1 : (findR a b).2.2 = 0 := by rw [findR_err]; exact shapesP_iff.2 ⟨ha, hb, hl⟩
  have e2 : (findR a b).2.1 = true := findR_yes.2 ⟨shapesP_iff.2 ⟨ha, hb, hl⟩, h1⟩
  have e3 : (findR b a).2.1 = true := findR_yes.2 ⟨shapesP_iff.2 ⟨hb, ha, hl.symm⟩, h2⟩
  simp [eqR, e1, e2, e3]
theorem eqR_no {c r : Qy} (hc : Shaped c) (hr : Shaped r) (hl : c.head.length = r.head.length) (h : (findR c r).2.1 = false) : eqR c r = (false, 0) := by
  have e1 : (findR c r).2.2 = 0 := by rw [findR_err]; exact shapesP_iff.2 ⟨hc, hr, hl⟩
  simp [eqR, e1, h]
theorem eqR_sound {a b : Qy} (h1 : (eqR a b).1 = true) : Shaped a ∧ Shaped b ∧ a.head.length = b.head.length ∧ Lies a b ∧ Lies b a := by
  unfold eqR at h1
  split at h1
  · cases h1
  · simp only [Bool.and_eq_true] at h1
    obtain ⟨h2, h3⟩ := findR_yes.1 h1.1
    obtain ⟨h4, h5⟩ := findR_yes.1 h1.2
    obtain ⟨a1, a2, a3⟩ := shapesP_iff.1 h2
    exact ⟨a1, a2, a3, h3, h5⟩
theorem eqR_rng (a b : Qy) : 0 ≤ (eqR a b).2 ∧ (eqR a b).2 ≤ 100 := by
  unfold eqR
  split
  · exact findR_rng a b
  · simp

set_option maxHeartbeats 8000000 in
set_option maxRecDepth 100000 in
theorem law_least_bad (q p : Qy) (L L' : QLoc) (w : World) (hq : QAt w L q) (hM : smallM 1048576 q) (hs : shapeQ q ≠ 0) :
    Calls Try.prog 7 #[qval q.name L, qval p.name L'] w fun e w' => e = .returned (.bool true) ∧ Ext w w' := by
  have HCP := hide (fun w1 (h1 : Ext w w1) => copy_qout q L w1 (hq.ext h1) hM)
  have HCO := hide (fun L1 w1 (h1 : QAt w1 L1 q) => core_out q L1 w1 h1 hM)
  have HSH := hide (fun w1 (h1 : Ext w w1) => ref_shape q L w1 (hq.ext h1) hM)
  have hr : coreR q = (⟨.empty, [], []⟩, shapeQ q) := by unfold coreR; rw [if_pos hs]
  rw [hr] at HCO
  generalize shapeQ q = sq at *
  have hs1 : (sq != 0) = true := by simpa using hs
  have HE := hide ((Ext.alloc w (.cells #[.string q.name, .slice L.A L.n L.c, .slice L.B L.m L.d] 25)).alloc' (.cells #[.string p.name, .slice L'.A L'.n L'.c, .slice L'.B L'.m L'.d] 25))
  have HB0 := hide ((Blk.new w 25 #[.string q.name, .slice L.A L.n L.c, .slice L.B L.m L.d]).ext (Ext.alloc _ (.cells #[.string p.name, .slice L'.A L'.n L'.c, .slice L'.B L'.m L'.d] 25)))
  generalize hW2 : (w.alloc (.cells #[.string q.name, .slice L.A L.n L.c, .slice L.B L.m L.d] 25)).alloc (.cells #[.string p.name, .slice L'.A L'.n L'.c, .slice L'.B L'.m L'.d] 25) = W2 at *
  have HW2 := hide hW2; clear hW2 hq hM hr hs
  obtain ⟨A, n, c, B, m, d⟩ := L
  obtain ⟨A', n', c', B', m', d'⟩ := L'
  simp only [qval] at *
  have a0 : W2.cell? ⟨w.heap.size, 0, none⟩ = some (.string q.name) := HB0.out.cell 0
  have a1 : W2.cell? ⟨w.heap.size, 1, none⟩ = some (.slice A n c) := HB0.out.cell 1
  have a2 : W2.cell? ⟨w.heap.size, 2, none⟩ = some (.slice B m d) := HB0.out.cell 2
  go_enter Try.func7, Try.ntmps7
  go_wp2_with (first
    | (rw [HW2.out]; (with_reducible refine (HCP.out _ HE.out).mono ?_); rintro e w1 ⟨A1, n1, c1, B1, m1, d1, rfl, q1, x1⟩; have X1 := hide x1; have Q1 := hide q1; clear q1 x1 a0 a1 a2)
    | ((with_reducible refine (HCO.out ⟨A1, n1, c1, B1, m1, d1⟩ _ Q1.out).mono ?_); rintro e w3 ⟨A3, n3, c3, B3, m3, d3, rfl, q3, x3⟩; have X3 := hide (X1.out.trans x3); clear q3 x3
       have l1 : w.heap.size < w3.heap.size := (HB0.out.ext X3.out).lt
       have l2 : w.heap.size ≠ w3.heap.size := Nat.ne_of_lt l1
       have a0 : w3.cell? ⟨w.heap.size, 0, none⟩ = some (.string q.name) := (HB0.out.ext X3.out).cell 0
       have a1 : w3.cell? ⟨w.heap.size, 1, none⟩ = some (.slice A n c) := (HB0.out.ext X3.out).cell 1
       have a2 : w3.cell? ⟨w.heap.size, 2, none⟩ = some (.slice B m d) := (HB0.out.ext X3.out).cell 2)
    | ((with_reducible refine (HSH.out _ (HE.out.trans (X3.out.alloc' _))).mono ?_); rintro e w5 ⟨rfl, x5⟩; have X5 := hide ((X3.out.alloc' _).trans x5); clear x5 a0 a1 a2)
    | ((with_reducible refine (awake_any _).mono ?_); rintro e w6 ⟨rfl, x6⟩; have X6 := hide (X5.out.trans x6); clear x6))
  go_ret
  exact ⟨rfl, HE.out.trans X6.out⟩

set_option maxHeartbeats 8000000 in
set_option maxRecDepth 100000 in
theorem law_least_ok (q p : Qy) (L L' : QLoc) (w : World) (hq : QAt w L q) (hM : smallM 1048576 q) (hp : QAt w L' p) (hMp : smallM 1048576 p) (hs : shapeQ q = 0) :
    Calls Try.prog 7 #[qval q.name L, qval p.name L'] w fun e w' => e = .returned (.bool true) ∧ Ext w w' := by
  have hS := shapeQ_iff.1 hs
  have hr : coreR q = (coreP q.atoms.length q, 0) := by unfold coreR; rw [if_neg (by simpa using hs)]
  have hC := coreP_spec q.atoms.length q hS
  have hfix := coreP_fix q.atoms.length q (Nat.le_refl _)
  have hcM := coreP_small q.atoms.length q hM
  have heq := eqR_yes hS hC.shaped (by rw [hC.head]) hC.onto (Lies.sub hC.shaped.clean hC.head hC.sub)
  have hfin : (coreR p).2 = 0 → (eqR q p).1 = true → (coreP q.atoms.length q).atoms.length = (coreR p).1.atoms.length := fun h1 h2 => by
    obtain ⟨_, hSp, h3, h4, h5⟩ := eqR_sound h2
    have : coreR p = (coreP p.atoms.length p, 0) := by unfold coreR; rw [if_neg (by simpa using shapeQ_iff.2 hSp)]
    rw [this]
    exact cores_len hS hSp h3 h4 h5
  have hsome := hC.shaped.some
  have hle := hC.len
  have hsh := hC.shaped
  have HCP := hide (fun w1 (h1 : Ext w w1) => copy_qout q L w1 (hq.ext h1) hM)
  have HCQ := hide (fun w1 (h1 : Ext w w1) => copy_isq (hq.ext h1) hM)
  have HPP := hide (fun w1 (h1 : Ext w w1) => copy_qout p L' w1 (hp.ext h1) hMp)
  have HPQ := hide (fun w1 (h1 : Ext w w1) => copy_isq (hp.ext h1) hMp)
  have HCO := hide (fun L1 w1 (h1 : QAt w1 L1 q) => core_out q L1 w1 h1 hM)
  have HPO := hide (fun L1 w1 (h1 : QAt w1 L1 p) => core_out p L1 w1 h1 hMp)
  have HSH := hide (fun w1 (h1 : Ext w w1) => ref_shape q L w1 (hq.ext h1) hM)
  have HQL := hide (hq.atoms.len)
  have HQ6 := hide hS.six
  rw [hr] at HCO
  rw [hs] at HSH
  dsimp only at HCO
  generalize coreP q.atoms.length q = cq at *
  have HEQ := hide (fun L1 L2 w1 (h1 : QAt w1 L1 q) (h2 : QAt w1 L2 cq) => equal_any q cq L1 L2 w1 h1 h2 hM hcM)
  rw [heq] at HEQ
  have HEP := hide (fun L1 L2 w1 (h1 : QAt w1 L1 q) (h2 : QAt w1 L2 p) => equal_any q p L1 L2 w1 h1 h2 hM hMp)
  have HCC := hide (fun L1 w1 (h1 : QAt w1 L1 cq) => copy_isq h1 hcM)
  have HWO := hide (fun L1 i w1 (h1 : QAt w1 L1 cq) (h : i < cq.atoms.length) => refWo_out cq L1 i w1 h1 hcM h)
  have HSW := hide (fun L1 i w1 (h1 : QAt w1 L1 (withoutQ cq i)) => ref_shape (withoutQ cq i) L1 w1 h1 (withoutQ_small hcM))
  have HEW := hide (fun L1 L2 i w1 (h1 : QAt w1 L1 cq) (h2 : QAt w1 L2 (withoutQ cq i)) => equal_any cq (withoutQ cq i) L1 L2 w1 h1 h2 hcM (withoutQ_small hcM))
  have HNO := hide (show ∀ i, i < cq.atoms.length → shapeQ (withoutQ cq i) = 0 → eqR cq (withoutQ cq i) = (false, 0) from fun i hi h0 =>
    eqR_no hsh (shapeQ_iff.1 h0) rfl (by rw [outB_find (shapeQ_iff.2 hsh)]; exact hfix i hi))
  have hnm : ∀ i, (withoutQ cq i).name = cq.name := fun _ => rfl
  have hrp := coreR_rng p
  have hrq := eqR_rng q p
  have HFIN := hide hfin
  have HSOME := hide hsome
  have HLE := hide hle
  clear hS hr hC hfix hcM heq hfin hsome hle hsh hs
  generalize coreR p = rp at *
  generalize eqR q p = eqp at *
  obtain ⟨rq, re⟩ := rp
  obtain ⟨eb, ee⟩ := eqp
  dsimp only at *
  have HE := hide ((Ext.alloc w (.cells #[.string q.name, .slice L.A L.n L.c, .slice L.B L.m L.d] 25)).alloc' (.cells #[.string p.name, .slice L'.A L'.n L'.c, .slice L'.B L'.m L'.d] 25))
  have HB0 := hide ((Blk.new w 25 #[.string q.name, .slice L.A L.n L.c, .slice L.B L.m L.d]).ext (Ext.alloc _ (.cells #[.string p.name, .slice L'.A L'.n L'.c, .slice L'.B L'.m L'.d] 25)))
  have HB1 := hide (show Blk ((w.alloc (.cells #[.string q.name, .slice L.A L.n L.c, .slice L.B L.m L.d] 25)).alloc (.cells #[.string p.name, .slice L'.A L'.n L'.c, .slice L'.B L'.m L'.d] 25)) (w.heap.size + 1) 25 #[.string p.name, .slice L'.A L'.n L'.c, .slice L'.B L'.m L'.d] from Blk.newAt (World.size_alloc _ _))
  generalize hW2 : (w.alloc (.cells #[.string q.name, .slice L.A L.n L.c, .slice L.B L.m L.d] 25)).alloc (.cells #[.string p.name, .slice L'.A L'.n L'.c, .slice L'.B L'.m L'.d] 25) = W2 at *
  have HW2 := hide hW2; clear hW2 hq hM hp hMp
  obtain ⟨A, n, c, B, m, d⟩ := L
  obtain ⟨A', n', c', B', m', d'⟩ := L'
  simp only [qval, hnm] at *
  clear hnm
  have a0 : W2.cell? ⟨w.heap.size, 0, none⟩ = some (.string q.name) := HB0.out.cell 0
  have a1 : W2.cell? ⟨w.heap.size, 1, none⟩ = some (.slice A n c) := HB0.out.cell 1
  have a2 : W2.cell? ⟨w.heap.size, 2, none⟩ = some (.slice B m d) := HB0.out.cell 2
  go_enter Try.func7, Try.ntmps7
  go_wp2_with (first
    | (rw [HW2.out]; (with_reducible refine (HCP.out _ HE.out).mono ?_); rintro e w1 ⟨A1, n1, c1, B1, m1, d1, rfl, q1, x1⟩; have X1 := hide x1; have Q1 := hide q1; clear q1 x1 a0 a1 a2)
    | ((with_reducible refine (HCO.out ⟨A1, n1, c1, B1, m1, d1⟩ _ Q1.out).mono ?_); rintro e w3 ⟨A3, n3, c3, B3, m3, d3, rfl, q3, x3⟩; have X3 := hide (X1.out.trans x3); have Q3 := hide q3; clear q3 x3
       have BC := hide (Blk.new w3 25 #[.string cq.name, .slice A3 n3 c3, .slice B3 m3 d3])
       have l1 : w.heap.size < w3.heap.size := (HB0.out.ext X3.out).lt
       have l2 : w.heap.size ≠ w3.heap.size := Nat.ne_of_lt l1
       have a0 : w3.cell? ⟨w.heap.size, 0, none⟩ = some (.string q.name) := (HB0.out.ext X3.out).cell 0
       have a1 : w3.cell? ⟨w.heap.size, 1, none⟩ = some (.slice A n c) := (HB0.out.ext X3.out).cell 1
       have a2 : w3.cell? ⟨w.heap.size, 2, none⟩ = some (.slice B m d) := (HB0.out.ext X3.out).cell 2)
    | ((with_reducible refine (HSH.out _ (HE.out.trans (X3.out.alloc' _))).mono ?_); rintro e w5 ⟨rfl, x5⟩; have X5 := hide ((X3.out.alloc' _).trans x5); have BC5 := hide (BC.out.ext x5); have Q5 := hide (Q3.out.ext ((Ext.alloc w3 _).trans x5)); clear x5 a0 a1 a2))
  have a0 := cell_ext (show w5.cell? ⟨w.heap.size, 0, none⟩ = some (.string q.name) from (HB0.out.ext X5.out).cell 0)
  have a1 := cell_ext (show w5.cell? ⟨w.heap.size, 1, none⟩ = some (.slice A n c) from (HB0.out.ext X5.out).cell 1)
  have a2 := cell_ext (show w5.cell? ⟨w.heap.size, 2, none⟩ = some (.slice B m d) from (HB0.out.ext X5.out).cell 2)
  have e0 := cell_ext (show w5.cell? ⟨w3.heap.size, 0, none⟩ = some (.string cq.name) from BC5.out.cell 0)
  have e1 := cell_ext (show w5.cell? ⟨w3.heap.size, 1, none⟩ = some (.slice A3 n3 c3) from BC5.out.cell 1)
  have e2 := cell_ext (show w5.cell? ⟨w3.heap.size, 2, none⟩ = some (.slice B3 m3 d3) from BC5.out.cell 2)
  refine wp_region_ext 10 (by kernel_rfl) (by kernel_rfl) (by kernel_rfl) ?_
  iterate 1
    refine wpE_k (by kernel_rfl) (by kernel_rfl) ?_
    apply Exists.intro
    refine ⟨fun w1 hw1 => ?_, fun K hK => ?_⟩
    · go_simp; first | done | rfl
    go_simp; refine hK _ _ ?_; clear hK K
  refine wpE_p [] (IsQ q) (fun u w1 w2 _ h2 h => h.ext h2) rfl (by kernel_rfl) (fun w1 hw1 => ?_) ?_
  · simp only [LookQ]
    clear a0 a1 a2 e0 e1 e2
    go_simp
    exact ⟨Ext.refl _, HCQ.out w1 ((HE.out.trans X5.out).trans hw1)⟩
  iterate 1
    refine wpE_k (by kernel_rfl) (by kernel_rfl) ?_
    apply Exists.intro
    refine ⟨fun w1 hw1 => ?_, fun K hK => ?_⟩
    · go_simp; first | done | rfl
    go_simp; refine hK _ _ ?_; clear hK K
  refine wpE_p [] (IsQ cq) (fun u w1 w2 _ h2 h => h.ext h2) rfl (by kernel_rfl) (fun w1 hw1 => ?_) ?_
  · simp only [LookQ]
    clear a0 a1 a2 e0 e1 e2
    go_simp
    exact ⟨Ext.refl _, HCC.out ⟨A3, n3, c3, B3, m3, d3⟩ w1 (Q5.out.ext hw1)⟩
  refine wpE_kp [30, 32] (.tuple #[.bool true, .int .i64 0]) (by kernel_rfl) (by kernel_rfl) (fun w1 hw1 => ?_) (fun K hK => ?_)
  · simp only [LookQ]
    intro u hu v hv
    obtain ⟨L1, rfl, h1⟩ := hu _ rfl
    obtain ⟨L2, rfl, h2⟩ := hv _ rfl
    clear hu hv a0 a1 a2 e0 e1 e2
    go_simp
    exact ⟨Ext.refl _, HEQ.out L1 L2 w1 h1 h2⟩
  go_simp; refine hK _ _ ?_; clear hK K
  iterate 5
    refine wpE_k (by kernel_rfl) (by kernel_rfl) ?_
    apply Exists.intro
    refine ⟨fun w1 hw1 => ?_, fun K hK => ?_⟩
    · go_simp; first | done | rfl
    go_simp; refine hK _ _ ?_; clear hK K
  refine wpE_nil ⟨rfl, by kernel_rfl, fun w6 hw6 => ?_⟩
  simp only [EndQ, List.drop]
  intro u _ v _
  refine wpList_nil ?_
  clear a0 a1 a2 e0 e1 e2
  have X6 := hide (X5.out.trans hw6); have BC6 := hide (BC5.out.ext hw6); have Q6 := hide (Q5.out.ext hw6); clear hw6
  have hm3 := hide (show m3 = cq.atoms.length from Q6.out.atoms.len)
  have hmq := hide (show m3 ≤ m by have := hm3.out; have h1 : m = q.atoms.length := HQL.out; have := HLE.out; omega)
  have hm0 : ((m3 : Int) == 0) = false := by have := hm3.out; have := HSOME.out; simp; omega
  have hm1 : decide (m < m3) = false := by have := hmq.out; simp; omega
  have hm6 : m3 ≤ 6 := by have := hmq.out; have h1 : m = q.atoms.length := HQL.out; have := HQ6.out; omega
  have e2 : w6.cell? ⟨w3.heap.size, 2, none⟩ = some (.slice B3 m3 d3) := BC6.out.cell 2
  have a2 : w6.cell? ⟨w.heap.size, 2, none⟩ = some (.slice B m d) := (HB0.out.ext X6.out).cell 2
  go_wp2_with fail
  clear a2 e2 hm0 hm1
  go_loopw [9, 10, 11, 12, 64] (fun _ _ _ _ s64 w' => ∃ i : Nat, i ≤ m3 ∧ s64 = .int .i64 i ∧ Hid (Ext w6 w')) (fun _ _ _ _ s64 _ => m3 - (intOf s64).toNat)
  case atStart => exact ⟨0, by omega, rfl, Ext.refl _⟩
  case round =>
    obtain ⟨i, him, rfl, hX⟩ := hrel
    have e0 : wr.cell? ⟨w3.heap.size, 0, none⟩ = some (.string cq.name) := (BC6.out.ext hX.out).cell 0
    have e1 : wr.cell? ⟨w3.heap.size, 1, none⟩ = some (.slice A3 n3 c3) := (BC6.out.ext hX.out).cell 1
    have e2 : wr.cell? ⟨w3.heap.size, 2, none⟩ = some (.slice B3 m3 d3) := (BC6.out.ext hX.out).cell 2
    by_cases h : i < m3
    · have hil := hide (show i < cq.atoms.length by have := hm3.out; omega)
      have HWI := hide (fun L1 w1 h1 => HWO.out L1 i w1 h1 hil.out)
      have HSI := hide (fun L1 w1 h1 => HSW.out L1 i w1 h1)
      have HEI := hide (fun L1 L2 w1 h1 h2 => HEW.out L1 L2 i w1 h1 h2)
      have HNI := hide (HNO.out i hil.out)
      generalize shapeQ (withoutQ cq i) = sq at *
      generalize eqR cq (withoutQ cq i) = ew at *
      have hm := hide h; clear h
      by_cases hs0 : sq = 0
      · subst hs0
        obtain rfl : ew = (false, 0) := HNI.out rfl
        go_wp2_with (first
          | ((with_reducible refine (HWI.out ⟨A3, n3, c3, B3, m3, d3⟩ _ (Q6.out.ext hX.out)).mono ?_); rintro e w7 ⟨A7, n7, c7, B7, m7, d7, rfl, q7, x7⟩; have X7 := hide (hX.out.trans x7); have Q7 := hide q7; clear q7 x7 e0 e1 e2
             have BW := hide (Blk.new w7 25 #[.string cq.name, .slice A7 n7 c7, .slice B7 m7 d7]))
          | ((with_reducible refine (HSI.out ⟨A7, n7, c7, B7, m7, d7⟩ _ (Q7.out.ext (Ext.alloc w7 _))).mono ?_); rintro e w8 ⟨rfl, x8⟩; have X8 := hide ((X7.out.alloc' _).trans x8); have BW8 := hide (BW.out.ext x8); have Q78 := hide (Q7.out.ext ((Ext.alloc w7 _).trans x8)); clear x8))
        have e0 := cell_ext (show w8.cell? ⟨w3.heap.size, 0, none⟩ = some (.string cq.name) from (BC6.out.ext X8.out).cell 0)
        have e1 := cell_ext (show w8.cell? ⟨w3.heap.size, 1, none⟩ = some (.slice A3 n3 c3) from (BC6.out.ext X8.out).cell 1)
        have e2 := cell_ext (show w8.cell? ⟨w3.heap.size, 2, none⟩ = some (.slice B3 m3 d3) from (BC6.out.ext X8.out).cell 2)
        have b0 := cell_ext (show w8.cell? ⟨w7.heap.size, 0, none⟩ = some (.string cq.name) from BW8.out.cell 0)
        have b1 := cell_ext (show w8.cell? ⟨w7.heap.size, 1, none⟩ = some (.slice A7 n7 c7) from BW8.out.cell 1)
        have b2 := cell_ext (show w8.cell? ⟨w7.heap.size, 2, none⟩ = some (.slice B7 m7 d7) from BW8.out.cell 2)
        refine wp_region_ext 9 (by kernel_rfl) (by kernel_rfl) (by kernel_rfl) ?_
        iterate 1
          refine wpE_k (by kernel_rfl) (by kernel_rfl) ?_
          apply Exists.intro
          refine ⟨fun w1 hw1 => ?_, fun K hK => ?_⟩
          · go_simp; first | done | rfl
          go_simp; refine hK _ _ ?_; clear hK K
        refine wpE_p [] (IsQ cq) (fun u w1 w2 _ h2 h => h.ext h2) rfl (by kernel_rfl) (fun w1 hw1 => ?_) ?_
        · simp only [LookQ]
          clear b0 b1 b2 e0 e1 e2
          go_simp
          exact ⟨Ext.refl _, HCC.out ⟨A3, n3, c3, B3, m3, d3⟩ w1 (Q6.out.ext (X8.out.trans hw1))⟩
        iterate 1
          refine wpE_k (by kernel_rfl) (by kernel_rfl) ?_
          apply Exists.intro
          refine ⟨fun w1 hw1 => ?_, fun K hK => ?_⟩
          · go_simp; first | done | rfl
          go_simp; refine hK _ _ ?_; clear hK K
        refine wpE_kp [75] (.tuple #[.bool false, .int .i64 0]) (by kernel_rfl) (by kernel_rfl) (fun w1 hw1 => ?_) (fun K hK => ?_)
        · simp only [LookQ]
          intro u hu
          obtain ⟨L1, rfl, h1⟩ := hu _ rfl
          clear hu b0 b1 b2 e0 e1 e2
          go_simp
          exact ⟨Ext.refl _, HEI.out L1 ⟨A7, n7, c7, B7, m7, d7⟩ w1 h1 (Q78.out.ext hw1)⟩
        go_simp; refine hK _ _ ?_; clear hK K
        iterate 5
          refine wpE_k (by kernel_rfl) (by kernel_rfl) ?_
          apply Exists.intro
          refine ⟨fun w1 hw1 => ?_, fun K hK => ?_⟩
          · go_simp; first | done | rfl
          go_simp; refine hK _ _ ?_; clear hK K
        refine wpE_nil ⟨rfl, by kernel_rfl, fun w9 hw9 => ?_⟩
        simp only [EndQ, List.drop]
        intro u _
        refine wpList_nil ?_
        clear b0 b1 b2 e0 e1 e2
        have X9 := hide (X8.out.trans hw9); clear hw9
        go_wp2_with fail
        go_roundw
        case rel => exact ⟨i + 1, by have := hm.out; omega, by go_num, X9.out⟩
        case measure => have := hm.out; simp [intOf]; omega
      · have hs1 : (sq != 0) = true := by simpa using hs0
        clear hs0
        go_wp2_with (first
          | ((with_reducible refine (HWI.out ⟨A3, n3, c3, B3, m3, d3⟩ _ (Q6.out.ext hX.out)).mono ?_); rintro e w7 ⟨A7, n7, c7, B7, m7, d7, rfl, q7, x7⟩; have X7 := hide (hX.out.trans x7); have Q7 := hide q7; clear q7 x7 e0 e1 e2)
          | ((with_reducible refine (HSI.out ⟨A7, n7, c7, B7, m7, d7⟩ _ (Q7.out.ext (Ext.alloc w7 _))).mono ?_); rintro e w8 ⟨rfl, x8⟩; have X8 := hide ((X7.out.alloc' _).trans x8); clear x8))
        go_roundw
        case rel => exact ⟨i + 1, by have := hm.out; omega, by go_num, X8.out⟩
        case measure => have := hm.out; simp [intOf]; omega
    · have XR := hide (X6.out.trans hX.out)
      clear e0 e1 e2
      have p0 : wr.cell? ⟨w.heap.size + 1, 0, none⟩ = some (.string p.name) := (HB1.out.ext XR.out).cell 0
      have p1 : wr.cell? ⟨w.heap.size + 1, 1, none⟩ = some (.slice A' n' c') := (HB1.out.ext XR.out).cell 1
      have p2 : wr.cell? ⟨w.heap.size + 1, 2, none⟩ = some (.slice B' m' d') := (HB1.out.ext XR.out).cell 2
      go_wp2_with (first
        | ((with_reducible refine (HPP.out _ (HE.out.trans XR.out)).mono ?_); rintro e w7 ⟨A7, n7, c7, B7, m7, d7, rfl, q7, x7⟩; have X7 := hide x7; have Q7 := hide q7; clear q7 x7 p0 p1 p2)
        | ((with_reducible refine (HPO.out ⟨A7, n7, c7, B7, m7, d7⟩ _ Q7.out).mono ?_); rintro e w8 ⟨A8, n8, c8, B8, m8, d8, rfl, q8, x8⟩; have X8 := hide (X7.out.trans x8); have Q8 := hide q8; clear q8 x8))
      have BD := hide (Blk.new w8 25 #[.string rq.name, .slice A8 n8 c8, .slice B8 m8 d8])
      have XD := hide (X8.out.alloc' (.cells #[.string rq.name, .slice A8 n8 c8, .slice B8 m8 d8] 25))
      have hl8 := hide (show m8 = rq.atoms.length from Q8.out.atoms.len)
      generalize hW9 : w8.alloc (.cells #[.string rq.name, .slice A8 n8 c8, .slice B8 m8 d8] 25) = W9 at *
      clear hW9
      have X9 := hide (XR.out.trans XD.out)
      have a0 := cell_ext (show W9.cell? ⟨w.heap.size, 0, none⟩ = some (.string q.name) from (HB0.out.ext X9.out).cell 0)
      have a1 := cell_ext (show W9.cell? ⟨w.heap.size, 1, none⟩ = some (.slice A n c) from (HB0.out.ext X9.out).cell 1)
      have a2 := cell_ext (show W9.cell? ⟨w.heap.size, 2, none⟩ = some (.slice B m d) from (HB0.out.ext X9.out).cell 2)
      have p0 := cell_ext (show W9.cell? ⟨w.heap.size + 1, 0, none⟩ = some (.string p.name) from (HB1.out.ext X9.out).cell 0)
      have p1 := cell_ext (show W9.cell? ⟨w.heap.size + 1, 1, none⟩ = some (.slice A' n' c') from (HB1.out.ext X9.out).cell 1)
      have p2 := cell_ext (show W9.cell? ⟨w.heap.size + 1, 2, none⟩ = some (.slice B' m' d') from (HB1.out.ext X9.out).cell 2)
      refine wp_region_ext 10 (by kernel_rfl) (by kernel_rfl) (by kernel_rfl) ?_
      iterate 1
        refine wpE_k (by kernel_rfl) (by kernel_rfl) ?_
        apply Exists.intro
        refine ⟨fun w1 hw1 => ?_, fun K hK => ?_⟩
        · go_simp; first | done | rfl
        go_simp; refine hK _ _ ?_; clear hK K
      refine wpE_p [] (IsQ q) (fun u w1 w2 _ h2 h => h.ext h2) rfl (by kernel_rfl) (fun w1 hw1 => ?_) ?_
      · simp only [LookQ]
        clear a0 a1 a2 p0 p1 p2
        go_simp
        exact ⟨Ext.refl _, HCQ.out w1 ((HE.out.trans X9.out).trans hw1)⟩
      iterate 1
        refine wpE_k (by kernel_rfl) (by kernel_rfl) ?_
        apply Exists.intro
        refine ⟨fun w1 hw1 => ?_, fun K hK => ?_⟩
        · go_simp; first | done | rfl
        go_simp; refine hK _ _ ?_; clear hK K
      refine wpE_p [] (IsQ p) (fun u w1 w2 _ h2 h => h.ext h2) rfl (by kernel_rfl) (fun w1 hw1 => ?_) ?_
      · simp only [LookQ]
        clear a0 a1 a2 p0 p1 p2
        go_simp
        exact ⟨Ext.refl _, HPQ.out w1 ((HE.out.trans X9.out).trans hw1)⟩
      refine wpE_kp [94, 96] (.tuple #[.bool eb, .int .i64 ee]) (by kernel_rfl) (by kernel_rfl) (fun w1 hw1 => ?_) (fun K hK => ?_)
      · simp only [LookQ]
        intro u hu v hv
        obtain ⟨L1, rfl, h1⟩ := hu _ rfl
        obtain ⟨L2, rfl, h2⟩ := hv _ rfl
        clear hu hv a0 a1 a2 p0 p1 p2
        go_simp
        exact ⟨Ext.refl _, HEP.out L1 L2 w1 h1 h2⟩
      go_simp; refine hK _ _ ?_; clear hK K
      iterate 5
        refine wpE_k (by kernel_rfl) (by kernel_rfl) ?_
        apply Exists.intro
        refine ⟨fun w1 hw1 => ?_, fun K hK => ?_⟩
        · go_simp; first | done | rfl
        go_simp; refine hK _ _ ?_; clear hK K
      refine wpE_nil ⟨rfl, by kernel_rfl, fun wa hwa => ?_⟩
      simp only [EndQ, List.drop]
      intro u _ v _
      refine wpList_nil ?_
      clear a0 a1 a2 p0 p1 p2
      have XA := hide (X9.out.trans hwa)
      have BCA := hide (BC6.out.ext (hX.out.trans (XD.out.trans hwa)))
      have BDA := hide (BD.out.ext hwa)
      clear hwa
      have hll := hide (show re = 0 → eb = true → (((m3 : Nat) : Int) == ((m8 : Nat) : Int)) = true from fun h1 h2 => by
        have h3 := HFIN.out h1 h2
        have := hm3.out
        have := hl8.out
        have e : m3 = m8 := by omega
        simp [e])
      by_cases hre : re = 0
      · subst hre
        cases eb with
        | true =>
          have hl3 := hll.out rfl rfl
          go_wp2_with ((with_reducible refine (awake_any _).mono ?_); rintro e wb ⟨rfl, xb⟩; have XB := hide (XA.out.trans xb); have f2 := (BCA.out.ext xb).cell 2; have g2 := (BDA.out.ext xb).cell 2; clear xb; have f2 : wb.cell? ⟨w3.heap.size, 2, none⟩ = some (.slice B3 m3 d3) := f2; have g2 : wb.cell? ⟨w8.heap.size, 2, none⟩ = some (.slice B8 m8 d8) := g2)
          all_goals go_ret
          all_goals exact ⟨ret_bool (by simp), HE.out.trans XB.out⟩
        | false =>
          go_wp2_with ((with_reducible refine (awake_any _).mono ?_); rintro e wb ⟨rfl, xb⟩; have XB := hide (XA.out.trans xb); clear xb)
          all_goals go_ret
          all_goals exact ⟨ret_bool (by simp), HE.out.trans XB.out⟩
      · have hre1 : (re != 0) = true := by simpa using hre
        clear hre
        go_wp2_with ((with_reducible refine (awake_any _).mono ?_); rintro e wb ⟨rfl, xb⟩; have XB := hide (XA.out.trans xb); clear xb)
        all_goals go_ret
        all_goals exact ⟨ret_bool (by simp), HE.out.trans XB.out⟩

theorem law_least (q p : Qy) (L L' : QLoc) (w : World) (hq : QAt w L q) (hM : smallM 1048576 q) (hp : QAt w L' p) (hMp : smallM 1048576 p) :
    Calls Try.prog 7 #[qval q.name L, qval p.name L'] w fun e w' => e = .returned (.bool true) ∧ Ext w w' := by
  by_cases hs : shapeQ q = 0
  · exact law_least_ok q p L L' w hq hM hp hMp hs
  · exact law_least_bad q p L L' w hq hM hs
end Go.Proofs.Ythjpcnceppmnmaa
