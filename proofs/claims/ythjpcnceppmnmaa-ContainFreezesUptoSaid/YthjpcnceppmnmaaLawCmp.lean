/-
  ContainCompares: the walk.
-/
import Derived.Test.YthjpcnceppmnmaaLeastW
namespace Go.Proofs.Ythjpcnceppmnmaa
open Go.RowKit

/-- a value that reads as the query -/
def IsQ (q : Qy) : Value → World → Prop := fun u w => ∃ L, u = qval q.name L ∧ QAt w L q
theorem IsQ.ext {q : Qy} {u : Value} {w w' : World} (hw : Ext w w') (h : IsQ q u w) : IsQ q u w' := by
  obtain ⟨L, h1, h2⟩ := h
  exact ⟨L, h1, h2.ext hw⟩
theorem copy_isq {q : Qy} {L : QLoc} {w : World} (hq : QAt w L q) (hM : smallM 1048576 q) :
    Calls Try.prog 12 #[.agg #[.string q.name, .slice L.A L.n L.c, .slice L.B L.m L.d]] w fun e w' => ∃ v, e = .returned v ∧ Ext w w' ∧ IsQ q v w' :=
  (copy_query q L w hq hM).mono fun e w' ⟨L', h1, h2, h3⟩ => ⟨_, h1, h3, L', rfl, h2.qat⟩

set_option maxHeartbeats 8000000 in
set_option maxRecDepth 100000 in
theorem law_compares (a b : Qy) (La Lb : QLoc) (w : World) (ha : QAt w La a) (hMa : smallM 1048576 a) (hb : QAt w Lb b) (hMb : smallM 1048576 b) :
    Calls Try.prog 4 #[qval a.name La, qval b.name Lb] w fun e w' => e = .returned (.bool true) ∧ Ext w w' := by
  have HCA := hide (fun w1 (h1 : Ext w w1) => copy_isq (ha.ext h1) hMa)
  have HCB := hide (fun w1 (h1 : Ext w w1) => copy_isq (hb.ext h1) hMb)
  have HRF := hide (fun w1 (h1 : Ext w w1) => ref_find a b La Lb w1 (ha.ext h1) (hb.ext h1) hMa hMb)
  have HRE := hide (fun w1 (h1 : Ext w w1) => ref_equal a b La Lb w1 (ha.ext h1) (hb.ext h1) hMa hMb)
  have HCC := hide (fun L1 L2 w1 (h1 : QAt w1 L1 a) (h2 : QAt w1 L2 b) => contains_any a b L1 L2 w1 h1 h2 hMa hMb)
  have HCE := hide (fun L1 L2 w1 (h1 : QAt w1 L1 a) (h2 : QAt w1 L2 b) => equal_any a b L1 L2 w1 h1 h2 hMa hMb)
  have HE := hide ((Ext.alloc w (.cells #[.string a.name, .slice La.A La.n La.c, .slice La.B La.m La.d] 25)).alloc' (.cells #[.string b.name, .slice Lb.A Lb.n Lb.c, .slice Lb.B Lb.m Lb.d] 25))
  have HB0 := hide ((Blk.new w 25 #[.string a.name, .slice La.A La.n La.c, .slice La.B La.m La.d]).ext (Ext.alloc _ (.cells #[.string b.name, .slice Lb.A Lb.n Lb.c, .slice Lb.B Lb.m Lb.d] 25)))
  have HB1 := hide (show Blk ((w.alloc (.cells #[.string a.name, .slice La.A La.n La.c, .slice La.B La.m La.d] 25)).alloc (.cells #[.string b.name, .slice Lb.A Lb.n Lb.c, .slice Lb.B Lb.m Lb.d] 25)) (w.heap.size + 1) 25 #[.string b.name, .slice Lb.A Lb.n Lb.c, .slice Lb.B Lb.m Lb.d] from Blk.newAt (World.size_alloc _ _))
  generalize hW2 : (w.alloc (.cells #[.string a.name, .slice La.A La.n La.c, .slice La.B La.m La.d] 25)).alloc (.cells #[.string b.name, .slice Lb.A Lb.n Lb.c, .slice Lb.B Lb.m Lb.d] 25) = W2 at *
  have HW2 := hide hW2; clear hW2 ha hb hMa hMb
  obtain ⟨A, n, c, B, m, d⟩ := La
  obtain ⟨A', n', c', B', m', d'⟩ := Lb
  simp only [qval] at HRF HRE ⊢
  have hr1 := findR_rng a b
  have hr2 : 0 ≤ (eqR a b).2 ∧ (eqR a b).2 ≤ 100 := by
    unfold eqR
    split
    · exact hr1
    · simp
  generalize findR a b = r at *
  generalize eqR a b = r' at *
  obtain ⟨im, ok, er⟩ := r
  obtain ⟨ok', er'⟩ := r'
  dsimp only at *
  go_enter Try.func4, Try.ntmps4
  go_wp2_with fail
  rw [HW2.out]
  have a0 := cell_ext (show W2.cell? ⟨w.heap.size, 0, none⟩ = some (.string a.name) from HB0.out.cell 0)
  have a1 := cell_ext (show W2.cell? ⟨w.heap.size, 1, none⟩ = some (.slice A n c) from HB0.out.cell 1)
  have a2 := cell_ext (show W2.cell? ⟨w.heap.size, 2, none⟩ = some (.slice B m d) from HB0.out.cell 2)
  have b0 := cell_ext (show W2.cell? ⟨w.heap.size + 1, 0, none⟩ = some (.string b.name) from HB1.out.cell 0)
  have b1 := cell_ext (show W2.cell? ⟨w.heap.size + 1, 1, none⟩ = some (.slice A' n' c') from HB1.out.cell 1)
  have b2 := cell_ext (show W2.cell? ⟨w.heap.size + 1, 2, none⟩ = some (.slice B' m' d') from HB1.out.cell 2)
  refine wp_region_ext 10 (by kernel_rfl) (by kernel_rfl) (by kernel_rfl) ?_
  iterate 1
    refine wpE_k (by kernel_rfl) (by kernel_rfl) ?_
    apply Exists.intro
    refine ⟨fun w1 hw1 => ?_, fun K hK => ?_⟩
    · go_simp; first | done | rfl
    go_simp; refine hK _ _ ?_; clear hK K
  refine wpE_p [] (IsQ a) (fun u w1 w2 _ h2 h => h.ext h2) rfl (by kernel_rfl) (fun w1 hw1 => ?_) ?_
  · simp only [LookQ]
    clear a0 a1 a2 b0 b1 b2
    go_simp
    exact ⟨Ext.refl _, HCA.out w1 (HE.out.trans hw1)⟩
  iterate 1
    refine wpE_k (by kernel_rfl) (by kernel_rfl) ?_
    apply Exists.intro
    refine ⟨fun w1 hw1 => ?_, fun K hK => ?_⟩
    · go_simp; first | done | rfl
    go_simp; refine hK _ _ ?_; clear hK K
  refine wpE_p [] (IsQ b) (fun u w1 w2 _ h2 h => h.ext h2) rfl (by kernel_rfl) (fun w1 hw1 => ?_) ?_
  · simp only [LookQ]
    clear a0 a1 a2 b0 b1 b2
    go_simp
    exact ⟨Ext.refl _, HCB.out w1 (HE.out.trans hw1)⟩
  refine wpE_kp [16, 18] (.tuple #[.bool ok, .int .i64 er]) (by kernel_rfl) (by kernel_rfl) (fun w1 hw1 => ?_) (fun K hK => ?_)
  · simp only [LookQ]
    intro u hu v hv
    obtain ⟨L1, rfl, h1⟩ := hu _ rfl
    obtain ⟨L2, rfl, h2⟩ := hv _ rfl
    clear hu hv a0 a1 a2 b0 b1 b2
    go_simp
    exact ⟨Ext.refl _, HCC.out L1 L2 w1 h1 h2⟩
  go_simp; refine hK _ _ ?_; clear hK K
  iterate 5
    refine wpE_k (by kernel_rfl) (by kernel_rfl) ?_
    apply Exists.intro
    refine ⟨fun w1 hw1 => ?_, fun K hK => ?_⟩
    · go_simp; first | done | rfl
    go_simp; refine hK _ _ ?_; clear hK K
  refine wpE_nil ⟨rfl, by kernel_rfl, fun w1 hw1 => ?_⟩
  simp only [EndQ, List.drop]
  intro u _ v _
  refine wpList_nil ?_
  have E1 := hide hw1; clear hw1
  clear a0 a1 a2 b0 b1 b2
  have a0 : w1.cell? ⟨w.heap.size, 0, none⟩ = some (.string a.name) := (HB0.out.ext E1.out).cell 0
  have a1 : w1.cell? ⟨w.heap.size, 1, none⟩ = some (.slice A n c) := (HB0.out.ext E1.out).cell 1
  have a2 : w1.cell? ⟨w.heap.size, 2, none⟩ = some (.slice B m d) := (HB0.out.ext E1.out).cell 2
  have b0 : w1.cell? ⟨w.heap.size + 1, 0, none⟩ = some (.string b.name) := (HB1.out.ext E1.out).cell 0
  have b1 : w1.cell? ⟨w.heap.size + 1, 1, none⟩ = some (.slice A' n' c') := (HB1.out.ext E1.out).cell 1
  have b2 : w1.cell? ⟨w.heap.size + 1, 2, none⟩ = some (.slice B' m' d') := (HB1.out.ext E1.out).cell 2
  go_wp2_with ((with_reducible refine (HRF.out _ (HE.out.trans E1.out)).mono ?_); rintro e w3 ⟨A3, c3, rfl, _, h3⟩; have E3 := hide (E1.out.trans h3); clear h3 a0 a1 a2 b0 b1 b2)
  have a0 := cell_ext (show w3.cell? ⟨w.heap.size, 0, none⟩ = some (.string a.name) from (HB0.out.ext E3.out).cell 0)
  have a1 := cell_ext (show w3.cell? ⟨w.heap.size, 1, none⟩ = some (.slice A n c) from (HB0.out.ext E3.out).cell 1)
  have a2 := cell_ext (show w3.cell? ⟨w.heap.size, 2, none⟩ = some (.slice B m d) from (HB0.out.ext E3.out).cell 2)
  have b0 := cell_ext (show w3.cell? ⟨w.heap.size + 1, 0, none⟩ = some (.string b.name) from (HB1.out.ext E3.out).cell 0)
  have b1 := cell_ext (show w3.cell? ⟨w.heap.size + 1, 1, none⟩ = some (.slice A' n' c') from (HB1.out.ext E3.out).cell 1)
  have b2 := cell_ext (show w3.cell? ⟨w.heap.size + 1, 2, none⟩ = some (.slice B' m' d') from (HB1.out.ext E3.out).cell 2)
  refine wp_region_ext 10 (by kernel_rfl) (by kernel_rfl) (by kernel_rfl) ?_
  iterate 1
    refine wpE_k (by kernel_rfl) (by kernel_rfl) ?_
    apply Exists.intro
    refine ⟨fun w1 hw1 => ?_, fun K hK => ?_⟩
    · go_simp; first | done | rfl
    go_simp; refine hK _ _ ?_; clear hK K
  refine wpE_p [] (IsQ a) (fun u w1 w2 _ h2 h => h.ext h2) rfl (by kernel_rfl) (fun w1 hw1 => ?_) ?_
  · simp only [LookQ]
    clear a0 a1 a2 b0 b1 b2
    go_simp
    exact ⟨Ext.refl _, HCA.out w1 ((HE.out.trans E3.out).trans hw1)⟩
  iterate 1
    refine wpE_k (by kernel_rfl) (by kernel_rfl) ?_
    apply Exists.intro
    refine ⟨fun w1 hw1 => ?_, fun K hK => ?_⟩
    · go_simp; first | done | rfl
    go_simp; refine hK _ _ ?_; clear hK K
  refine wpE_p [] (IsQ b) (fun u w1 w2 _ h2 h => h.ext h2) rfl (by kernel_rfl) (fun w1 hw1 => ?_) ?_
  · simp only [LookQ]
    clear a0 a1 a2 b0 b1 b2
    go_simp
    exact ⟨Ext.refl _, HCB.out w1 ((HE.out.trans E3.out).trans hw1)⟩
  refine wpE_kp [31, 33] (.tuple #[.bool ok', .int .i64 er']) (by kernel_rfl) (by kernel_rfl) (fun w1 hw1 => ?_) (fun K hK => ?_)
  · simp only [LookQ]
    intro u hu v hv
    obtain ⟨L1, rfl, h1⟩ := hu _ rfl
    obtain ⟨L2, rfl, h2⟩ := hv _ rfl
    clear hu hv a0 a1 a2 b0 b1 b2
    go_simp
    exact ⟨Ext.refl _, HCE.out L1 L2 w1 h1 h2⟩
  go_simp; refine hK _ _ ?_; clear hK K
  iterate 5
    refine wpE_k (by kernel_rfl) (by kernel_rfl) ?_
    apply Exists.intro
    refine ⟨fun w1 hw1 => ?_, fun K hK => ?_⟩
    · go_simp; first | done | rfl
    go_simp; refine hK _ _ ?_; clear hK K
  refine wpE_nil ⟨rfl, by kernel_rfl, fun w4 hw4 => ?_⟩
  simp only [EndQ, List.drop]
  intro u2 _ v2 _
  refine wpList_nil ?_
  have E4 := hide (E3.out.trans hw4); clear hw4
  clear a0 a1 a2 b0 b1 b2
  have a0 : w4.cell? ⟨w.heap.size, 0, none⟩ = some (.string a.name) := (HB0.out.ext E4.out).cell 0
  have a1 : w4.cell? ⟨w.heap.size, 1, none⟩ = some (.slice A n c) := (HB0.out.ext E4.out).cell 1
  have a2 : w4.cell? ⟨w.heap.size, 2, none⟩ = some (.slice B m d) := (HB0.out.ext E4.out).cell 2
  have b0 : w4.cell? ⟨w.heap.size + 1, 0, none⟩ = some (.string b.name) := (HB1.out.ext E4.out).cell 0
  have b1 : w4.cell? ⟨w.heap.size + 1, 1, none⟩ = some (.slice A' n' c') := (HB1.out.ext E4.out).cell 1
  have b2 : w4.cell? ⟨w.heap.size + 1, 2, none⟩ = some (.slice B' m' d') := (HB1.out.ext E4.out).cell 2
  go_wp2_with (first
    | ((with_reducible refine (HRE.out _ (HE.out.trans E4.out)).mono ?_); rintro e w5 ⟨rfl, h3⟩; have E5 := hide (E4.out.trans h3); clear h3 a0 a1 a2 b0 b1 b2)
    | ((with_reducible refine (awake_any _).mono ?_); rintro e w6 ⟨rfl, h3⟩; have E6 := hide (E5.out.trans h3); clear h3))
  go_ret
  exact ⟨ret_bool (by simp), HE.out.trans E6.out⟩
end Go.Proofs.Ythjpcnceppmnmaa
