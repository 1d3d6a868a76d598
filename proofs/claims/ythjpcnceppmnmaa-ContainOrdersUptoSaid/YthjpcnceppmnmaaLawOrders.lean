/-
  ContainOrders: the walk.
-/
import Derived.Test.YthjpcnceppmnmaaPlainW
import Derived.Test.YthjpcnceppmnmaaLawLeast
namespace Go.Proofs.Ythjpcnceppmnmaa
open Go.RowKit

theorem vName_size {n : Nat} (h : n < 100) : (vName n).size ≤ 3 := by
  have := digL_len h
  simp [vName, ByteArray.size]
  omega
theorem plain_small {q : Qy} (h : Shaped q) (hM : smallM 1048576 q) : smallM 1048576 (plainQ q) := by
  refine ⟨hM.name, by simpa [plainQ] using hM.headL, fun x hx => ?_, by simpa [plainQ] using hM.atomsL, fun a ha => ?_⟩
  · obtain ⟨y, _, rfl⟩ := List.mem_map.1 hx
    exact Nat.le_trans (vName_size (atN_lt h y)) (by omega)
  · obtain ⟨b, hb, rfl⟩ := List.mem_map.1 ha
    have hs := hM.atoms b hb
    refine ⟨hs.rel, by simpa [renA] using hs.len, fun t ht => ?_⟩
    obtain ⟨u, hu, rfl⟩ := List.mem_map.1 ht
    have h3 := hs.terms u hu
    unfold renT
    split
    · exact h3
    · exact ⟨Nat.le_trans (vName_size (atN_lt h u.v)) (by omega), h3.2⟩
theorem more_small {a : Qy} {x : Atm} (hM : smallM 1048576 a) (hl : a.atoms.length < 6) (hx : smallA 1048576 x) : smallM 1048576 (moreQ a x) := by
  refine ⟨hM.name, hM.headL, hM.heads, by simp [moreQ]; omega, fun y hy => ?_⟩
  rcases List.mem_append.1 hy with h | h
  · exact hM.atoms y h
  · obtain rfl := List.mem_singleton.1 h
    exact hx
theorem plain_isq {q : Qy} {L : QLoc} {w : World} (hq : QAt w L q) (hM : smallM 1048576 q) :
    Calls Try.prog 22 #[.agg #[.string q.name, .slice L.A L.n L.c, .slice L.B L.m L.d]] w fun e w' => ∃ v, e = .returned v ∧ Ext w w' ∧ IsQ (plainQ q) v w' :=
  (ref_plain q L w hq hM).mono fun e w' ⟨L', h1, h2, h3⟩ => ⟨_, h1, h3, L', rfl, h2.qat⟩
/-- what the three containments say of each other -/
theorem orders_law {a b c : Qy} (h1 : (findR a b).2.2 = 0) (h2 : (findR b c).2.2 = 0) : (findR a c).2.2 = 0 ∧ ((findR a b).2.1 = true → (findR b c).2.1 = true → (findR a c).2.1 = true) := by
  rw [findR_err] at h1 h2
  obtain ⟨a1, b1, l1⟩ := shapesP_iff.1 h1
  obtain ⟨_, c1, l2⟩ := shapesP_iff.1 h2
  have hac := shapesP_iff.2 ⟨a1, c1, l1.trans l2⟩
  exact ⟨by rw [findR_err]; exact hac, fun h3 h4 => findR_yes.2 ⟨hac, Lies.trans b1.heads l1 (findR_yes.1 h3).2 (findR_yes.1 h4).2⟩⟩
theorem orders_bad {a b : Qy} (h : shapeQ a ≠ 0) : (findR a b).2.2 ≠ 0 := fun h1 => by
  rw [findR_err] at h1
  exact h (shapeQ_iff.2 (shapesP_iff.1 h1).1)
theorem findR_yes' {a b : Qy} (ha : Shaped a) (hb : Shaped b) (hl : a.head.length = b.head.length) (h : Lies a b) : (findR a b).2.1 = true ∧ (findR a b).2.2 = 0 :=
  ⟨findR_yes.2 ⟨shapesP_iff.2 ⟨ha, hb, hl⟩, h⟩, by rw [findR_err]; exact shapesP_iff.2 ⟨ha, hb, hl⟩⟩
theorem copy_atom_out (a : Atm) (B : Option Addr) (m d : Nat) (w : World) (hT : LAt RT 4 w B m a.terms) (hm : m ≤ 1048576) :
    Calls Try.prog 23 #[.agg #[.string a.rel, .slice B m d]] w fun e w' => ∃ u, e = .returned u ∧ Ext w w' ∧ ∃ g5, u = .agg #[.string a.rel, .slice (some ⟨g5, 0, none⟩) a.terms.length a.terms.length] ∧ w.heap.size ≤ g5 ∧ Blk w' g5 76 (tmC a.terms).toArray :=
  (copy_atom a B m d w hT (by omega)).mono fun e w' ⟨g5, h0, h1, h2, h3⟩ => ⟨_, h0, h3, g5, rfl, h1, h2⟩

set_option maxHeartbeats 8000000 in
set_option maxRecDepth 100000 in
theorem law_orders (a b c : Qy) (LA LB LC : QLoc) (w : World) (ha : QAt w LA a) (hMa : smallM 1048576 a) (hb : QAt w LB b) (hMb : smallM 1048576 b) (hc : QAt w LC c) (hMc : smallM 1048576 c) :
    Calls Try.prog 5 #[qval a.name LA, qval b.name LB, qval c.name LC] w fun e w' => e = .returned (.bool true) ∧ Ext w w' := by
  obtain ⟨i0, hi0, hz0, hz1, hz2⟩ := info_parts infoA
  have HCA := hide (fun w1 (h1 : Ext w w1) => copy_isq (ha.ext h1) hMa)
  have HCB := hide (fun w1 (h1 : Ext w w1) => copy_isq (hb.ext h1) hMb)
  have HCC := hide (fun w1 (h1 : Ext w w1) => copy_isq (hc.ext h1) hMc)
  have HCO := hide (fun w1 (h1 : Ext w w1) => copy_out a LA w1 (ha.ext h1) hMa)
  have HSA := hide (fun w1 (h1 : Ext w w1) => ref_shape a LA w1 (ha.ext h1) hMa)
  have HSB := hide (fun w1 (h1 : Ext w w1) => ref_shape b LB w1 (hb.ext h1) hMb)
  have HAB := hide (fun L1 L2 w1 (h1 : QAt w1 L1 a) (h2 : QAt w1 L2 b) => contains_any a b L1 L2 w1 h1 h2 hMa hMb)
  have HBC := hide (fun L1 L2 w1 (h1 : QAt w1 L1 b) (h2 : QAt w1 L2 c) => contains_any b c L1 L2 w1 h1 h2 hMb hMc)
  have HAC := hide (fun L1 L2 w1 (h1 : QAt w1 L1 a) (h2 : QAt w1 L2 c) => contains_any a c L1 L2 w1 h1 h2 hMa hMc)
  have HPL := hide (fun w1 (h1 : Ext w w1) => plain_isq (ha.ext h1) hMa)
  have HEQ := hide (fun (h0 : Shaped a) L1 L2 w1 (h1 : QAt w1 L1 a) (h2 : QAt w1 L2 (plainQ a)) => by
    have h3 := equal_any a (plainQ a) L1 L2 w1 h1 h2 hMa (plain_small h0 hMa)
    rw [eqR_yes h0 (plain_shaped h0) (by simp [plainQ]) (plain_on h0) (plain_back h0)] at h3
    exact h3)
  have HMO := hide (fun (h0 : Shaped a) (hsb : Shaped b) x (hx : x ∈ b.atoms) (hl : a.atoms.length < 6) L1 L2 w1 (h1 : QAt w1 L1 a) (h2 : QAt w1 L2 (moreQ a x)) => by
    have h3 := contains_any a (moreQ a x) L1 L2 w1 h1 h2 hMa (more_small hMa hl (hMb.atoms x hx))
    rw [(findR_yes' h0 (more_shaped h0 hsb hx hl) rfl (more_on h0)).1, (findR_yes' h0 (more_shaped h0 hsb hx hl) rfl (more_on h0)).2] at h3
    exact h3)
  have HOL := hide (@orders_law a b c)
  have HOB := hide (@orders_bad a b)
  have hla := hide (show LA.m = a.atoms.length from ha.atoms.len)
  have hlb := hide (show LB.m = b.atoms.length from hb.atoms.len)
  have HBQ := hide hb; have HMB := hide hMb
  have hrab := findR_rng a b
  have hrbc := findR_rng b c
  have hrac := findR_rng a c
  generalize findR a b = rab at *
  generalize findR b c = rbc at *
  generalize findR a c = rac at *
  obtain ⟨_, x, e⟩ := rab
  obtain ⟨_, y, f⟩ := rbc
  obtain ⟨_, z, g⟩ := rac
  dsimp only at *
  have HE := hide (((Ext.alloc w (.cells #[.string a.name, .slice LA.A LA.n LA.c, .slice LA.B LA.m LA.d] 25)).alloc' (.cells #[.string b.name, .slice LB.A LB.n LB.c, .slice LB.B LB.m LB.d] 25)).alloc' (.cells #[.string c.name, .slice LC.A LC.n LC.c, .slice LC.B LC.m LC.d] 25))
  have HBa := hide (((Blk.new w 25 #[.string a.name, .slice LA.A LA.n LA.c, .slice LA.B LA.m LA.d]).ext (Ext.alloc _ (.cells #[.string b.name, .slice LB.A LB.n LB.c, .slice LB.B LB.m LB.d] 25))).ext (Ext.alloc _ (.cells #[.string c.name, .slice LC.A LC.n LC.c, .slice LC.B LC.m LC.d] 25)))
  have HBb := hide ((show Blk ((w.alloc (.cells #[.string a.name, .slice LA.A LA.n LA.c, .slice LA.B LA.m LA.d] 25)).alloc (.cells #[.string b.name, .slice LB.A LB.n LB.c, .slice LB.B LB.m LB.d] 25)) (w.heap.size + 1) 25 #[.string b.name, .slice LB.A LB.n LB.c, .slice LB.B LB.m LB.d] from Blk.newAt (World.size_alloc _ _)).ext (Ext.alloc _ (.cells #[.string c.name, .slice LC.A LC.n LC.c, .slice LC.B LC.m LC.d] 25)))
  have HBc := hide (show Blk (((w.alloc (.cells #[.string a.name, .slice LA.A LA.n LA.c, .slice LA.B LA.m LA.d] 25)).alloc (.cells #[.string b.name, .slice LB.A LB.n LB.c, .slice LB.B LB.m LB.d] 25)).alloc (.cells #[.string c.name, .slice LC.A LC.n LC.c, .slice LC.B LC.m LC.d] 25)) (w.heap.size + 1 + 1) 25 #[.string c.name, .slice LC.A LC.n LC.c, .slice LC.B LC.m LC.d] from Blk.newAt (by rw [World.size_alloc, World.size_alloc]))
  generalize hW2 : ((w.alloc (.cells #[.string a.name, .slice LA.A LA.n LA.c, .slice LA.B LA.m LA.d] 25)).alloc (.cells #[.string b.name, .slice LB.A LB.n LB.c, .slice LB.B LB.m LB.d] 25)).alloc (.cells #[.string c.name, .slice LC.A LC.n LC.c, .slice LC.B LC.m LC.d] 25) = W2 at *
  have HW2 := hide hW2; clear hW2 ha hMa hb hMb hc hMc
  obtain ⟨A, n, cA, B, m, d⟩ := LA
  obtain ⟨A', n', c', B', m', d'⟩ := LB
  obtain ⟨A'', n'', c'', B'', m'', d''⟩ := LC
  simp only [qval] at *
  go_enter Try.func5, Try.ntmps5
  go_wp2_with fail
  rw [HW2.out]
  have X0 := hide (Ext.refl W2)
  have a0 := cell_ext (show W2.cell? ⟨w.heap.size, 0, none⟩ = some (.string a.name) from (HBa.out.ext X0.out).cell 0)
  have a1 := cell_ext (show W2.cell? ⟨w.heap.size, 1, none⟩ = some (.slice A n cA) from (HBa.out.ext X0.out).cell 1)
  have a2 := cell_ext (show W2.cell? ⟨w.heap.size, 2, none⟩ = some (.slice B m d) from (HBa.out.ext X0.out).cell 2)
  have b0 := cell_ext (show W2.cell? ⟨w.heap.size + 1, 0, none⟩ = some (.string b.name) from (HBb.out.ext X0.out).cell 0)
  have b1 := cell_ext (show W2.cell? ⟨w.heap.size + 1, 1, none⟩ = some (.slice A' n' c') from (HBb.out.ext X0.out).cell 1)
  have b2 := cell_ext (show W2.cell? ⟨w.heap.size + 1, 2, none⟩ = some (.slice B' m' d') from (HBb.out.ext X0.out).cell 2)
  refine wp_region_ext 10 (by kernel_rfl) (by kernel_rfl) (by kernel_rfl) ?_
  iterate 1
    refine wpE_k (by kernel_rfl) (by kernel_rfl) ?_
    apply Exists.intro
    refine ⟨fun w1 hw1 => ?_, fun K hK => ?_⟩
    · go_simp; first | done | rfl
    go_simp; refine hK _ _ ?_; clear hK K
  refine wpE_p [] (IsQ a) (fun u w1 w2 _ h2 h => h.ext h2) rfl (by kernel_rfl) (fun w1 hw1 => ?_) ?_
  · simp only [LookQ]
    clear a0 a1 a2 b0 b1 b2
    go_simp
    exact ⟨Ext.refl _, HCA.out w1 (HE.out.trans hw1)⟩
  iterate 1
    refine wpE_k (by kernel_rfl) (by kernel_rfl) ?_
    apply Exists.intro
    refine ⟨fun w1 hw1 => ?_, fun K hK => ?_⟩
    · go_simp; first | done | rfl
    go_simp; refine hK _ _ ?_; clear hK K
  refine wpE_p [] (IsQ b) (fun u w1 w2 _ h2 h => h.ext h2) rfl (by kernel_rfl) (fun w1 hw1 => ?_) ?_
  · simp only [LookQ]
    clear a0 a1 a2 b0 b1 b2
    go_simp
    exact ⟨Ext.refl _, HCB.out w1 (HE.out.trans hw1)⟩
  refine wpE_kp [20, 22] (.tuple #[.bool x, .int .i64 e]) (by kernel_rfl) (by kernel_rfl) (fun w1 hw1 => ?_) (fun K hK => ?_)
  · simp only [LookQ]
    intro u hu v hv
    obtain ⟨L1, rfl, h1⟩ := hu _ rfl
    obtain ⟨L2, rfl, h2⟩ := hv _ rfl
    clear hu hv a0 a1 a2 b0 b1 b2
    go_simp
    exact ⟨Ext.refl _, HAB.out L1 L2 w1 h1 h2⟩
  go_simp; refine hK _ _ ?_; clear hK K
  iterate 5
    refine wpE_k (by kernel_rfl) (by kernel_rfl) ?_
    apply Exists.intro
    refine ⟨fun w1 hw1 => ?_, fun K hK => ?_⟩
    · go_simp; first | done | rfl
    go_simp; refine hK _ _ ?_; clear hK K
  refine wpE_nil ⟨rfl, by kernel_rfl, fun wq hwq => ?_⟩
  simp only [EndQ, List.drop]
  intro u _ v _
  refine wpList_nil ?_
  clear a0 a1 a2 b0 b1 b2
  have X1 := hide hwq; clear hwq
  rename World => w1
  go_wp2_with fail
  have b0 := cell_ext (show w1.cell? ⟨w.heap.size + 1, 0, none⟩ = some (.string b.name) from (HBb.out.ext X1.out).cell 0)
  have b1 := cell_ext (show w1.cell? ⟨w.heap.size + 1, 1, none⟩ = some (.slice A' n' c') from (HBb.out.ext X1.out).cell 1)
  have b2 := cell_ext (show w1.cell? ⟨w.heap.size + 1, 2, none⟩ = some (.slice B' m' d') from (HBb.out.ext X1.out).cell 2)
  have c0 := cell_ext (show w1.cell? ⟨w.heap.size + 1 + 1, 0, none⟩ = some (.string c.name) from (HBc.out.ext X1.out).cell 0)
  have c1 := cell_ext (show w1.cell? ⟨w.heap.size + 1 + 1, 1, none⟩ = some (.slice A'' n'' c'') from (HBc.out.ext X1.out).cell 1)
  have c2 := cell_ext (show w1.cell? ⟨w.heap.size + 1 + 1, 2, none⟩ = some (.slice B'' m'' d'') from (HBc.out.ext X1.out).cell 2)
  refine wp_region_ext 10 (by kernel_rfl) (by kernel_rfl) (by kernel_rfl) ?_
  iterate 1
    refine wpE_k (by kernel_rfl) (by kernel_rfl) ?_
    apply Exists.intro
    refine ⟨fun w1 hw1 => ?_, fun K hK => ?_⟩
    · go_simp; first | done | rfl
    go_simp; refine hK _ _ ?_; clear hK K
  refine wpE_p [] (IsQ b) (fun u w1 w2 _ h2 h => h.ext h2) rfl (by kernel_rfl) (fun w1 hw1 => ?_) ?_
  · simp only [LookQ]
    clear b0 b1 b2 c0 c1 c2
    go_simp
    exact ⟨Ext.refl _, HCB.out w1 ((HE.out.trans X1.out).trans hw1)⟩
  iterate 1
    refine wpE_k (by kernel_rfl) (by kernel_rfl) ?_
    apply Exists.intro
    refine ⟨fun w1 hw1 => ?_, fun K hK => ?_⟩
    · go_simp; first | done | rfl
    go_simp; refine hK _ _ ?_; clear hK K
  refine wpE_p [] (IsQ c) (fun u w1 w2 _ h2 h => h.ext h2) rfl (by kernel_rfl) (fun w1 hw1 => ?_) ?_
  · simp only [LookQ]
    clear b0 b1 b2 c0 c1 c2
    go_simp
    exact ⟨Ext.refl _, HCC.out w1 ((HE.out.trans X1.out).trans hw1)⟩
  refine wpE_kp [28, 30] (.tuple #[.bool y, .int .i64 f]) (by kernel_rfl) (by kernel_rfl) (fun w1 hw1 => ?_) (fun K hK => ?_)
  · simp only [LookQ]
    intro u hu v hv
    obtain ⟨L1, rfl, h1⟩ := hu _ rfl
    obtain ⟨L2, rfl, h2⟩ := hv _ rfl
    clear hu hv b0 b1 b2 c0 c1 c2
    go_simp
    exact ⟨Ext.refl _, HBC.out L1 L2 w1 h1 h2⟩
  go_simp; refine hK _ _ ?_; clear hK K
  iterate 5
    refine wpE_k (by kernel_rfl) (by kernel_rfl) ?_
    apply Exists.intro
    refine ⟨fun w1 hw1 => ?_, fun K hK => ?_⟩
    · go_simp; first | done | rfl
    go_simp; refine hK _ _ ?_; clear hK K
  refine wpE_nil ⟨rfl, by kernel_rfl, fun wq hwq => ?_⟩
  simp only [EndQ, List.drop]
  intro u _ v _
  refine wpList_nil ?_
  clear b0 b1 b2 c0 c1 c2
  have X2 := hide (X1.out.trans hwq); clear hwq
  rename World => w2
  go_wp2_with fail
  have a0 := cell_ext (show w2.cell? ⟨w.heap.size, 0, none⟩ = some (.string a.name) from (HBa.out.ext X2.out).cell 0)
  have a1 := cell_ext (show w2.cell? ⟨w.heap.size, 1, none⟩ = some (.slice A n cA) from (HBa.out.ext X2.out).cell 1)
  have a2 := cell_ext (show w2.cell? ⟨w.heap.size, 2, none⟩ = some (.slice B m d) from (HBa.out.ext X2.out).cell 2)
  have c0 := cell_ext (show w2.cell? ⟨w.heap.size + 1 + 1, 0, none⟩ = some (.string c.name) from (HBc.out.ext X2.out).cell 0)
  have c1 := cell_ext (show w2.cell? ⟨w.heap.size + 1 + 1, 1, none⟩ = some (.slice A'' n'' c'') from (HBc.out.ext X2.out).cell 1)
  have c2 := cell_ext (show w2.cell? ⟨w.heap.size + 1 + 1, 2, none⟩ = some (.slice B'' m'' d'') from (HBc.out.ext X2.out).cell 2)
  refine wp_region_ext 10 (by kernel_rfl) (by kernel_rfl) (by kernel_rfl) ?_
  iterate 1
    refine wpE_k (by kernel_rfl) (by kernel_rfl) ?_
    apply Exists.intro
    refine ⟨fun w1 hw1 => ?_, fun K hK => ?_⟩
    · go_simp; first | done | rfl
    go_simp; refine hK _ _ ?_; clear hK K
  refine wpE_p [] (IsQ a) (fun u w1 w2 _ h2 h => h.ext h2) rfl (by kernel_rfl) (fun w1 hw1 => ?_) ?_
  · simp only [LookQ]
    clear a0 a1 a2 c0 c1 c2
    go_simp
    exact ⟨Ext.refl _, HCA.out w1 ((HE.out.trans X2.out).trans hw1)⟩
  iterate 1
    refine wpE_k (by kernel_rfl) (by kernel_rfl) ?_
    apply Exists.intro
    refine ⟨fun w1 hw1 => ?_, fun K hK => ?_⟩
    · go_simp; first | done | rfl
    go_simp; refine hK _ _ ?_; clear hK K
  refine wpE_p [] (IsQ c) (fun u w1 w2 _ h2 h => h.ext h2) rfl (by kernel_rfl) (fun w1 hw1 => ?_) ?_
  · simp only [LookQ]
    clear a0 a1 a2 c0 c1 c2
    go_simp
    exact ⟨Ext.refl _, HCC.out w1 ((HE.out.trans X2.out).trans hw1)⟩
  refine wpE_kp [36, 38] (.tuple #[.bool z, .int .i64 g]) (by kernel_rfl) (by kernel_rfl) (fun w1 hw1 => ?_) (fun K hK => ?_)
  · simp only [LookQ]
    intro u hu v hv
    obtain ⟨L1, rfl, h1⟩ := hu _ rfl
    obtain ⟨L2, rfl, h2⟩ := hv _ rfl
    clear hu hv a0 a1 a2 c0 c1 c2
    go_simp
    exact ⟨Ext.refl _, HAC.out L1 L2 w1 h1 h2⟩
  go_simp; refine hK _ _ ?_; clear hK K
  iterate 5
    refine wpE_k (by kernel_rfl) (by kernel_rfl) ?_
    apply Exists.intro
    refine ⟨fun w1 hw1 => ?_, fun K hK => ?_⟩
    · go_simp; first | done | rfl
    go_simp; refine hK _ _ ?_; clear hK K
  refine wpE_nil ⟨rfl, by kernel_rfl, fun wq hwq => ?_⟩
  simp only [EndQ, List.drop]
  intro u _ v _
  refine wpList_nil ?_
  clear a0 a1 a2 c0 c1 c2
  have X3 := hide (X2.out.trans hwq); clear hwq
  rename World => w3
  go_simp
  go_upto_region 4 with fail
  go_cut [61] from 119 (fun s61 wx => s61 = .bool false ∧ w3 = wx)
  case first =>
    by_cases he : e = 0
    · subst he
      by_cases hf : f = 0
      · subst hf
        obtain ⟨rfl, hxyz⟩ := HOL.out rfl rfl
        have HXYZ := hide hxyz; clear hxyz
        cases x with
        | false =>
          go_wp2_with fail
          go_meet
          exact ⟨rfl, rfl⟩
        | true =>
          cases y with
          | false =>
            go_wp2_with fail
            go_meet
            exact ⟨rfl, rfl⟩
          | true =>
            obtain rfl := HXYZ.out rfl rfl
            go_wp2_with fail
            go_meet
            exact ⟨rfl, rfl⟩
      · have hf1 : (f == 0) = false := by simpa using hf
        clear hf
        go_wp2_with fail
        go_meet
        exact ⟨rfl, rfl⟩
    · have he1 : (e == 0) = false := by simpa using he
      clear he
      go_wp2_with fail
      go_meet
      exact ⟨rfl, rfl⟩
  case rest =>
    obtain ⟨rfl, rfl⟩ := hcut
    have a0 : w3.cell? ⟨w.heap.size, 0, none⟩ = some (.string a.name) := (HBa.out.ext X3.out).cell 0
    have a1 : w3.cell? ⟨w.heap.size, 1, none⟩ = some (.slice A n cA) := (HBa.out.ext X3.out).cell 1
    have a2 : w3.cell? ⟨w.heap.size, 2, none⟩ = some (.slice B m d) := (HBa.out.ext X3.out).cell 2
    by_cases hsa : shapeQ a = 0
    · have hS := shapeQ_iff.1 hsa
      rw [hsa] at HSA
      have HS := hide hS
      clear hsa hS HOB
      go_wp2_with ((with_reducible refine (HSA.out _ (HE.out.trans X3.out)).mono ?_); rintro e w4 ⟨rfl, x4⟩; have X4 := hide (X3.out.trans x4); clear x4 a0 a1 a2)
      have a0 := cell_ext (show w4.cell? ⟨w.heap.size, 0, none⟩ = some (.string a.name) from (HBa.out.ext X4.out).cell 0)
      have a1 := cell_ext (show w4.cell? ⟨w.heap.size, 1, none⟩ = some (.slice A n cA) from (HBa.out.ext X4.out).cell 1)
      have a2 := cell_ext (show w4.cell? ⟨w.heap.size, 2, none⟩ = some (.slice B m d) from (HBa.out.ext X4.out).cell 2)
      refine wp_region_ext 10 (by kernel_rfl) (by kernel_rfl) (by kernel_rfl) ?_
      iterate 1
        refine wpE_k (by kernel_rfl) (by kernel_rfl) ?_
        apply Exists.intro
        refine ⟨fun w1 hw1 => ?_, fun K hK => ?_⟩
        · go_simp; first | done | rfl
        go_simp; refine hK _ _ ?_; clear hK K
      refine wpE_p [] (IsQ a) (fun u w1 w2 _ h2 h => h.ext h2) rfl (by kernel_rfl) (fun w1 hw1 => ?_) ?_
      · simp only [LookQ]
        clear a0 a1 a2
        go_simp
        exact ⟨Ext.refl _, HCA.out w1 ((HE.out.trans X4.out).trans hw1)⟩
      iterate 1
        refine wpE_k (by kernel_rfl) (by kernel_rfl) ?_
        apply Exists.intro
        refine ⟨fun w1 hw1 => ?_, fun K hK => ?_⟩
        · go_simp; first | done | rfl
        go_simp; refine hK _ _ ?_; clear hK K
      refine wpE_p [] (IsQ (plainQ a)) (fun u w1 w2 _ h2 h => h.ext h2) rfl (by kernel_rfl) (fun w1 hw1 => ?_) ?_
      · simp only [LookQ]
        clear a0 a1 a2
        go_simp
        exact ⟨Ext.refl _, HPL.out w1 ((HE.out.trans X4.out).trans hw1)⟩
      refine wpE_kp [72, 74] (.tuple #[.bool true, .int .i64 0]) (by kernel_rfl) (by kernel_rfl) (fun w1 hw1 => ?_) (fun K hK => ?_)
      · simp only [LookQ]
        intro u hu v hv
        obtain ⟨L1, rfl, h1⟩ := hu _ rfl
        obtain ⟨L2, rfl, h2⟩ := hv _ rfl
        clear hu hv a0 a1 a2
        go_simp
        exact ⟨Ext.refl _, HEQ.out HS.out L1 L2 w1 h1 h2⟩
      go_simp; refine hK _ _ ?_; clear hK K
      iterate 5
        refine wpE_k (by kernel_rfl) (by kernel_rfl) ?_
        apply Exists.intro
        refine ⟨fun w1 hw1 => ?_, fun K hK => ?_⟩
        · go_simp; first | done | rfl
        go_simp; refine hK _ _ ?_; clear hK K
      refine wpE_nil ⟨rfl, by kernel_rfl, fun wq hwq => ?_⟩
      simp only [EndQ, List.drop]
      intro u _ v _
      refine wpList_nil ?_
      clear a0 a1 a2
      have X5 := hide (X4.out.trans hwq); clear hwq
      rename World => w5
      have b0 : w5.cell? ⟨w.heap.size + 1, 0, none⟩ = some (.string b.name) := (HBb.out.ext X5.out).cell 0
      have b1 : w5.cell? ⟨w.heap.size + 1, 1, none⟩ = some (.slice A' n' c') := (HBb.out.ext X5.out).cell 1
      have b2 : w5.cell? ⟨w.heap.size + 1, 2, none⟩ = some (.slice B' m' d') := (HBb.out.ext X5.out).cell 2
      have a2 : w5.cell? ⟨w.heap.size, 2, none⟩ = some (.slice B m d) := (HBa.out.ext X5.out).cell 2
      by_cases hsb : shapeQ b = 0
      · have hT := shapeQ_iff.1 hsb
        have HT := hide hT
        rw [hsb] at HSB
        clear hsb hT
        by_cases hm6 : m < 6
        · have hm6' : decide ((m : Int) < 6) = true := by simp; omega
          have hl6 := hide (show a.atoms.length < 6 by have := hla.out; omega)
          clear a2
          go_wp2_with (first
            | ((with_reducible refine (HSB.out _ (HE.out.trans X5.out)).mono ?_); rintro e w6 ⟨rfl, x6⟩; have X6 := hide (X5.out.trans x6); clear x6 b0 b1 b2
               have a0 : w6.cell? ⟨w.heap.size, 0, none⟩ = some (.string a.name) := (HBa.out.ext X6.out).cell 0
               have a1 : w6.cell? ⟨w.heap.size, 1, none⟩ = some (.slice A n cA) := (HBa.out.ext X6.out).cell 1
               have a2 : w6.cell? ⟨w.heap.size, 2, none⟩ = some (.slice B m d) := (HBa.out.ext X6.out).cell 2)
            | ((with_reducible refine (HCO.out _ (HE.out.trans X6.out)).mono ?_); rintro e w7 ⟨Ac, nc, cc, Bc, mc, dc, rfl, hc, h1⟩; have X7 := hide (X6.out.trans h1); have HC := hide hc; have X67 := hide h1; clear h1 hc a0 a1 a2))
          obtain ⟨gh, _, hAh, hnh, hch, hBh⟩ := HC.out.head
          obtain ⟨ps, pcells, h5, h6, h7, h8, _, _⟩ := HC.out.atoms
          dsimp only at hAh hnh hch h7 h8
          subst hAh; subst hnh; subst hch
          have HV := hide (Blk.new w7 25 #[.string a.name, .slice (some ⟨gh, 0, none⟩) a.head.length a.head.length, .slice Bc mc dc])
          have HX8 := hide (Ext.alloc w7 (.cells #[.string a.name, .slice (some ⟨gh, 0, none⟩) a.head.length a.head.length, .slice Bc mc dc] 25))
          have HX68 := hide (X67.out.trans HX8.out)
          have HR8 := hide (own_ext h8 HX8.out)
          have HP8 := hide (h6.ext RCp.stab HX8.out)
          have HH8 := hide (hBh.ext HX8.out)
          have HPS := hide h5
          have hmc := hide (show mc = ps.length from h7)
          have hg8 := hide (show w6.heap.size ≤ w7.heap.size from X67.out.size)
          clear hBh h5 h6 h7 h8
          generalize hW8 : w7.alloc (.cells #[.string a.name, .slice (some ⟨gh, 0, none⟩) a.head.length a.head.length, .slice Bc mc dc] 25) = W8 at *
          clear hW8
          generalize hgv : w7.heap.size = gv at *
          clear hgv
          have X8 := hide (X7.out.trans HX8.out)
          have hmb := hide (show 0 < m' by have := HT.out.some; have := hlb.out; omega)
          have hmb' : 0 < m' := hmb.out
          obtain ⟨bb, boff, xa, B1, m1, d1, rfl, hx, hb1, c0, c1, hTx⟩ := HBQ.out.atoms.at_ (i := 0) hmb.out
          simp only [Nat.zero_mul, Nat.add_zero] at c0 c1
          have c0 := cell_ext ((HE.out.trans X8.out).cell c0)
          have c1 := cell_ext ((HE.out.trans X8.out).cell c1)
          have hxm := hide (show xa ∈ b.atoms from List.mem_of_getElem? hx)
          have HCX := hide (fun w1 (h1 : Ext W8 w1) => copy_atom_out xa B1 m1 d1 w1 (hTx.ext RT.stab (HE.out.trans (X8.out.trans h1))) (by have := (HMB.out.atoms xa hxm.out).len; have := hTx.len; omega))
          clear hx hb1 hTx
          have v2 := cell_ext (show W8.cell? ⟨gv, 2, none⟩ = some (.slice Bc mc dc) from HV.out.cell 2)
          have b2 := cell_ext (show W8.cell? ⟨w.heap.size + 1, 2, none⟩ = some (.slice (some ⟨bb, boff, none⟩) m' d') from (HBb.out.ext X8.out).cell 2)
          refine wp_region_ext 8 (by kernel_rfl) (by kernel_rfl) (by kernel_rfl) ?_
          iterate 6
            refine wpE_k (by kernel_rfl) (by kernel_rfl) ?_
            apply Exists.intro
            refine ⟨fun w1 hw1 => ?_, fun K hK => ?_⟩
            · go_simp; first | done | rfl
            go_simp; refine hK _ _ ?_; clear hK K
          clear v2 b2 c0 c1
          refine wpE_p [] (fun u w1 => ∃ g5, u = .agg #[.string xa.rel, .slice (some ⟨g5, 0, none⟩) xa.terms.length xa.terms.length] ∧ Blk w1 g5 76 (tmC xa.terms).toArray) (fun u w1 w2 _ h2 ⟨g5, h3, h5⟩ => ⟨g5, h3, h5.ext h2⟩) rfl (by kernel_rfl) (fun w1 hw1 => ?_) ?_
          · simp only [LookQ]
            go_simp
            refine ⟨Ext.refl _, (HCX.out w1 hw1).mono ?_⟩
            rintro e w2 ⟨u, rfl, h3, g5, rfl, h1, h2⟩
            exact ⟨_, rfl, h3, g5, rfl, h2⟩
          refine wpE_p [101] (fun u w1 => ∃ gb g5, u = .slice (some ⟨gb, 0, none⟩) 1 1 ∧ Blk w1 gb 43 #[.string xa.rel, .slice (some ⟨g5, 0, none⟩) xa.terms.length xa.terms.length] ∧ Blk w1 g5 76 (tmC xa.terms).toArray)
            (fun u w1 w2 _ h2 ⟨gb, g5, h3, h5, h7⟩ => ⟨gb, g5, h3, h5.ext h2, h7.ext h2⟩) rfl (by kernel_rfl) (fun w1 hw1 => ?_) ?_
          · simp only [LookQ]
            intro u hu
            obtain ⟨g5, rfl, hB5⟩ := hu _ rfl
            clear hu
            go_simp
            exact ⟨Ext.alloc _ _, g5, Blk.new _ _ _, hB5.ext (Ext.alloc _ _)⟩
          refine wpE_nil ⟨rfl, by kernel_rfl, fun w9 hw9 => ?_⟩
          simp only [EndQ]
          rintro _ ⟨gb, g5, rfl, hBb, hB5⟩ _ ⟨_, rfl, _⟩
          simp only [List.drop]
          have Hsrc := hide (show Sl w9 (some ⟨gb, 0, none⟩) 1 2 [.string xa.rel, .slice (some ⟨g5, 0, none⟩) xa.terms.length xa.terms.length] from hBb.sl (n := 1) (size := 2) rfl)
          have HB5 := hide hB5; have HW9 := hide hw9
          have HR9 := hide (own_ext HR8.out hw9)
          have HV9 := hide (HV.out.ext hw9)
          have HP9 := hide (HP8.out.ext RCp.stab hw9)
          have HH9 := hide (HH8.out.ext hw9)
          clear hBb hB5 hw9
          have v2 : w9.cell? ⟨gv, 2, none⟩ = some (.slice Bc mc dc) := HV9.out.cell 2
          have f9 := HV9.out.frozen 2
          have hgb : gv < w9.heap.size := HV9.out.lt
          have hn2 : some gv ≠ (Value.slice Bc mc dc).ownBlock := own_ne_blk HR9.out HV9.out (by decide)
          have hmc6 : mc < 6 := by have h1 := congrArg List.length HPS.out; rw [List.length_map] at h1; have := hmc.out; have := hl6.out; omega
          go_wp2_with (at_builtin; refine wpList_append_sl rfl (.tmp 96) (.tmp 102) _ rfl 43 i0 _ 2 40 Try.underlying23 hi0 hz0 hz1 hz2 rfl (by omega) w6 (HX68.out.trans HW9.out) (.slice Bc mc dc) mc pcells rfl HR9.out _ 1 1 _ rfl Hsrc.out (cp_one (xa, g5)) (by unfold maxLen; omega) (by omega) ?_; intro A9 c9 wa own9 E9 G9 L9; have v9 : wa.cell? ⟨gv, 2, none⟩ = some (.slice Bc mc dc) := G9.out.cell v2 hn2; have f9 : wa.frozen? ⟨gv, 2, none⟩ = false := (World.frozen?_of_block (a := ⟨gv, 2, none⟩) (G9.out.block gv hgb hn2)).trans f9)
          have VA := hide (show Blk (wa.setCell ⟨gv, 2, none⟩ (.slice A9 (mc + 1) c9)) gv 25 #[.string a.name, .slice (some ⟨gh, 0, none⟩) a.head.length a.head.length, .slice A9 (mc + 1) c9] by
            have := (HV9.out.grown G9.out hn2).set_ 2 (.slice A9 (mc + 1) c9)
            simpa using this)
          have hstep : ∀ (g' : Nat) (t : TypeId) (cs : Array Value), 43 ≠ t → t ≠ 25 → Blk w9 g' t cs → Blk (wa.setCell ⟨gv, 2, none⟩ (.slice A9 (mc + 1) c9)) g' t cs := fun g' t cs ht ht2 hb => by
            have h8 := hb.grown G9.out (own_ne_blk HR9.out hb ht)
            exact h8.far (p := ⟨gv, 2, none⟩) (blk_ne h8 (HV9.out.grown G9.out hn2) ht2) _
          have HQM := hide (show QAt (wa.setCell ⟨gv, 2, none⟩ (.slice A9 (mc + 1) c9)) ⟨some ⟨gh, 0, none⟩, a.head.length, a.head.length, A9, mc + 1, c9⟩ (moreQ a xa) from by
            have hels : Els RCp 2 (wa.setCell ⟨gv, 2, none⟩ (.slice A9 (mc + 1) c9)) (pcells ++ [.string xa.rel, .slice (some ⟨g5, 0, none⟩) xa.terms.length xa.terms.length]) (ps ++ [(xa, g5)]) :=
              Els.snoc (x := (xa, g5)) (HP9.out.mono fun cs p hp => ⟨hp.1, hstep _ _ _ (by decide) (by decide) hp.2⟩) rfl (cp_one (xa, g5)) ⟨rfl, hstep _ _ _ (by decide) (by decide) HB5.out⟩
            have h9 := els_atoms hels
            rw [List.map_append, HPS.out] at h9
            refine ⟨blk_texts (hstep _ _ _ (by decide) (by decide) HH9.out), LAt.own ?_ h9 (own_set own9.out (HV9.out.grown G9.out hn2) (by decide) 2 _), Nat.le_refl _⟩
            have h1 := congrArg List.length HPS.out
            rw [List.length_map] at h1
            have := hmc.out
            simp [moreQ]
            omega)
          have XA := hide (X6.out.trans (E9.out.setCell (p := ⟨gv, 2, none⟩) hg8.out (.slice A9 (mc + 1) c9)))
          clear hstep v9 f9 v2
          generalize hWA : wa.setCell ⟨gv, 2, none⟩ (.slice A9 (mc + 1) c9) = WA at *
          clear hWA
          have a0 := cell_ext (show WA.cell? ⟨w.heap.size, 0, none⟩ = some (.string a.name) from (HBa.out.ext XA.out).cell 0)
          have a1 := cell_ext (show WA.cell? ⟨w.heap.size, 1, none⟩ = some (.slice A n cA) from (HBa.out.ext XA.out).cell 1)
          have a2 := cell_ext (show WA.cell? ⟨w.heap.size, 2, none⟩ = some (.slice B m d) from (HBa.out.ext XA.out).cell 2)
          have v0 := cell_ext (show WA.cell? ⟨gv, 0, none⟩ = some (.string a.name) from VA.out.cell 0)
          have v1 := cell_ext (show WA.cell? ⟨gv, 1, none⟩ = some (.slice (some ⟨gh, 0, none⟩) a.head.length a.head.length) from VA.out.cell 1)
          have v2 := cell_ext (show WA.cell? ⟨gv, 2, none⟩ = some (.slice A9 (mc + 1) c9) from VA.out.cell 2)
          refine wp_region_ext 9 (by kernel_rfl) (by kernel_rfl) (by kernel_rfl) ?_
          iterate 1
            refine wpE_k (by kernel_rfl) (by kernel_rfl) ?_
            apply Exists.intro
            refine ⟨fun w1 hw1 => ?_, fun K hK => ?_⟩
            · go_simp; first | done | rfl
            go_simp; refine hK _ _ ?_; clear hK K
          refine wpE_p [] (IsQ a) (fun u w1 w2 _ h2 h => h.ext h2) rfl (by kernel_rfl) (fun w1 hw1 => ?_) ?_
          · simp only [LookQ]
            clear a0 a1 a2 v0 v1 v2
            go_simp
            exact ⟨Ext.refl _, HCA.out w1 ((HE.out.trans XA.out).trans hw1)⟩
          iterate 1
            refine wpE_k (by kernel_rfl) (by kernel_rfl) ?_
            apply Exists.intro
            refine ⟨fun w1 hw1 => ?_, fun K hK => ?_⟩
            · go_simp; first | done | rfl
            go_simp; refine hK _ _ ?_; clear hK K
          refine wpE_kp [107] (.tuple #[.bool true, .int .i64 0]) (by kernel_rfl) (by kernel_rfl) (fun w1 hw1 => ?_) (fun K hK => ?_)
          · simp only [LookQ]
            intro u hu
            obtain ⟨L1, rfl, h1⟩ := hu _ rfl
            clear hu a0 a1 a2 v0 v1 v2
            go_simp
            exact ⟨Ext.refl _, HMO.out HS.out HT.out xa hxm.out hl6.out L1 ⟨some ⟨gh, 0, none⟩, a.head.length, a.head.length, A9, mc + 1, c9⟩ w1 h1 (HQM.out.ext hw1)⟩
          go_simp; refine hK _ _ ?_; clear hK K
          iterate 5
            refine wpE_k (by kernel_rfl) (by kernel_rfl) ?_
            apply Exists.intro
            refine ⟨fun w1 hw1 => ?_, fun K hK => ?_⟩
            · go_simp; first | done | rfl
            go_simp; refine hK _ _ ?_; clear hK K
          refine wpE_nil ⟨rfl, by kernel_rfl, fun wq hwq => ?_⟩
          simp only [EndQ, List.drop]
          intro u _
          refine wpList_nil ?_
          clear a0 a1 a2 v0 v1 v2
          have XB := hide (XA.out.trans hwq); clear hwq
          go_wp2_with ((with_reducible refine (awake_any _).mono ?_); rintro e wb ⟨rfl, xb⟩; have XC := hide (XB.out.trans xb); clear xb)
          go_ret
          exact ⟨rfl, HE.out.trans XC.out⟩
        · have hm6' : decide ((m : Int) < 6) = false := by simp; omega
          go_wp2_with (first
            | ((with_reducible refine (HSB.out _ (HE.out.trans X5.out)).mono ?_); rintro e w6 ⟨rfl, x6⟩; have X6 := hide (X5.out.trans x6); clear x6 b0 b1 b2
               have a2 : w6.cell? ⟨w.heap.size, 2, none⟩ = some (.slice B m d) := (HBa.out.ext X6.out).cell 2)
            | ((with_reducible refine (awake_any _).mono ?_); rintro e wb ⟨rfl, xb⟩; have XC := hide (X6.out.trans xb); clear xb))
          go_ret
          exact ⟨rfl, HE.out.trans XC.out⟩
      · have hsb1 : (shapeQ b == 0) = false := by simpa using hsb
        generalize shapeQ b = sb at *
        clear hsb
        go_wp2_with (first
          | ((with_reducible refine (HSB.out _ (HE.out.trans X5.out)).mono ?_); rintro e w6 ⟨rfl, x6⟩; have X6 := hide (X5.out.trans x6); clear x6 b0 b1 b2 a2)
          | ((with_reducible refine (awake_any _).mono ?_); rintro e wb ⟨rfl, xb⟩; have XC := hide (X6.out.trans xb); clear xb))
        go_ret
        exact ⟨rfl, HE.out.trans XC.out⟩
    · have hsa1 : (shapeQ a != 0) = true := by simpa using hsa
      have he1 : (e != 0) = true := by have := HOB.out hsa; simpa using this
      generalize shapeQ a = sa at *
      clear hsa
      go_wp2_with (first
        | ((with_reducible refine (HSA.out _ (HE.out.trans X3.out)).mono ?_); rintro e w4 ⟨rfl, x4⟩; have X4 := hide (X3.out.trans x4); clear x4 a0 a1 a2)
        | ((with_reducible refine (awake_any _).mono ?_); rintro e wb ⟨rfl, xb⟩; have XC := hide (X4.out.trans xb); clear xb))
      go_ret
      exact ⟨rfl, HE.out.trans XC.out⟩
end Go.Proofs.Ythjpcnceppmnmaa
