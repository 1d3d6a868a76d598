/-
  ContainFinds: the walk.
-/
import Derived.Test.YthjpcnceppmnmaaLawCmp
import Derived.Test.YthjpcnceppmnmaaExt3
namespace Go.Proofs.Ythjpcnceppmnmaa
open Go.RowKit

/-- a variable that was made: nothing in it yet -/
def VarQ (w0 : World) : Value → World → Prop := fun u w => ∃ g, u = .pointer (some ⟨g, 0, none⟩) ∧ w0.heap.size ≤ g ∧ Blk w g 25 #[.string .empty, .slice none 0 0, .slice none 0 0]
theorem VarQ.ext {w0 : World} {u : Value} {w w' : World} (hw : Ext w w') (h : VarQ w0 u w) : VarQ w0 u w' := by
  obtain ⟨g, h1, h2, h3⟩ := h
  exact ⟨g, h1, h2, h3.ext hw⟩

/-- a copy, wherever it begins -/
def IsC (q : Qy) : Value → World → Prop := fun u w => ∃ w0 L, u = qval q.name L ∧ Copied w0 w L q
theorem IsC.ext {q : Qy} {u : Value} {w w' : World} (hw : Ext w w') (h : IsC q u w) : IsC q u w' := by
  obtain ⟨w0, L, h1, h2⟩ := h
  exact ⟨w0, L, h1, h2.ext hw⟩
theorem copy_isc {q : Qy} {L : QLoc} {w : World} (hq : QAt w L q) (hM : smallM 1048576 q) :
    Calls Try.prog 12 #[.agg #[.string q.name, .slice L.A L.n L.c, .slice L.B L.m L.d]] w fun e w' => ∃ v, e = .returned v ∧ Ext w w' ∧ IsC q v w' :=
  (copy_query q L w hq hM).mono fun e w' ⟨L', h1, h2, h3⟩ => ⟨_, h1, h3, w, L', rfl, h2⟩
theorem Copied.set {w0 w : World} {L : QLoc} {q : Qy} (h : Copied w0 w L q) {g : Nat} {cs : Array Value} (hb : Blk w g 25 cs) (i : Nat) (u : Value) : Copied w0 (w.setCell ⟨g, i, none⟩ u) L q := by
  obtain ⟨g1, h0, h1, h2, h3, h4⟩ := h.head
  obtain ⟨ps, cells, h5, h6, h7, h8, h9, h10⟩ := h.atoms
  refine ⟨⟨g1, h0, h1, h2, h3, h4.far (blk_ne h4 hb (by decide)) u⟩, ⟨ps, cells, h5, h6.mono (fun cs p ⟨e1, e2⟩ => ⟨e1, e2.far (blk_ne e2 hb (by decide)) u⟩), h7, own_set h8 hb (by decide) i u, h9, h10⟩⟩
theorem blk_set3 {w : World} {g : Nat} {t : TypeId} {c0 c1 c2 : Value} (h : Blk w g t #[c0, c1, c2]) (x0 x1 x2 : Value) : Blk (((w.setCell ⟨g, 0, none⟩ x0).setCell ⟨g, 1, none⟩ x1).setCell ⟨g, 2, none⟩ x2) g t #[x0, x1, x2] := by
  have := ((h.set_ 0 x0).set_ 1 x1).set_ 2 x2
  simpa using this
theorem Copied.set3 {w0 w : World} {L : QLoc} {q : Qy} (h : Copied w0 w L q) {g : Nat} {cs : Array Value} (hb : Blk w g 25 cs) (x0 x1 x2 : Value) : Copied w0 (((w.setCell ⟨g, 0, none⟩ x0).setCell ⟨g, 1, none⟩ x1).setCell ⟨g, 2, none⟩ x2) L q :=
  ((h.set hb 0 x0).set (hb.set_ 0 x0) 1 x1).set ((hb.set_ 0 x0).set_ 1 x1) 2 x2
theorem Blk.far3 {w : World} {g k : Nat} {t : TypeId} {cs : Array Value} (h : Blk w g t cs) (hne : g ≠ k) (x0 x1 x2 : Value) : Blk (((w.setCell ⟨k, 0, none⟩ x0).setCell ⟨k, 1, none⟩ x1).setCell ⟨k, 2, none⟩ x2) g t cs :=
  ((h.far (p := ⟨k, 0, none⟩) hne x0).far (p := ⟨k, 1, none⟩) hne x1).far (p := ⟨k, 2, none⟩) hne x2
theorem Ext.set3 {a w : World} (h : Ext a w) {g : Nat} (hg : a.heap.size ≤ g) (x0 x1 x2 : Value) : Ext a (((w.setCell ⟨g, 0, none⟩ x0).setCell ⟨g, 1, none⟩ x1).setCell ⟨g, 2, none⟩ x2) :=
  ((h.setCell (p := ⟨g, 0, none⟩) hg x0).setCell (p := ⟨g, 1, none⟩) hg x1).setCell (p := ⟨g, 2, none⟩) hg x2

theorem layP_len (tl : List Atm) : ∀ (as_ : List Atm) (σ : Env) (l : List Nat), layP tl as_ σ = some l → l.length = as_.length
  | [], σ, l, h => by
    have : l = [] := by simpa [layP] using h.symm
    rw [this]; rfl
  | a :: rest, σ, l, h => by
    simp only [layP] at h
    obtain ⟨bj, _, h2⟩ := List.exists_of_findSome?_eq_some h
    split at h2
    · simp only [Option.map_eq_some_iff] at h2
      obtain ⟨l', h3, h4⟩ := h2
      rw [← h4, List.length_cons, List.length_cons, layP_len tl rest _ l' h3]
    · cases h2
theorem findR_len (f t : Qy) : (findR f t).1.length ≤ f.atoms.length := by
  unfold findR
  split
  · simp
  · split
    · rename_i l h
      exact Nat.le_of_eq (layP_len _ _ _ _ h)
    · simp

set_option maxHeartbeats 8000000 in
set_option maxRecDepth 100000 in
theorem law_finds (a b : Qy) (La Lb : QLoc) (w : World) (ha : QAt w La a) (hMa : smallM 1048576 a) (hb : QAt w Lb b) (hMb : smallM 1048576 b) :
    Calls Try.prog 3 #[qval a.name La, qval b.name Lb] w fun e w' => e = .returned (.bool true) ∧ Ext w w' := by
  have HMA := hide hMa
  have HCA := hide (fun w1 (h1 : Ext w w1) => copy_isc (ha.ext h1) hMa)
  have HCB := hide (fun w1 (h1 : Ext w w1) => copy_isc (hb.ext h1) hMb)
  have HRF := hide (fun w1 (h1 : Ext w w1) => ref_find a b La Lb w1 (ha.ext h1) (hb.ext h1) hMa hMb)
  have HFI := hide (fun L1 L2 w1 (h1 : QAt w1 L1 a) (h2 : QAt w1 L2 b) => find_any a b L1 L2 w1 h1 h2 hMa hMb)
  have HSA := hide (fun L1 w1 (h0 : Ext w w1) (h1 : QAt w1 L1 a) => same_query a a L1 La w1 h1 (ha.ext h0) hMa)
  have HSB := hide (fun L1 w1 (h0 : Ext w w1) (h1 : QAt w1 L1 b) => same_query b b L1 Lb w1 h1 (hb.ext h0) hMb)
  have HE := hide ((Ext.alloc w (.cells #[.string a.name, .slice La.A La.n La.c, .slice La.B La.m La.d] 25)).alloc' (.cells #[.string b.name, .slice Lb.A Lb.n Lb.c, .slice Lb.B Lb.m Lb.d] 25))
  have HB0 := hide ((Blk.new w 25 #[.string a.name, .slice La.A La.n La.c, .slice La.B La.m La.d]).ext (Ext.alloc _ (.cells #[.string b.name, .slice Lb.A Lb.n Lb.c, .slice Lb.B Lb.m Lb.d] 25)))
  have HB1 := hide (show Blk ((w.alloc (.cells #[.string a.name, .slice La.A La.n La.c, .slice La.B La.m La.d] 25)).alloc (.cells #[.string b.name, .slice Lb.A Lb.n Lb.c, .slice Lb.B Lb.m Lb.d] 25)) (w.heap.size + 1) 25 #[.string b.name, .slice Lb.A Lb.n Lb.c, .slice Lb.B Lb.m Lb.d] from Blk.newAt (World.size_alloc _ _))
  generalize hW2 : (w.alloc (.cells #[.string a.name, .slice La.A La.n La.c, .slice La.B La.m La.d] 25)).alloc (.cells #[.string b.name, .slice Lb.A Lb.n Lb.c, .slice Lb.B Lb.m Lb.d] 25) = W2 at *
  have HW2 := hide hW2; clear hW2 ha hb hMa hMb
  obtain ⟨A, n, c, B, m, d⟩ := La
  obtain ⟨A', n', c', B', m', d'⟩ := Lb
  simp only [qval] at HRF HSA HSB ⊢
  have hr1 := findR_rng a b
  have hil := findR_len a b
  have hil2 : (findR a b).1.length ≤ 1048576 := Nat.le_trans hil (HMA.out.atomsL)
  clear hil
  generalize findR a b = r at *
  obtain ⟨im, ok, er⟩ := r
  dsimp only at *
  go_enter Try.func3, Try.ntmps3
  go_wp2_with fail
  rw [HW2.out]
  have a0 := cell_ext (show W2.cell? ⟨w.heap.size, 0, none⟩ = some (.string a.name) from HB0.out.cell 0)
  have a1 := cell_ext (show W2.cell? ⟨w.heap.size, 1, none⟩ = some (.slice A n c) from HB0.out.cell 1)
  have a2 := cell_ext (show W2.cell? ⟨w.heap.size, 2, none⟩ = some (.slice B m d) from HB0.out.cell 2)
  have b0 := cell_ext (show W2.cell? ⟨w.heap.size + 1, 0, none⟩ = some (.string b.name) from HB1.out.cell 0)
  have b1 := cell_ext (show W2.cell? ⟨w.heap.size + 1, 1, none⟩ = some (.slice A' n' c') from HB1.out.cell 1)
  have b2 := cell_ext (show W2.cell? ⟨w.heap.size + 1, 2, none⟩ = some (.slice B' m' d') from HB1.out.cell 2)
  refine wp_region_ext2 5 6 6 (by decide) (by kernel_rfl) (by rfl) (by rfl) (by kernel_rfl) (by kernel_rfl) (by kernel_rfl) ?_
  iterate 1
    refine wpE_k (by kernel_rfl) (by kernel_rfl) ?_
    apply Exists.intro
    refine ⟨fun w1 hw1 => ?_, fun K hK => ?_⟩
    · go_simp; first | done | rfl
    go_simp; refine hK _ _ ?_; clear hK K
  refine wpE_p [] (IsC a) (fun u w1 w2 _ h2 h => h.ext h2) rfl (by kernel_rfl) (fun w1 hw1 => ?_) ?_
  · simp only [LookQ]
    clear a0 a1 a2 b0 b1 b2
    go_simp
    exact ⟨Ext.refl _, HCA.out w1 (HE.out.trans hw1)⟩
  iterate 1
    refine wpE_k (by kernel_rfl) (by kernel_rfl) ?_
    apply Exists.intro
    refine ⟨fun w1 hw1 => ?_, fun K hK => ?_⟩
    · go_simp; first | done | rfl
    go_simp; refine hK _ _ ?_; clear hK K
  refine wpE_p [] (IsC b) (fun u w1 w2 _ h2 h => h.ext h2) rfl (by kernel_rfl) (fun w1 hw1 => ?_) ?_
  · simp only [LookQ]
    clear a0 a1 a2 b0 b1 b2
    go_simp
    exact ⟨Ext.refl _, HCB.out w1 (HE.out.trans hw1)⟩
  clear a0 a1 a2 b0 b1 b2
  refine wpE_p [] (VarQ W2) (fun u w1 w2 _ h2 h => h.ext h2) rfl (by kernel_rfl) (fun w1 hw1 => ?_) ?_
  · simp only [LookQ]
    go_simp
    exact ⟨Ext.alloc _ _, w1.heap.size, rfl, hw1.size, Blk.new _ _ _⟩
  refine wpE_p [] (VarQ W2) (fun u w1 w2 _ h2 h => h.ext h2) rfl (by kernel_rfl) (fun w1 hw1 => ?_) ?_
  · simp only [LookQ]
    go_simp
    exact ⟨Ext.alloc _ _, w1.heap.size, rfl, hw1.size, Blk.new _ _ _⟩
  refine wpE_nil ⟨rfl, by kernel_rfl, fun w1 hw1 => ?_⟩
  simp only [EndQ, List.drop]
  rintro u6 ⟨g6, rfl, hg6, hB6⟩ u5 ⟨g5, rfl, hg5, hB5⟩ v16 ⟨w02, L2, rfl, hq2⟩ v14 ⟨w01, L1, rfl, hq1⟩ hne
  have hgg : g5 ≠ g6 := fun e => by subst e; exact ptr_ne_undef _ (hne rfl)
  clear hne
  have hgg2 : g6 ≠ g5 := Ne.symm hgg
  simp only [qval]
  have E1 := hide hw1; have Q1 := hide hq1; have Q2 := hide hq2; have B5 := hide hB5; have B6 := hide hB6
  have f0 := hB5.frozen 0; have f1 := hB5.frozen 1; have f2 := hB5.frozen 2
  have k0 := hB6.frozen 0; have k1 := hB6.frozen 1; have k2 := hB6.frozen 2
  have z0 : w1.cell? ⟨g5, 0, none⟩ = some (.string .empty) := hB5.cell 0
  have z1 : w1.cell? ⟨g5, 1, none⟩ = some (.slice none 0 0) := hB5.cell 1
  have z2 : w1.cell? ⟨g5, 2, none⟩ = some (.slice none 0 0) := hB5.cell 2
  have y0 : w1.cell? ⟨g6, 0, none⟩ = some (.string .empty) := hB6.cell 0
  have y1 : w1.cell? ⟨g6, 1, none⟩ = some (.slice none 0 0) := hB6.cell 1
  have y2 : w1.cell? ⟨g6, 2, none⟩ = some (.slice none 0 0) := hB6.cell 2
  clear hw1 hq1 hq2 hB5 hB6
  obtain ⟨W5, hW5⟩ : ∃ W5, W5 = (((((w1.setCell ⟨g5, 0, none⟩ (.string a.name)).setCell ⟨g5, 1, none⟩ (.slice L1.A L1.n L1.c)).setCell ⟨g5, 2, none⟩ (.slice L1.B L1.m L1.d)).setCell ⟨g6, 0, none⟩ (.string b.name)).setCell ⟨g6, 1, none⟩ (.slice L2.A L2.n L2.c)).setCell ⟨g6, 2, none⟩ (.slice L2.B L2.m L2.d) := ⟨_, rfl⟩
  have E5 := hide (show Ext W2 W5 from hW5 ▸ (E1.out.set3 hg5 _ _ _).set3 hg6 _ _ _)
  have D5 := hide (show Blk W5 g5 25 #[.string a.name, .slice L1.A L1.n L1.c, .slice L1.B L1.m L1.d] from hW5 ▸ (blk_set3 B5.out _ _ _).far3 hgg _ _ _)
  have D6 := hide (show Blk W5 g6 25 #[.string b.name, .slice L2.A L2.n L2.c, .slice L2.B L2.m L2.d] from hW5 ▸ blk_set3 (B6.out.far3 hgg2 _ _ _) _ _ _)
  have R1 := hide (show QAt W5 L1 a from (show Copied w01 W5 L1 a from hW5 ▸ (Q1.out.set3 B5.out _ _ _).set3 (B6.out.far3 hgg2 _ _ _) _ _ _).qat)
  have R2 := hide (show QAt W5 L2 b from (show Copied w02 W5 L2 b from hW5 ▸ (Q2.out.set3 B5.out _ _ _).set3 (B6.out.far3 hgg2 _ _ _) _ _ _).qat)
  have HF5 := hide (HFI.out L1 L2 W5 R1.out R2.out)
  simp only [qval] at HF5
  have HW5 := hide hW5
  rw [hW5] at HF5
  clear hW5 Q1 Q2 B5 B6 E1 HFI
  have hb1 : (ok == ok) = true := by simp
  have hb2 : (er == er) = true := by simp
  have hsq1 : sameQ a a = true := (sameQ_iff a a).2 rfl
  have hsq2 : sameQ b b = true := (sameQ_iff b b).2 rfl
  rw [hsq1] at HSA
  rw [hsq2] at HSB
  have hsi : sameBy eqN im im = true := (sameBy_eqN im im).2 rfl
  have Hsi := hide hsi
  clear hsq1 hsq2 hsi
  go_wp2_with (first
    | ((with_reducible refine HF5.out.mono ?_); rintro e w6 ⟨A3, c3, rfl, ho, hx⟩; rw [← HW5.out] at ho hx; have L3 := hide (own_num rfl ho); have E6 := hide (E5.out.trans hx); have E56 := hide hx; clear ho hx f0 f1 f2 k0 k1 k2 z0 z1 z2 y0 y1 y2
       have a0 : w6.cell? ⟨w.heap.size, 0, none⟩ = some (.string a.name) := (HB0.out.ext E6.out).cell 0
       have a1 : w6.cell? ⟨w.heap.size, 1, none⟩ = some (.slice A n c) := (HB0.out.ext E6.out).cell 1
       have a2 : w6.cell? ⟨w.heap.size, 2, none⟩ = some (.slice B m d) := (HB0.out.ext E6.out).cell 2
       have b0 : w6.cell? ⟨w.heap.size + 1, 0, none⟩ = some (.string b.name) := (HB1.out.ext E6.out).cell 0
       have b1 : w6.cell? ⟨w.heap.size + 1, 1, none⟩ = some (.slice A' n' c') := (HB1.out.ext E6.out).cell 1
       have b2 : w6.cell? ⟨w.heap.size + 1, 2, none⟩ = some (.slice B' m' d') := (HB1.out.ext E6.out).cell 2)
    | ((with_reducible refine (HRF.out _ (HE.out.trans E6.out)).mono ?_); rintro e w7 ⟨A4, c4, rfl, ho, hx⟩; have L4 := hide ho; have E7 := hide (E6.out.trans hx); have E57 := hide (E56.out.trans hx); have L37 := hide (L3.out.ext RN.stab hx); clear ho hx a0 a1 a2 b0 b1 b2)
    | ((with_reducible refine (awake_any _).mono ?_); rintro e w8 ⟨rfl, hx⟩; have E8 := hide (E7.out.trans hx); have E58 := hide (E57.out.trans hx); have L38 := hide (L37.out.ext RN.stab hx); have L48 := hide (L4.out.ext RN.stab hx); clear hx)
    | ((with_reducible refine (same_ints im im A3 A4 _ _ c3 c4 _ L38.out L48.out (by omega)).mono ?_); rintro e w9 ⟨rfl, hx⟩; rw [Hsi.out]; have E9 := hide (E8.out.trans hx); have E59 := hide (E58.out.trans hx); clear hx
       have a0 : w9.cell? ⟨w.heap.size, 0, none⟩ = some (.string a.name) := (HB0.out.ext E9.out).cell 0
       have a1 : w9.cell? ⟨w.heap.size, 1, none⟩ = some (.slice A n c) := (HB0.out.ext E9.out).cell 1
       have a2 : w9.cell? ⟨w.heap.size, 2, none⟩ = some (.slice B m d) := (HB0.out.ext E9.out).cell 2
       have z0 : w9.cell? ⟨g5, 0, none⟩ = some (.string a.name) := (D5.out.ext E59.out).cell 0
       have z1 : w9.cell? ⟨g5, 1, none⟩ = some (.slice L1.A L1.n L1.c) := (D5.out.ext E59.out).cell 1
       have z2 : w9.cell? ⟨g5, 2, none⟩ = some (.slice L1.B L1.m L1.d) := (D5.out.ext E59.out).cell 2)
    | ((with_reducible refine (HSA.out L1 _ (HE.out.trans E9.out) (R1.out.ext E59.out)).mono ?_); rintro e w10 ⟨rfl, hx⟩; have E10 := hide (E9.out.trans hx); have E510 := hide (E59.out.trans hx); clear hx a0 a1 a2 z0 z1 z2
       have b0 : w10.cell? ⟨w.heap.size + 1, 0, none⟩ = some (.string b.name) := (HB1.out.ext E10.out).cell 0
       have b1 : w10.cell? ⟨w.heap.size + 1, 1, none⟩ = some (.slice A' n' c') := (HB1.out.ext E10.out).cell 1
       have b2 : w10.cell? ⟨w.heap.size + 1, 2, none⟩ = some (.slice B' m' d') := (HB1.out.ext E10.out).cell 2
       have y0 : w10.cell? ⟨g6, 0, none⟩ = some (.string b.name) := (D6.out.ext E510.out).cell 0
       have y1 : w10.cell? ⟨g6, 1, none⟩ = some (.slice L2.A L2.n L2.c) := (D6.out.ext E510.out).cell 1
       have y2 : w10.cell? ⟨g6, 2, none⟩ = some (.slice L2.B L2.m L2.d) := (D6.out.ext E510.out).cell 2)
    | ((with_reducible refine (HSB.out L2 _ (HE.out.trans E10.out) (R2.out.ext E510.out)).mono ?_); rintro e w11 ⟨rfl, hx⟩; have E11 := hide (E10.out.trans hx); clear hx))
  go_ret
  exact ⟨rfl, HE.out.trans E11.out⟩
end Go.Proofs.Ythjpcnceppmnmaa
