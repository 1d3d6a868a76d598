/-
  awake: the answer of a small fixed query.
-/
import Derived.Test.YtpfjkjmimmklcaaNaiH
namespace Go.Proofs.Ytpfjkjmimmklcaa
open Go.RowKit

def awT : Tm := ⟨⟨#[120]⟩, ⟨0, 0, .empty⟩⟩
def awA : Atm := ⟨⟨#[82]⟩, [awT]⟩
def awQ : Qy := ⟨⟨#[81]⟩, [⟨#[120]⟩], [awA]⟩
def awD : List Tbl := [⟨⟨#[82]⟩, [[⟨1, 7, .empty⟩]]⟩]
theorem aw_ans : answersP awQ awD 1 = ([[⟨1, 7, .empty⟩]], 0) := by kernel_rfl
theorem aw_small : smallM 1048576 awQ := by
  refine ⟨by decide, by decide, ?_, by decide, ?_⟩
  · intro h hh
    obtain rfl := List.mem_singleton.1 hh
    decide
  · intro a ha
    obtain rfl := List.mem_singleton.1 ha
    refine ⟨by decide, by decide, ?_⟩
    intro t ht
    obtain rfl := List.mem_singleton.1 ht
    exact ⟨by decide, by decide, ⟨by decide, by decide⟩⟩
theorem blkAt {w : World} {g : Nat} {t : TypeId} {cs : Array Value} (h : w.heap.size = g) : Blk (w.alloc (.cells cs t)) g t cs := h ▸ Blk.new w t cs
theorem aw_at (w : World) : QAt ((((w.alloc (.cells #[.string ⟨#[120]⟩] 9)).alloc (.cells #[.string ⟨#[120]⟩, .int .i64 0, .int .i64 0, .string ⟨#[]⟩] 60)).alloc (.cells #[.string ⟨#[82]⟩, .slice (some ⟨w.heap.size + 1, 0, none⟩) 1 1] 40)).alloc
      (.cells #[.string ⟨#[81]⟩, .slice (some ⟨w.heap.size, 0, none⟩) 1 1, .slice (some ⟨w.heap.size + 1 + 1, 0, none⟩) 1 1] 25)) ⟨some ⟨w.heap.size, 0, none⟩, 1, 1, some ⟨w.heap.size + 1 + 1, 0, none⟩, 1, 1⟩ awQ := by
  generalize hc0 : (#[.string ⟨#[120]⟩] : Array Value) = c0
  generalize hc1 : (#[.string ⟨#[120]⟩, .int .i64 0, .int .i64 0, .string ⟨#[]⟩] : Array Value) = c1
  generalize hc2 : (#[.string ⟨#[82]⟩, .slice (some ⟨w.heap.size + 1, 0, none⟩) 1 1] : Array Value) = c2
  generalize hc3 : (#[.string ⟨#[81]⟩, .slice (some ⟨w.heap.size, 0, none⟩) 1 1, .slice (some ⟨w.heap.size + 1 + 1, 0, none⟩) 1 1] : Array Value) = c3
  have b0 := (((Blk.new w 9 c0).ext (Ext.alloc _ (.cells c1 60))).ext (Ext.alloc _ (.cells c2 40))).ext (Ext.alloc _ (.cells c3 25))
  have b1 := ((blkAt (t := 60) (cs := c1) (World.size_alloc w (.cells c0 9))).ext (Ext.alloc _ (.cells c2 40))).ext (Ext.alloc _ (.cells c3 25))
  have b2 := (blkAt (w := (w.alloc (.cells c0 9)).alloc (.cells c1 60)) (t := 40) (cs := c2) (g := w.heap.size + 1 + 1) (by simp)).ext (Ext.alloc _ (.cells c3 25))
  generalize (((w.alloc (.cells c0 9)).alloc (.cells c1 60)).alloc (.cells c2 40)).alloc (.cells c3 25) = W at *
  subst hc0; subst hc1; subst hc2
  have h1 : LAt RT 4 W (some ⟨w.heap.size + 1, 0, none⟩) 1 [awT] := blk_terms (ts := [awT]) b1
  refine ⟨blk_texts (xs := [⟨#[120]⟩]) b0, ⟨rfl, [.string ⟨#[82]⟩, .slice (some ⟨w.heap.size + 1, 0, none⟩) 1 1], Els.single (x := awA) rfl ?_ ⟨_, _, _, rfl, h1⟩, ?_⟩, Nat.le_refl _⟩
  · intro v hv
    simp only [List.mem_cons, List.not_mem_nil, or_false] at hv
    rcases hv with rfl | rfl <;> rfl
  · exact b2.sl (n := 1) (size := 2) rfl
set_option maxRecDepth 100000 in
theorem num_any (n : Int) (w : World) : Calls Try.prog 44 #[.int .i64 n] w fun e w' => e = .returned (.agg #[.int .i64 1, .int .i64 n, .string ⟨#[]⟩]) ∧ Ext w w' := by
  have HE := hide ((Ext.alloc w (.cells #[.int .i64 1, .int .i64 n, .string ⟨#[]⟩] 58)))
  go_enter Try.func44, Try.ntmps44
  go_wp2_with fail
  refine bodyPost_ret (v := .agg #[.int .i64 1, .int .i64 n, .string ⟨#[]⟩]) (by simp [results, Try.results44, go_sem]) rfl ?_
  exact ⟨rfl, HE.out⟩

theorem sameCallE {P : Program} {f : FuncId} {args : Array Value} {w : World} {v : Value} (h : Calls P f args w fun e w' => e = .returned v ∧ Ext w w') : Calls P f args w fun e w'' => e = .returned v ∧ Ext w w'' := h
def AwT (u : Value) (w : World) : Prop := ∃ A2 c2, u = .tuple #[.slice A2 1 c2, .int .i64 0] ∧ LAt RRow 1 w A2 1 [[⟨1, 7, .empty⟩]]
def AwR (u : Value) (w : World) : Prop := ∃ A2 c2, u = .slice A2 1 c2 ∧ LAt RRow 1 w A2 1 [[⟨1, 7, .empty⟩]]
theorem AwT.ext {u : Value} {w w' : World} (h : AwT u w) (hw : Ext w w') : AwT u w' := by
  obtain ⟨A2, c2, h1, h2⟩ := h
  exact ⟨A2, c2, h1, h2.ext RRow.stab hw⟩
theorem AwR.ext {u : Value} {w w' : World} (h : AwR u w) (hw : Ext w w') : AwR u w' := by
  obtain ⟨A2, c2, h1, h2⟩ := h
  exact ⟨A2, c2, h1, h2.ext RRow.stab hw⟩
set_option maxHeartbeats 2000000 in
set_option maxRecDepth 100000 in
theorem awake_any (w : World) : Calls Try.prog 16 #[] w fun e w' => e = .returned (.bool true) ∧ Ext w w' := by
  have HQ := hide (aw_at w)
  have HE := hide ((((Ext.alloc w (.cells #[.string ⟨#[120]⟩] 9)).alloc' (.cells #[.string ⟨#[120]⟩, .int .i64 0, .int .i64 0, .string ⟨#[]⟩] 60)).alloc' (.cells #[.string ⟨#[82]⟩, .slice (some ⟨w.heap.size + 1, 0, none⟩) 1 1] 40)).alloc'
      (.cells #[.string ⟨#[81]⟩, .slice (some ⟨w.heap.size, 0, none⟩) 1 1, .slice (some ⟨w.heap.size + 1 + 1, 0, none⟩) 1 1] 25))
  go_enter Try.func16, Try.ntmps16
  go_upto_region 2 with fail
  generalize hW : (((w.alloc (.cells #[.string ⟨#[120]⟩] 9)).alloc (.cells #[.string ⟨#[120]⟩, .int .i64 0, .int .i64 0, .string ⟨#[]⟩] 60)).alloc (.cells #[.string ⟨#[82]⟩, .slice (some ⟨w.heap.size + 1, 0, none⟩) 1 1] 40)) = w3 at *
  have hb := Blk.new w3 25 #[.string ⟨#[81]⟩, .slice (some ⟨w.heap.size, 0, none⟩) 1 1, .slice (some ⟨w.heap.size + 1 + 1, 0, none⟩) 1 1]
  have hs3 : w3.heap.size = w.heap.size + 1 + 1 + 1 := by rw [← hW]; simp
  rw [hs3] at hb
  have HB := hide hb
  clear hW hs3 hb
  generalize w3.alloc (.cells #[.string ⟨#[81]⟩, .slice (some ⟨w.heap.size, 0, none⟩) 1 1, .slice (some ⟨w.heap.size + 1 + 1, 0, none⟩) 1 1] 25) = w4 at *
  generalize hL : (⟨some ⟨w.heap.size, 0, none⟩, 1, 1, some ⟨w.heap.size + 1 + 1, 0, none⟩, 1, 1⟩ : QLoc) = L at HQ
  have hqv : qval awQ.name L = .agg #[.string ⟨#[81]⟩, .slice (some ⟨w.heap.size, 0, none⟩) 1 1, .slice (some ⟨w.heap.size + 1 + 1, 0, none⟩) 1 1] := by rw [← hL]; rfl
  have HQV := hide hqv
  clear hL hqv
  have k0 := cell_ext (HB.out.cell 0)
  have k1 := cell_ext (HB.out.cell 1)
  have k2 := cell_ext (HB.out.cell 2)
  refine wp_region_ext 12 (by kernel_rfl) (by kernel_rfl) (by kernel_rfl) ?_
  iterate 2
    refine wpE_k (by kernel_rfl) (by kernel_rfl) ?_
    apply Exists.intro
    refine ⟨fun w1 hw1 => ?_, fun K hK => ?_⟩
    · go_simp; first | done | rfl | exact sameCallE (num_any 7 _)
    go_simp; refine hK _ _ ?_; clear hK K
  clear k0 k1 k2
  refine wpE_p [] (fun u w1 => ∃ g, u = .slice (some ⟨g, 0, none⟩) 1 1 ∧ Blk w1 g 58 #[.int .i64 1, .int .i64 7, .string ⟨#[]⟩]) (fun u w1 w2 _ h2 ⟨g, h3, h4⟩ => ⟨g, h3, h4.ext h2⟩) rfl (by kernel_rfl) (fun w1 hw1 => ?_) ?_
  · simp only [LookQ]
    go_simp
    exact ⟨Ext.alloc _ _, Blk.new _ _ _⟩
  refine wpE_p [13] (fun u w1 => ∃ g2, u = .slice (some ⟨g2, 0, none⟩) 1 1 ∧ ∃ g, Blk w1 g 58 #[.int .i64 1, .int .i64 7, .string ⟨#[]⟩] ∧ Blk w1 g2 35 #[.slice (some ⟨g, 0, none⟩) 1 1]) (fun u w1 w2 _ h2 ⟨g2, h3, g, h4, h5⟩ => ⟨g2, h3, g, h4.ext h2, h5.ext h2⟩) rfl (by kernel_rfl) (fun w1 hw1 => ?_) ?_
  · simp only [LookQ]
    intro u hu
    obtain ⟨g, rfl, h1⟩ := hu _ rfl
    clear hu
    go_simp
    exact ⟨Ext.alloc _ _, _, h1.ext (Ext.alloc _ _), Blk.new _ _ _⟩
  refine wpE_p [14] (fun u w1 => ∃ g2, u = .agg #[.string ⟨#[82]⟩, .slice (some ⟨g2, 0, none⟩) 1 1] ∧ ∃ g, Blk w1 g 58 #[.int .i64 1, .int .i64 7, .string ⟨#[]⟩] ∧ Blk w1 g2 35 #[.slice (some ⟨g, 0, none⟩) 1 1]) (fun u w1 w2 _ h2 ⟨g2, h3, g, h4, h5⟩ => ⟨g2, h3, g, h4.ext h2, h5.ext h2⟩) rfl (by kernel_rfl) (fun w1 hw1 => ?_) ?_
  · simp only [LookQ]
    intro u hu
    obtain ⟨g2, rfl, g, h1, h2⟩ := hu _ rfl
    clear hu
    go_simp
    exact ⟨Ext.refl _, g, h1, h2⟩
  refine wpE_p [15] (fun u w1 => ∃ g3, u = .slice (some ⟨g3, 0, none⟩) 1 1 ∧ LAt RB 2 w1 (some ⟨g3, 0, none⟩) 1 awD) (fun u w1 w2 _ h2 ⟨g3, h3, h4⟩ => ⟨g3, h3, h4.ext RB.stab h2⟩) rfl (by kernel_rfl) (fun w1 hw1 => ?_) ?_
  · simp only [LookQ]
    intro u hu
    obtain ⟨g2, rfl, g, h1, h2⟩ := hu _ rfl
    clear hu
    go_simp
    refine ⟨Ext.alloc _ _, rfl, [.string ⟨#[82]⟩, .slice (some ⟨g2, 0, none⟩) 1 1], Els.single (x := (⟨⟨#[82]⟩, [[⟨1, 7, .empty⟩]]⟩ : Tbl)) rfl ?_ ⟨_, _, _, rfl, rfl, [.slice (some ⟨g, 0, none⟩) 1 1], Els.single (x := ([⟨1, 7, .empty⟩] : List V)) rfl ?_ ⟨_, _, _, rfl, rfl, ?_⟩, ?_⟩, ?_⟩
    · intro v hv
      simp only [List.mem_cons, List.not_mem_nil, or_false] at hv
      rcases hv with rfl | rfl <;> rfl
    · intro v hv
      obtain rfl := List.mem_singleton.1 hv
      rfl
    · exact (h1.ext (Ext.alloc _ _)).sl (n := 1) (size := 3) rfl
    · exact (h2.ext (Ext.alloc _ _)).sl (n := 1) (size := 1) rfl
    · exact (Blk.new w1 _ _).sl (n := 1) (size := 2) rfl
  refine wpE_p [16] AwT (fun u w1 w2 _ h2 h => h.ext h2) rfl (by kernel_rfl) (fun w1 hw1 => ?_) ?_
  · simp only [LookQ]
    intro u hu
    obtain ⟨g3, rfl, h1⟩ := hu _ rfl
    clear hu
    go_simp
    have hA := answers_any awQ L awD (some ⟨g3, 0, none⟩) 1 1 1 w1 (HQ.out.ext hw1) aw_small h1 (by omega) (by decide) (by
      intro t ht r hr
      obtain rfl := List.mem_singleton.1 ht
      obtain rfl := List.mem_singleton.1 hr
      decide)
    rw [HQV.out] at hA
    refine ⟨Ext.refl _, hA.mono ?_⟩
    rintro e w2 ⟨A2, c2, cells, rfl, h2, h3, h4⟩
    rw [aw_ans] at h2 h3 ⊢
    exact ⟨_, rfl, h4, A2, c2, rfl, mine_lat rfl h2 h3⟩
  refine wpE_p [17] AwT (fun u w1 w2 _ h2 h => h.ext h2) rfl (by kernel_rfl) (fun w1 hw1 => ?_) ?_
  · simp only [LookQ]
    intro u hu
    obtain ⟨A2, c2, rfl, h1⟩ := hu _ rfl
    clear hu
    go_simp
    exact ⟨Ext.refl _, _, _, rfl, h1⟩
  refine wpE_p [10] AwR (fun u w1 w2 _ h2 h => h.ext h2) rfl (by kernel_rfl) (fun w1 hw1 => ?_) ?_
  · simp only [LookQ]
    intro u hu
    obtain ⟨A2, c2, rfl, h1⟩ := hu _ rfl
    clear hu
    go_simp
    exact ⟨Ext.refl _, _, _, rfl, h1⟩
  refine wpE_kp [10] (.int .i64 0) (by kernel_rfl) (by kernel_rfl) (fun w1 hw1 => ?_) (fun K hK => ?_)
  · simp only [LookQ]
    intro u hu
    obtain ⟨A2, c2, rfl, h1⟩ := hu _ rfl
    clear hu
    go_simp
    exact Ext.refl _
  go_simp; refine hK _ _ ?_; clear hK K
  refine wpE_p [18] AwR (fun u w1 w2 _ h2 h => h.ext h2) rfl (by kernel_rfl) (fun w1 hw1 => ?_) ?_
  · simp only [LookQ]
    intro u hu
    obtain ⟨A2, c2, rfl, h1⟩ := hu _ rfl
    clear hu
    go_simp
    exact ⟨Ext.refl _, _, _, rfl, h1⟩
  iterate 1
    refine wpE_k (by kernel_rfl) (by kernel_rfl) ?_
    apply Exists.intro
    refine ⟨fun w1 hw1 => ?_, fun K hK => ?_⟩
    · go_simp; first | done | rfl
    go_simp; refine hK _ _ ?_; clear hK K
  refine wpE_nil ⟨rfl, by kernel_rfl, fun w1 hw1 => ?_⟩
  simp only [EndQ, List.drop]
  rintro _ ⟨A2, c2, rfl, hL⟩ _ _ _ _ _ _ _ _ _ _ _ _ _ _
  obtain ⟨b, off, x, cs, rfl, hx, hb, hcl, hone, ⟨A9, n9, c9, rfl, hR⟩, hcell⟩ := hL.get (by omega) (i := 0) (by omega)
  obtain rfl : x = [⟨1, 7, .empty⟩] := by simpa using hx.symm
  obtain ⟨b', off', v, rfl, hv, hb', e0, e1, e2⟩ := hR.get (i := 0) (by have := hR.len; simp at this; omega)
  obtain rfl : v = ⟨1, 7, .empty⟩ := by simpa using hv.symm
  have d0 : w1.cell? ⟨b, off, none⟩ = some (.slice (some ⟨b', off', none⟩) n9 c9) := by
    have := hcell 0 (by omega)
    simpa using this
  simp only [Nat.zero_mul, Nat.add_zero] at e0 e1 e2
  have hn := hR.len
  simp at hn
  subst hn
  clear hL hx hcl hone hR hv hcell HB HQ HQV
  have HE2 := hide (HE.out.trans hw1)
  clear hw1 HE
  refine wpList_nil ?_
  have k0 := cell_ext d0
  have m0 := cell_ext e0
  have m1 := cell_ext e1
  have m2 := cell_ext e2
  go_upto_region 3 with fail
  refine wp_region_ext 24 (by kernel_rfl) (by kernel_rfl) (by kernel_rfl) ?_
  iterate 24
    refine wpE_k (by kernel_rfl) (by kernel_rfl) ?_
    apply Exists.intro
    refine ⟨fun w1 hw1 => ?_, fun K hK => ?_⟩
    · go_simp; first | done | rfl | exact sameCallE (num_any 7 _)
    go_simp; refine hK _ _ ?_; clear hK K
  refine wpE_nil ⟨rfl, by kernel_rfl, fun wq hwq => ?_⟩
  simp only [EndQ]
  refine wpList_nil ?_
  clear k0 m0 m1 m2
  go_wp2_with fail
  refine bodyPost_ret (v := .bool true) (by simp [results, Try.results16, go_sem]) rfl ?_
  exact ⟨rfl, HE2.out.trans hwq⟩
end Go.Proofs.Ytpfjkjmimmklcaa
