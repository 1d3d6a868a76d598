/-
  hashidx: Put at a key that is not there: the walk.
-/
import Derived.Test.YtlpbkhdpfmknkaaHidU
namespace Go.Proofs.Ytlpbkhdpfmknkaa
open Go.RowKit

theorem gone_pos {T : List Pl} {f : Nat} {q : Pl} (h : T[f]? = some q) (h2 : q.st = 2) : 1 ≤ goneN T :=
  List.countP_pos_iff.2 ⟨q, List.mem_of_getElem? h, by simpa using h2⟩
set_option maxHeartbeats 2000000 in
set_option maxRecDepth 100000 in
theorem put_new {w : World} {B : Nat → Prop} {x most probes : Nat} {E : List (List UInt8 × Int)} (h : HIx w B x most probes E) (hp : probes ≤ 4611686018427387904) (key : List UInt8) (v : Int) (A : Option Addr) (n c : Nat) (hk : KeyAt w A n key) (ha : Aside B A) (hl : n ≤ 4096) (hin : ∀ u, (key, u) ∉ E) :
    Calls Try.prog 9 #[.pointer (some ⟨x, 0, none⟩), .slice A n c, .int .i64 v] w (PutPost w B x most probes E key v) := by
  obtain ⟨tb, T, Ks, hI, hG, hE, h1, h2, h3, hne⟩ := h.at_
  have hkl := hk.len
  have HKA := hide (fun (w' : World) (hc : Chg B w w') => hc.key hk ha)
  have hC0 : Chg B w (w.setCell ⟨x, 3, none⟩ (.int .i64 ((probes : Int) + 1))) := (Chg.refl _ _).setCell (.inl hI.inB) _
  have HF := hide (find_any key A n c _ B x tb most _ _ _ T Ks (hI.probe hne) (HKA.out _ hC0) hG.st (by omega))
  have HI := hide (hI.probe hne)
  have a3 : w.cell? ⟨x, 3, none⟩ = some (.int .i64 probes) := hI.blk.cell 3
  have f3 : w.frozen? ⟨x, 3, none⟩ = false := hI.blk.frozen 3
  have HC := hide hC0
  have hm := h.most
  have HO := hide h.old
  obtain ⟨f, hf, hfree, hno⟩ : ∃ f, findP T key = (none, some f) ∧ FreeAt T key f ∧ ∀ (i : Nat) (p : Pl), T[i]? = some p → p.st = 1 → p.key ≠ key := by
    rcases find_spec hG key with ⟨i, p, _, hpi, hp1, hpk⟩ | h9
    · exact absurd (hE.mem_iff.1 (mem_ents.2 ⟨i, p, hpi, hp1, hpk, rfl⟩)) (hin _)
    · exact h9
  rw [hf] at HF
  have HW := hide (And.intro hG (And.intro hE (And.intro h1 (And.intro h2 (And.intro h3 hne)))))
  have HFR := hide (And.intro hfree hno)
  have HIN := hide hin
  have HXB := hide hI.inB
  have hl2 : ¬ (4096 : Int) < (n : Int) := by omega
  have hgl : goneN T ≤ T.length := by have := hG.room; omega
  have hTl : T.length ≤ 4194400 := by omega
  have hEl := hE.length_eq
  have HEL := hide hEl
  have hkey : key.length ≤ 4096 := by omega
  clear h hk hI hE hf hfree hno hG h1 h2 h3 ha hne hin hC0 hEl hkl
  have hne2 : ∀ a b : Nat, a ≠ b → ¬ ((a : Int) = (b : Int)) := fun a b h => by omega
  by_cases hfull : E.length = most
  · have HFU := hide hfull
    have hfu : (E.length : Int) = (most : Int) := by omega
    have HFE := hide hfu
    clear hfull hfu
    go_enter Try.func9, Try.ntmps9
    go_wp2_with fail
    refine HF.out.mono ?_
    rintro e w1 ⟨rfl, x1⟩
    have X1 := hide x1
    have HI1 := hide (HI.out.ext x1)
    have a0 : w1.cell? ⟨x, 0, none⟩ = some (.int .i64 most) := HI1.out.blk.cell 0
    have a1 : w1.cell? ⟨x, 1, none⟩ = some (.int .i64 E.length) := HI1.out.blk.cell 1
    clear x1 a3 f3
    simp only [frV]
    go_wp2_with fail
    have a0 := cell_ext a0
    have a1 := cell_ext a1
    have hfu := HFE.out
    refine wp_region_ext 9 (by kernel_rfl) (by kernel_rfl) (by kernel_rfl) ?_
    iterate 9
      refine wpE_k (by kernel_rfl) (by kernel_rfl) ?_
      apply Exists.intro
      refine ⟨fun w1 hw1 => ?_, fun K hK => ?_⟩
      · go_simp; first | done | rfl
      go_simp; refine hK _ _ ?_; clear hK K
    refine wpE_nil ⟨rfl, by kernel_rfl, fun wq hwq => ?_⟩
    simp only [EndQ]
    refine wpList_nil ?_
    have HI2 := hide (HI1.out.ext hwq)
    have XQ := hide (X1.out.trans hwq)
    clear a0 a1 hwq
    go_wp2_with fail
    go_ret3
    have hC := HC.out.trans' (Chg.of XQ.out)
    exact ⟨0, false, 52, E, B, rfl, .inr (.inr (.inl ⟨hkey, HIN.out, HFU.out, rfl, rfl, rfl, rfl⟩)), ⟨⟨tb, T, Ks, HI2.out, HW.out.1, HW.out.2.1, HW.out.2.2.1, HW.out.2.2.2.1, HW.out.2.2.2.2.1, HW.out.2.2.2.2.2⟩, hm, fun b hb => Nat.lt_of_lt_of_le (HO.out b hb) hC.size⟩, fun _ hb => .inl hb, hC⟩
  · have hlt : E.length < most := by omega
    have HLT := hide hlt
    have hfu : ¬ ((E.length : Int) = (most : Int)) := by omega
    have e1 : IntKind.i64.wrap ((E.length : Int) + (goneN T : Int)) = (E.length : Int) + (goneN T : Int) := IntWalk.i64_in _ (by omega)
    have e2 : IntKind.i64.wrap ((E.length : Int) + (goneN T : Int) + 1) = (E.length : Int) + (goneN T : Int) + 1 := IntWalk.i64_in _ (by omega)
    have e3 : IntKind.i64.wrap (((E.length : Int) + (goneN T : Int) + 1) * 4) = ((E.length : Int) + (goneN T : Int) + 1) * 4 := IntWalk.i64_in _ (by omega)
    have e4 : IntKind.i64.wrap ((T.length : Int) * 3) = (T.length : Int) * 3 := IntWalk.i64_in _ (by omega)
    by_cases hc : (T.length : Int) * 3 < ((E.length : Int) + (goneN T : Int) + 1) * 4
    · clear hne2
      go_enter Try.func9, Try.ntmps9
      go_wp2_with fail
      refine HF.out.mono ?_
      rintro e w1 ⟨rfl, x1⟩
      have X1 := hide x1
      have HI1 := hide (HI.out.ext x1)
      have a0 : w1.cell? ⟨x, 0, none⟩ = some (.int .i64 most) := HI1.out.blk.cell 0
      have a1 : w1.cell? ⟨x, 1, none⟩ = some (.int .i64 E.length) := HI1.out.blk.cell 1
      clear x1 a3 f3
      simp only [frV]
      go_wp2_with fail
      have a0 := cell_ext a0
      have a1 := cell_ext a1
      refine wp_region_ext 9 (by kernel_rfl) (by kernel_rfl) (by kernel_rfl) ?_
      iterate 9
        refine wpE_k (by kernel_rfl) (by kernel_rfl) ?_
        apply Exists.intro
        refine ⟨fun w1 hw1 => ?_, fun K hK => ?_⟩
        · go_simp; first | done | rfl
        go_simp; refine hK _ _ ?_; clear hK K
      refine wpE_nil ⟨rfl, by kernel_rfl, fun wq hwq => ?_⟩
      simp only [EndQ]
      refine wpList_nil ?_
      have HI2 := hide (HI1.out.ext hwq)
      have XQ := hide (X1.out.trans hwq)
      clear a0 a1 hwq
      have a1 : wq.cell? ⟨x, 1, none⟩ = some (.int .i64 E.length) := HI2.out.blk.cell 1
      have a2 : wq.cell? ⟨x, 2, none⟩ = some (.int .i64 (goneN T)) := HI2.out.blk.cell 2
      have a4 : wq.cell? ⟨x, 4, none⟩ = some (.slice (some ⟨tb, 0, none⟩) T.length T.length) := HI2.out.blk.cell 4
      go_wp2_with fail
      have a1 := cell_ext a1
      have a2 := cell_ext a2
      have a4 := cell_ext a4
      rename World => W2
      refine wp_region_ext 18 (by kernel_rfl) (by kernel_rfl) (by kernel_rfl) ?_
      iterate 18
        refine wpE_k (by kernel_rfl) (by kernel_rfl) ?_
        apply Exists.intro
        refine ⟨fun w1 hw1 => ?_, fun K hK => ?_⟩
        · go_simp; first | done | rfl
        go_simp; refine hK _ _ ?_; clear hK K
      refine wpE_nil ⟨rfl, by kernel_rfl, fun wq hwq => ?_⟩
      simp only [EndQ]
      refine wpList_nil ?_
      have HI3 := hide (HI2.out.ext hwq)
      have XQ3 := hide (XQ.out.trans hwq)
      clear a1 a2 a4 hwq
      have HGR := hide (grow_any HI3.out HW.out.1 HEL.out (by omega) (by have := HW.out.2.2.1; omega) HW.out.2.2.2.2.1 HW.out.2.2.2.2.2)
      clear e1 e2 e3 e4
      go_wp2_with fail
      refine HGR.out.mono ?_
      rintro e w4 ⟨rfl, T', Ks', hA⟩
      have hperm : List.Perm (ents T') E := by
        have := hA.perm
        rw [List.take_length] at this
        exact this.trans HW.out.2.1
      have hg0 : goneN T' = 0 := hA.gone
      have hN := hA.len
      have hC4 : Chg B w w4 := (HC.out.trans' (Chg.of XQ3.out)).trans hA.chg fun g hg _ => hg ▸ HXB.out
      obtain ⟨f', hf', hfree', hno'⟩ : ∃ f, findP T' key = (none, some f) ∧ FreeAt T' key f ∧ ∀ (i : Nat) (p : Pl), T'[i]? = some p → p.st = 1 → p.key ≠ key := by
        rcases find_spec hA.good key with ⟨i, p, _, hpi, hp1, hpk⟩ | h9
        · exact absurd (hperm.mem_iff.1 (mem_ents.2 ⟨i, p, hpi, hp1, hpk, rfl⟩)) (HIN.out _)
        · exact h9
      have HF2 := hide (find_any key A n c w4 _ x _ _ _ _ _ T' Ks' hA.ix (HKA.out _ hC4) hA.good.st (by omega))
      rw [hf'] at HF2
      obtain ⟨q, hq, hq1⟩ := hfree'.2
      have hT0 : 0 < T.length := HW.out.1.pos
      have hinv := HW.out.2.2.1
      have hinv2 := HW.out.2.2.2.1
      have hroom : 4 * (E.length + goneN T' + 1) ≤ 3 * T'.length ∧ T'.length ≤ 4 * most + 8 := by
        rw [hg0, hN]
        split <;> omega
      have HRD0 := hide (show Ready w w4 B (fun b => B b ∨ b = wq.heap.size) x wq.heap.size most probes 0 T' Ks' E key f' q from ⟨hA.ix, hA.good, hperm, hq, hfree', hno', hroom.1, hroom.2, hA.keys, by have := HI3.out.blk.lt; omega, fun b hb => hb.imp id fun h => by subst h; exact (HC.out.trans' (Chg.of XQ3.out)).size, hC4⟩)
      clear hA hperm hN hC4 hf' hfree' hno' hinv hinv2 hroom hT0
      go_wp2_with fail
      refine HF2.out.mono ?_
      rintro e w5 ⟨rfl, x5⟩
      have HRD := hide (HRD0.out.ext x5)
      clear x5
      simp only [frV]
      have hfl : f' < T'.length := (List.getElem?_eq_some_iff.1 hq).1
      obtain ⟨A7, n7, c7, d0, d1, d2, _, hKs7⟩ := HRD.out.ix.tab.at_ hq
      have a4 : w5.cell? ⟨x, 4, none⟩ = some (.slice (some ⟨wq.heap.size, 0, none⟩) T'.length T'.length) := HRD.out.ix.blk.cell 4
      have hq2 := HRD.out.good.st q (List.mem_of_getElem? hq)
      have HQ := hide hq
      obtain ⟨qs, qk, qn⟩ := q
      dsimp only at d0 d1 d2 hq1 hq2
      clear hq hKs7
      obtain rfl | rfl : qs = 0 ∨ qs = 2 := by omega
      · have d0 : w5.cell? ⟨wq.heap.size, f' * 3, none⟩ = some (.int .u8 0) := d0
        go_upto_region 15 with fail
        clear d0 d1 d2 a4
        have HR8 := HRD
        have hm8 : 0 + (if (0 : Nat) = 2 then 1 else 0) = goneN T' := by rw [hg0]; rfl
        have a4 : w5.cell? ⟨x, 4, none⟩ = some (.slice (some ⟨wq.heap.size, 0, none⟩) T'.length T'.length) := HR8.out.ix.blk.cell 4
        have a4 := cell_ext a4
        have HCL := hide (fun w9 (hw9 : Ext w5 w9) => clone_key key A n c w9 (HKA.out w9 (HR8.out.chg.trans' (Chg.of hw9))) (by omega))
        refine wp_region_ext 10 (by kernel_rfl) (by kernel_rfl) (by kernel_rfl) ?_
        iterate 6
          refine wpE_k (by kernel_rfl) (by kernel_rfl) ?_
          apply Exists.intro
          refine ⟨fun w1 hw1 => ?_, fun K hK => ?_⟩
          · go_simp; first | done | rfl
          go_simp; refine hK _ _ ?_; clear hK K
        refine wpE_p [] (fun u w' => OwnKey w' (fun b => w.heap.size ≤ b) u key) (fun u w1 w2 _ h2 h => h.ext h2) rfl (by kernel_rfl) (fun w9 hw9 => ?_) ?_
        · clear a4
          simp only [LookQ]
          go_simp
          refine ⟨Ext.refl _, (HCL.out w9 hw9).mono fun e w' h => ?_⟩
          obtain ⟨K, rfl, h2, h3⟩ := h
          exact ⟨K, rfl, h2, h3.mono fun b hb => Nat.le_trans (HR8.out.chg.trans' (Chg.of hw9)).size hb.1⟩
        iterate 1
          refine wpE_k (by kernel_rfl) (by kernel_rfl) ?_
          apply Exists.intro
          refine ⟨fun w1 hw1 => ?_, fun K hK => ?_⟩
          · go_simp; first | done | rfl
          go_simp; refine hK _ _ ?_; clear hK K
        refine wpE_p [103] (fun u w' => ∃ K, u = .agg #[.int .u8 1, K, .int .i64 v] ∧ OwnKey w' (fun b => w.heap.size ≤ b) K key) (fun u w1 w2 _ h2 h => h.imp fun K hK => ⟨hK.1, hK.2.ext h2⟩) rfl (by kernel_rfl) (fun w9 hw9 => ?_) ?_
        · clear a4
          simp only [LookQ]
          intro u hu
          obtain ⟨A9, n9, c9, rfl, hK1, hK2⟩ := hu _ rfl
          clear hu
          go_simp
          exact ⟨Ext.refl _, A9, n9, c9, rfl, hK1, hK2⟩
        iterate 1
          refine wpE_k (by kernel_rfl) (by kernel_rfl) ?_
          apply Exists.intro
          refine ⟨fun w1 hw1 => ?_, fun K hK => ?_⟩
          · go_simp; first | done | rfl
          go_simp; refine hK _ _ ?_; clear hK K
        refine wpE_nil ⟨rfl, by kernel_rfl, fun w9 hw9 => ?_⟩
        simp only [EndQ]
        rintro _ ⟨K, rfl, A9, n9, c9, rfl, hK1, hK2⟩ K0 _
        have hK : OwnKey w9 (fun b => w.heap.size ≤ b) (.slice A9 n9 c9) key := ⟨A9, n9, c9, rfl, hK1, hK2⟩
        clear hK1 hK2
        simp only [List.drop]
        have HR9 := hide (HR8.out.ext hw9)
        have HW9 := hide hw9
        have HK9 := hide hK
        obtain ⟨_, _, _, d0, d1, d2, _⟩ := HR9.out.ix.tab.at_ HQ.out
        have g0 : w9.frozen? ⟨wq.heap.size, f' * 3, none⟩ = false := HR9.out.ix.tab.blk.frozen _
        have g1 : w9.frozen? ⟨wq.heap.size, f' * 3 + 1, none⟩ = false := HR9.out.ix.tab.blk.frozen _
        have g2 : w9.frozen? ⟨wq.heap.size, f' * 3 + 2, none⟩ = false := HR9.out.ix.tab.blk.frozen _
        clear a4 hw9 hK
        go_upto_region 16 with fail
        have HI10 := hide (show IxAt (((w9.setCell ⟨wq.heap.size, f' * 3, none⟩ (.int .u8 1)).setCell ⟨wq.heap.size, f' * 3 + 1, none⟩ (.slice A9 n9 c9)).setCell ⟨wq.heap.size, f' * 3 + 2, none⟩ (.int .i64 v)) _ x wq.heap.size most E.length _ (probes + 1) _ _ from (HR9.out.ix.wide HR9.out.sub).put HR9.out.ne hfl ⟨1, key, v⟩ _ (HK9.out.mono fun b hb => .inr hb))
        have HFIN := hide (show PutPost w B x most probes E key v _ ((((w9.setCell ⟨wq.heap.size, f' * 3, none⟩ (.int .u8 1)).setCell ⟨wq.heap.size, f' * 3 + 1, none⟩ (.slice A9 n9 c9)).setCell ⟨wq.heap.size, f' * 3 + 2, none⟩ (.int .i64 v)).setCell ⟨x, 1, none⟩ (.int .i64 ((E.length : Int) + 1))) from HR8.out.fin hm8 HW9.out v HK9.out hkey HLT.out hm.2)
        generalize ((w9.setCell ⟨wq.heap.size, f' * 3, none⟩ (.int .u8 1)).setCell ⟨wq.heap.size, f' * 3 + 1, none⟩ (.slice A9 n9 c9)).setCell ⟨wq.heap.size, f' * 3 + 2, none⟩ (.int .i64 v) = W10 at *
        clear d0 d1 d2 g0 g1 g2
        have a1 : W10.cell? ⟨x, 1, none⟩ = some (.int .i64 E.length) := HI10.out.blk.cell 1
        have f1 : W10.frozen? ⟨x, 1, none⟩ = false := HI10.out.blk.frozen 1
        go_wp2_with fail
        go_ret3
        exact HFIN.out
      · exact absurd (gone_pos HQ.out rfl) (by omega)
    · have HRD0 := hide (fun W (hW : IxAt W B x tb most E.length (goneN T) (probes + 1) T Ks) (hc2 : Chg B w W) q (hq : T[f]? = some q) => (⟨hW, HW.out.1, HW.out.2.1, hq, HFR.out.1, HFR.out.2, by omega, HW.out.2.2.2.1, HW.out.2.2.2.2.1, HW.out.2.2.2.2.2, fun b hb => .inl hb, hc2⟩ : Ready w W B B x tb most probes (goneN T) T Ks E key f q))
      go_enter Try.func9, Try.ntmps9
      go_wp2_with fail
      refine HF.out.mono ?_
      rintro e w1 ⟨rfl, x1⟩
      have X1 := hide x1
      have HI1 := hide (HI.out.ext x1)
      have a0 : w1.cell? ⟨x, 0, none⟩ = some (.int .i64 most) := HI1.out.blk.cell 0
      have a1 : w1.cell? ⟨x, 1, none⟩ = some (.int .i64 E.length) := HI1.out.blk.cell 1
      clear x1 a3 f3
      simp only [frV]
      go_wp2_with fail
      have a0 := cell_ext a0
      have a1 := cell_ext a1
      refine wp_region_ext 9 (by kernel_rfl) (by kernel_rfl) (by kernel_rfl) ?_
      iterate 9
        refine wpE_k (by kernel_rfl) (by kernel_rfl) ?_
        apply Exists.intro
        refine ⟨fun w1 hw1 => ?_, fun K hK => ?_⟩
        · go_simp; first | done | rfl
        go_simp; refine hK _ _ ?_; clear hK K
      refine wpE_nil ⟨rfl, by kernel_rfl, fun wq hwq => ?_⟩
      simp only [EndQ]
      refine wpList_nil ?_
      have HI2 := hide (HI1.out.ext hwq)
      have XQ := hide (X1.out.trans hwq)
      clear a0 a1 hwq
      have a1 : wq.cell? ⟨x, 1, none⟩ = some (.int .i64 E.length) := HI2.out.blk.cell 1
      have a2 : wq.cell? ⟨x, 2, none⟩ = some (.int .i64 (goneN T)) := HI2.out.blk.cell 2
      have a4 : wq.cell? ⟨x, 4, none⟩ = some (.slice (some ⟨tb, 0, none⟩) T.length T.length) := HI2.out.blk.cell 4
      go_wp2_with fail
      have a1 := cell_ext a1
      have a2 := cell_ext a2
      have a4 := cell_ext a4
      rename World => W2
      refine wp_region_ext 18 (by kernel_rfl) (by kernel_rfl) (by kernel_rfl) ?_
      iterate 18
        refine wpE_k (by kernel_rfl) (by kernel_rfl) ?_
        apply Exists.intro
        refine ⟨fun w1 hw1 => ?_, fun K hK => ?_⟩
        · go_simp; first | done | rfl
        go_simp; refine hK _ _ ?_; clear hK K
      refine wpE_nil ⟨rfl, by kernel_rfl, fun wq hwq => ?_⟩
      simp only [EndQ]
      refine wpList_nil ?_
      have HI3 := hide (HI2.out.ext hwq)
      have XQ3 := hide (XQ.out.trans hwq)
      clear a1 a2 a4 hwq
      obtain ⟨q, hq, hq1⟩ := HFR.out.1.2
      have HRD := hide (HRD0.out wq HI3.out (HC.out.trans' (Chg.of XQ3.out)) q hq)
      have hfl : f < T.length := (List.getElem?_eq_some_iff.1 hq).1
      obtain ⟨A7, n7, c7, d0, d1, d2, _, hKs7⟩ := HRD.out.ix.tab.at_ hq
      have a4 : wq.cell? ⟨x, 4, none⟩ = some (.slice (some ⟨tb, 0, none⟩) T.length T.length) := HRD.out.ix.blk.cell 4
      have hq2 := HRD.out.good.st q (List.mem_of_getElem? hq)
      have HQ := hide hq
      obtain ⟨qs, qk, qn⟩ := q
      dsimp only at d0 d1 d2 hq1 hq2
      clear hq hKs7
      obtain rfl | rfl : qs = 0 ∨ qs = 2 := by omega
      · have d0 : wq.cell? ⟨tb, f * 3, none⟩ = some (.int .u8 0) := d0
        go_upto_region 15 with fail
        clear d0 d1 d2 a4
        have HR8 := HRD
        have hm8 : goneN T + (if (0 : Nat) = 2 then 1 else 0) = goneN T := by simp
        have a4 : wq.cell? ⟨x, 4, none⟩ = some (.slice (some ⟨tb, 0, none⟩) T.length T.length) := HR8.out.ix.blk.cell 4
        have a4 := cell_ext a4
        have HCL := hide (fun w9 (hw9 : Ext wq w9) => clone_key key A n c w9 (HKA.out w9 (HR8.out.chg.trans' (Chg.of hw9))) (by omega))
        refine wp_region_ext 10 (by kernel_rfl) (by kernel_rfl) (by kernel_rfl) ?_
        iterate 6
          refine wpE_k (by kernel_rfl) (by kernel_rfl) ?_
          apply Exists.intro
          refine ⟨fun w1 hw1 => ?_, fun K hK => ?_⟩
          · go_simp; first | done | rfl
          go_simp; refine hK _ _ ?_; clear hK K
        refine wpE_p [] (fun u w' => OwnKey w' (fun b => w.heap.size ≤ b) u key) (fun u w1 w2 _ h2 h => h.ext h2) rfl (by kernel_rfl) (fun w9 hw9 => ?_) ?_
        · clear a4
          simp only [LookQ]
          go_simp
          refine ⟨Ext.refl _, (HCL.out w9 hw9).mono fun e w' h => ?_⟩
          obtain ⟨K, rfl, h2, h3⟩ := h
          exact ⟨K, rfl, h2, h3.mono fun b hb => Nat.le_trans (HR8.out.chg.trans' (Chg.of hw9)).size hb.1⟩
        iterate 1
          refine wpE_k (by kernel_rfl) (by kernel_rfl) ?_
          apply Exists.intro
          refine ⟨fun w1 hw1 => ?_, fun K hK => ?_⟩
          · go_simp; first | done | rfl
          go_simp; refine hK _ _ ?_; clear hK K
        refine wpE_p [103] (fun u w' => ∃ K, u = .agg #[.int .u8 1, K, .int .i64 v] ∧ OwnKey w' (fun b => w.heap.size ≤ b) K key) (fun u w1 w2 _ h2 h => h.imp fun K hK => ⟨hK.1, hK.2.ext h2⟩) rfl (by kernel_rfl) (fun w9 hw9 => ?_) ?_
        · clear a4
          simp only [LookQ]
          intro u hu
          obtain ⟨A9, n9, c9, rfl, hK1, hK2⟩ := hu _ rfl
          clear hu
          go_simp
          exact ⟨Ext.refl _, A9, n9, c9, rfl, hK1, hK2⟩
        iterate 1
          refine wpE_k (by kernel_rfl) (by kernel_rfl) ?_
          apply Exists.intro
          refine ⟨fun w1 hw1 => ?_, fun K hK => ?_⟩
          · go_simp; first | done | rfl
          go_simp; refine hK _ _ ?_; clear hK K
        refine wpE_nil ⟨rfl, by kernel_rfl, fun w9 hw9 => ?_⟩
        simp only [EndQ]
        rintro _ ⟨K, rfl, A9, n9, c9, rfl, hK1, hK2⟩ K0 _
        have hK : OwnKey w9 (fun b => w.heap.size ≤ b) (.slice A9 n9 c9) key := ⟨A9, n9, c9, rfl, hK1, hK2⟩
        clear hK1 hK2
        simp only [List.drop]
        have HR9 := hide (HR8.out.ext hw9)
        have HW9 := hide hw9
        have HK9 := hide hK
        obtain ⟨_, _, _, d0, d1, d2, _⟩ := HR9.out.ix.tab.at_ HQ.out
        have g0 : w9.frozen? ⟨tb, f * 3, none⟩ = false := HR9.out.ix.tab.blk.frozen _
        have g1 : w9.frozen? ⟨tb, f * 3 + 1, none⟩ = false := HR9.out.ix.tab.blk.frozen _
        have g2 : w9.frozen? ⟨tb, f * 3 + 2, none⟩ = false := HR9.out.ix.tab.blk.frozen _
        clear a4 hw9 hK
        go_upto_region 16 with fail
        have HI10 := hide (show IxAt (((w9.setCell ⟨tb, f * 3, none⟩ (.int .u8 1)).setCell ⟨tb, f * 3 + 1, none⟩ (.slice A9 n9 c9)).setCell ⟨tb, f * 3 + 2, none⟩ (.int .i64 v)) _ x tb most E.length _ (probes + 1) _ _ from (HR9.out.ix.wide HR9.out.sub).put HR9.out.ne hfl ⟨1, key, v⟩ _ (HK9.out.mono fun b hb => .inr hb))
        have HFIN := hide (show PutPost w B x most probes E key v _ ((((w9.setCell ⟨tb, f * 3, none⟩ (.int .u8 1)).setCell ⟨tb, f * 3 + 1, none⟩ (.slice A9 n9 c9)).setCell ⟨tb, f * 3 + 2, none⟩ (.int .i64 v)).setCell ⟨x, 1, none⟩ (.int .i64 ((E.length : Int) + 1))) from HR8.out.fin hm8 HW9.out v HK9.out hkey HLT.out hm.2)
        generalize ((w9.setCell ⟨tb, f * 3, none⟩ (.int .u8 1)).setCell ⟨tb, f * 3 + 1, none⟩ (.slice A9 n9 c9)).setCell ⟨tb, f * 3 + 2, none⟩ (.int .i64 v) = W10 at *
        clear d0 d1 d2 g0 g1 g2
        have a1 : W10.cell? ⟨x, 1, none⟩ = some (.int .i64 E.length) := HI10.out.blk.cell 1
        have f1 : W10.frozen? ⟨x, 1, none⟩ = false := HI10.out.blk.frozen 1
        go_wp2_with fail
        go_ret3
        exact HFIN.out
      · have d0 : wq.cell? ⟨tb, f * 3, none⟩ = some (.int .u8 2) := d0
        have a2 : wq.cell? ⟨x, 2, none⟩ = some (.int .i64 (goneN T)) := HRD.out.ix.blk.cell 2
        have f2 : wq.frozen? ⟨x, 2, none⟩ = false := HRD.out.ix.blk.frozen 2
        have hg1 := gone_pos HQ.out rfl
        have hg3 := hide hg1
        go_upto_region 15 with fail
        have HR8 := hide (HRD.out.marks (goneN T - 1) ((goneN T : Int) - 1) (by omega))
        generalize wq.setCell ⟨x, 2, none⟩ (.int .i64 ((goneN T : Int) - 1)) = W8 at *
        clear d0 d1 d2 a4 a2 f2
        have hm8 : (goneN T - 1) + (if (2 : Nat) = 2 then 1 else 0) = goneN T := by simp; omega
        have a4 : W8.cell? ⟨x, 4, none⟩ = some (.slice (some ⟨tb, 0, none⟩) T.length T.length) := HR8.out.ix.blk.cell 4
        have a4 := cell_ext a4
        have HCL := hide (fun w9 (hw9 : Ext W8 w9) => clone_key key A n c w9 (HKA.out w9 (HR8.out.chg.trans' (Chg.of hw9))) (by omega))
        refine wp_region_ext 10 (by kernel_rfl) (by kernel_rfl) (by kernel_rfl) ?_
        iterate 6
          refine wpE_k (by kernel_rfl) (by kernel_rfl) ?_
          apply Exists.intro
          refine ⟨fun w1 hw1 => ?_, fun K hK => ?_⟩
          · go_simp; first | done | rfl
          go_simp; refine hK _ _ ?_; clear hK K
        refine wpE_p [] (fun u w' => OwnKey w' (fun b => w.heap.size ≤ b) u key) (fun u w1 w2 _ h2 h => h.ext h2) rfl (by kernel_rfl) (fun w9 hw9 => ?_) ?_
        · clear a4
          simp only [LookQ]
          go_simp
          refine ⟨Ext.refl _, (HCL.out w9 hw9).mono fun e w' h => ?_⟩
          obtain ⟨K, rfl, h2, h3⟩ := h
          exact ⟨K, rfl, h2, h3.mono fun b hb => Nat.le_trans (HR8.out.chg.trans' (Chg.of hw9)).size hb.1⟩
        iterate 1
          refine wpE_k (by kernel_rfl) (by kernel_rfl) ?_
          apply Exists.intro
          refine ⟨fun w1 hw1 => ?_, fun K hK => ?_⟩
          · go_simp; first | done | rfl
          go_simp; refine hK _ _ ?_; clear hK K
        refine wpE_p [103] (fun u w' => ∃ K, u = .agg #[.int .u8 1, K, .int .i64 v] ∧ OwnKey w' (fun b => w.heap.size ≤ b) K key) (fun u w1 w2 _ h2 h => h.imp fun K hK => ⟨hK.1, hK.2.ext h2⟩) rfl (by kernel_rfl) (fun w9 hw9 => ?_) ?_
        · clear a4
          simp only [LookQ]
          intro u hu
          obtain ⟨A9, n9, c9, rfl, hK1, hK2⟩ := hu _ rfl
          clear hu
          go_simp
          exact ⟨Ext.refl _, A9, n9, c9, rfl, hK1, hK2⟩
        iterate 1
          refine wpE_k (by kernel_rfl) (by kernel_rfl) ?_
          apply Exists.intro
          refine ⟨fun w1 hw1 => ?_, fun K hK => ?_⟩
          · go_simp; first | done | rfl
          go_simp; refine hK _ _ ?_; clear hK K
        refine wpE_nil ⟨rfl, by kernel_rfl, fun w9 hw9 => ?_⟩
        simp only [EndQ]
        rintro _ ⟨K, rfl, A9, n9, c9, rfl, hK1, hK2⟩ K0 _
        have hK : OwnKey w9 (fun b => w.heap.size ≤ b) (.slice A9 n9 c9) key := ⟨A9, n9, c9, rfl, hK1, hK2⟩
        clear hK1 hK2
        simp only [List.drop]
        have HR9 := hide (HR8.out.ext hw9)
        have HW9 := hide hw9
        have HK9 := hide hK
        obtain ⟨_, _, _, d0, d1, d2, _⟩ := HR9.out.ix.tab.at_ HQ.out
        have g0 : w9.frozen? ⟨tb, f * 3, none⟩ = false := HR9.out.ix.tab.blk.frozen _
        have g1 : w9.frozen? ⟨tb, f * 3 + 1, none⟩ = false := HR9.out.ix.tab.blk.frozen _
        have g2 : w9.frozen? ⟨tb, f * 3 + 2, none⟩ = false := HR9.out.ix.tab.blk.frozen _
        clear a4 hw9 hK
        go_upto_region 16 with fail
        have HI10 := hide (show IxAt (((w9.setCell ⟨tb, f * 3, none⟩ (.int .u8 1)).setCell ⟨tb, f * 3 + 1, none⟩ (.slice A9 n9 c9)).setCell ⟨tb, f * 3 + 2, none⟩ (.int .i64 v)) _ x tb most E.length _ (probes + 1) _ _ from (HR9.out.ix.wide HR9.out.sub).put HR9.out.ne hfl ⟨1, key, v⟩ _ (HK9.out.mono fun b hb => .inr hb))
        have HFIN := hide (show PutPost w B x most probes E key v _ ((((w9.setCell ⟨tb, f * 3, none⟩ (.int .u8 1)).setCell ⟨tb, f * 3 + 1, none⟩ (.slice A9 n9 c9)).setCell ⟨tb, f * 3 + 2, none⟩ (.int .i64 v)).setCell ⟨x, 1, none⟩ (.int .i64 ((E.length : Int) + 1))) from HR8.out.fin hm8 HW9.out v HK9.out hkey HLT.out hm.2)
        generalize ((w9.setCell ⟨tb, f * 3, none⟩ (.int .u8 1)).setCell ⟨tb, f * 3 + 1, none⟩ (.slice A9 n9 c9)).setCell ⟨tb, f * 3 + 2, none⟩ (.int .i64 v) = W10 at *
        clear d0 d1 d2 g0 g1 g2
        have a1 : W10.cell? ⟨x, 1, none⟩ = some (.int .i64 E.length) := HI10.out.blk.cell 1
        have f1 : W10.frozen? ⟨x, 1, none⟩ = false := HI10.out.blk.frozen 1
        go_wp2_with fail
        go_ret3
        exact HFIN.out

theorem put_any {w : World} {B : Nat → Prop} {x most probes : Nat} {E : List (List UInt8 × Int)} (h : HIx w B x most probes E) (hp : probes ≤ 4611686018427387904) (key : List UInt8) (v : Int) (A : Option Addr) (n c : Nat) (hk : KeyAt w A n key) (ha : Aside B A) (hn : n ≤ 4611686018427387904) :
    Calls Try.prog 9 #[.pointer (some ⟨x, 0, none⟩), .slice A n c, .int .i64 v] w (PutPost w B x most probes E key v) := by
  by_cases hl : 4096 < n
  · exact put_long h hp key v A n c hk.len hl hn
  · by_cases hin : ∃ u, (key, u) ∈ E
    · exact put_there h hp key v A n c hk ha (by omega) hin
    · exact put_new h hp key v A n c hk ha (by omega) (fun u hu => hin ⟨u, hu⟩)
end Go.Proofs.Ytlpbkhdpfmknkaa
