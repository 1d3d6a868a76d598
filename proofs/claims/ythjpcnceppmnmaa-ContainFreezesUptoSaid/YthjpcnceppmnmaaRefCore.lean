/-
  The document's Core.
-/
import Derived.Test.YthjpcnceppmnmaaRefWithout
import Derived.Test.YthjpcnceppmnmaaCoreA
namespace Go.Proofs.Ythjpcnceppmnmaa
open Go.RowKit

theorem outB_find {q : Qy} {i : Nat} (hs : shapeQ q = 0) : (findR q (withoutQ q i)).2.1 = outB q i := by
  rw [Bool.eq_iff_iff, outB_iff (shapeQ_iff.1 hs), findR_yes, shapesP_iff]
  constructor
  · rintro ⟨⟨_, h1, _⟩, h2⟩; exact ⟨h1, h2⟩
  · rintro ⟨h1, h2⟩; exact ⟨⟨shapeQ_iff.1 hs, h1, rfl⟩, h2⟩
theorem find_zero {f t : Qy} (h : (findR f t).2.1 = true) : (findR f t).2.2 = 0 := by
  rw [findR_err]; exact (findR_yes.1 h).1
theorem refWo_out (q : Qy) (L : QLoc) (i : Nat) (w : World) (hq : QAt w L q) (hM : smallM 1048576 q) (hi : i < q.atoms.length) :
    Calls Try.prog 26 #[qval q.name L, .int .i64 (i : Int)] w fun e w' => ∃ A n c B m d, e = .returned (.agg #[.string q.name, .slice A n c, .slice B m d]) ∧ QAt w' ⟨A, n, c, B, m, d⟩ (withoutQ q i) ∧ Ext w w' :=
  (ref_without q L i w hq hM hi).mono fun _ _ ⟨_, h1, h2, h3⟩ => ⟨_, _, _, _, _, _, h1, h2, h3⟩

/-- a copy is handed back -/
def RetRC (w0 : World) (r : Qy) (en : Ending) (w' : World) : Prop := ∃ A n c B m d, en = .returned (.tuple #[.agg #[.string r.name, .slice A n c, .slice B m d], .int .i64 0]) ∧ (∃ wb, Copied wb w' ⟨A, n, c, B, m, d⟩ r) ∧ Ext w0 w'

set_option maxHeartbeats 4000000 in
set_option maxRecDepth 100000 in
theorem ref_core_ok (q : Qy) (L : QLoc) (w : World) (hq : QAt w L q) (hM : smallM 1048576 q) (hs : shapeQ q = 0)
    (hrec : ∀ (i : Nat) (L' : QLoc) (w' : World), i < q.atoms.length → shapeQ (withoutQ q i) = 0 → QAt w' L' (withoutQ q i) → Calls Try.prog 25 #[qval q.name L'] w' (RetRC w' (coreP (withoutQ q i).atoms.length (withoutQ q i)))) :
    Calls Try.prog 25 #[qval q.name L] w (RetRC w (coreP q.atoms.length q)) := by
  have HSH := hide (fun w1 (h1 : Ext w w1) => ref_shape q L w1 (hq.ext h1) hM)
  have HCP := hide (fun w1 (h1 : Ext w w1) => copy_out q L w1 (hq.ext h1) hM)
  have HWO := hide (fun i (h : i < q.atoms.length) w1 (h1 : Ext w w1) => refWo_out q L i w1 (hq.ext h1) hM h)
  have HFI := hide (fun i L2 w1 (h1 : Ext w w1) (h2 : QAt w1 L2 (withoutQ q i)) => ref_find q (withoutQ q i) L L2 w1 (hq.ext h1) h2 hM (withoutQ_small hM))
  have HREC := hide hrec
  have HS := hide hs
  have hml := hide hq.atoms.len
  have hm20 : L.m ≤ 1048576 := by have := hM.atomsL; have := hq.atoms.len; omega
  rw [hs] at HSH
  clear hq hM hrec hs
  obtain ⟨nm, hd, as_⟩ := q
  obtain ⟨A, n, c, B, m, d⟩ := L
  have hnm : ∀ i, (withoutQ ⟨nm, hd, as_⟩ i).name = nm := fun _ => rfl
  simp only [qval, hnm] at *
  have hE2 := (Ext.alloc w (.cells #[.string nm, .slice A n c, .slice B m d] 25)).alloc' (.cells #[.string ⟨#[]⟩, .slice none 0 0, .slice none 0 0] 25)
  have HE := hide hE2
  have HB0 := hide ((Blk.new w 25 #[.string nm, .slice A n c, .slice B m d]).ext (Ext.alloc _ (.cells #[.string ⟨#[]⟩, .slice none 0 0, .slice none 0 0] 25)))
  have HB1 := hide (show Blk ((w.alloc (.cells #[.string nm, .slice A n c, .slice B m d] 25)).alloc (.cells #[.string ⟨#[]⟩, .slice none 0 0, .slice none 0 0] 25)) (w.heap.size + 1) 25 #[.string ⟨#[]⟩, .slice none 0 0, .slice none 0 0] from Blk.newAt (World.size_alloc _ _))
  generalize hW2 : (w.alloc (.cells #[.string nm, .slice A n c, .slice B m d] 25)).alloc (.cells #[.string ⟨#[]⟩, .slice none 0 0, .slice none 0 0] 25) = W2 at *
  have HW2 := hide hW2
  clear hW2 hE2 hnm
  have a0 : W2.cell? ⟨w.heap.size, 0, none⟩ = some (.string nm) := HB0.out.cell 0
  have a1 : W2.cell? ⟨w.heap.size, 1, none⟩ = some (.slice A n c) := HB0.out.cell 1
  have a2 : W2.cell? ⟨w.heap.size, 2, none⟩ = some (.slice B m d) := HB0.out.cell 2
  go_enter Try.func25, Try.ntmps25
  go_wp2_with (rw [HW2.out]; (with_reducible refine (HSH.out _ HE.out).mono ?_); rintro e w1 ⟨rfl, h1⟩; have X1 := hide h1; clear h1 a0 a1 a2)
  go_loopw [5, 6, 7, 8, 9] (fun s5 _ _ _ _ w' => ∃ i : Nat, i ≤ m ∧ s5 = .int .i64 i ∧ Hid (Ext W2 w') ∧ Hid (firstOut ⟨nm, hd, as_⟩ 0 m = firstOut ⟨nm, hd, as_⟩ i (m - i))) (fun s5 _ _ _ _ _ => m - (intOf s5).toNat)
  case atStart => exact ⟨0, by omega, rfl, X1.out, rfl⟩
  case round =>
    obtain ⟨i, him, rfl, hX, hfo⟩ := hrel
    have b0 : wr.cell? ⟨w.heap.size, 0, none⟩ = some (.string nm) := (HB0.out.ext hX.out).cell 0
    have b1 : wr.cell? ⟨w.heap.size, 1, none⟩ = some (.slice A n c) := (HB0.out.ext hX.out).cell 1
    have b2 : wr.cell? ⟨w.heap.size, 2, none⟩ = some (.slice B m d) := (HB0.out.ext hX.out).cell 2
    by_cases h : i < m
    · have hil := hide (show i < as_.length by have := hml.out; omega)
      have HWI := hide (HWO.out i hil.out)
      have HFF := hide (HFI.out i)
      have HRR := hide (fun L' w' h1 h2 => HREC.out i L' w' hil.out h1 h2)
      have hob := hide (outB_find (i := i) HS.out)
      have hz := hide (find_zero (f := ⟨nm, hd, as_⟩) (t := withoutQ ⟨nm, hd, as_⟩ i))
      have hsz := hide (show outB ⟨nm, hd, as_⟩ i = true → shapeQ (withoutQ ⟨nm, hd, as_⟩ i) = 0 from fun h => shapeQ_iff.2 ((outB_iff (shapeQ_iff.1 HS.out)).1 h).1)
      have hst := hide (show firstOut ⟨nm, hd, as_⟩ i (m - i) = if outB ⟨nm, hd, as_⟩ i then some i else firstOut ⟨nm, hd, as_⟩ (i + 1) (m - (i + 1)) by
        rw [show m - i = (m - (i + 1)) + 1 by omega]; rfl)
      have hcs := hide (show outB ⟨nm, hd, as_⟩ i = true → coreP as_.length ⟨nm, hd, as_⟩ = coreP (withoutQ ⟨nm, hd, as_⟩ i).atoms.length (withoutQ ⟨nm, hd, as_⟩ i) from fun hb => coreP_step (q := ⟨nm, hd, as_⟩) (by
        have h1 := hfo.out.trans hst.out
        rw [hb, if_pos rfl] at h1
        have := hml.out
        rw [← this]; exact h1) (withoutQ_len hil.out))
      have hrg := findR_rng ⟨nm, hd, as_⟩ (withoutQ ⟨nm, hd, as_⟩ i)
      generalize findR ⟨nm, hd, as_⟩ (withoutQ ⟨nm, hd, as_⟩ i) = fr at *
      obtain ⟨im, fb, fe⟩ := fr
      dsimp only at *
      have hm1 := hide h; clear h
      cases fb with
      | true =>
        have hfe : fe = 0 := hz.out rfl
        subst hfe
        have HB := hide (hob.out.symm)
        go_wp2_with (first
          | ((with_reducible refine (HWI.out _ (HE.out.trans hX.out)).mono ?_); rintro e w2 ⟨A5, n5, c5, B5, m5, d5, rfl, q5, x5⟩; have X5 := hide (hX.out.trans x5); have Q5 := hide q5; clear x5 q5 b0 b1 b2
             have b0 : w2.cell? ⟨w.heap.size, 0, none⟩ = some (.string nm) := (HB0.out.ext X5.out).cell 0
             have b1 : w2.cell? ⟨w.heap.size, 1, none⟩ = some (.slice A n c) := (HB0.out.ext X5.out).cell 1
             have b2 : w2.cell? ⟨w.heap.size, 2, none⟩ = some (.slice B m d) := (HB0.out.ext X5.out).cell 2
             have l1 : w.heap.size < w2.heap.size := (HB0.out.ext X5.out).lt
             have l2 : w.heap.size ≠ w2.heap.size := Nat.ne_of_lt l1)
          | ((with_reducible refine (HFF.out ⟨A5, n5, c5, B5, m5, d5⟩ _ (HE.out.trans (X5.out.alloc' _)) (Q5.out.ext (Ext.alloc _ _))).mono ?_); rintro e w4 ⟨A4, c4, rfl, _, h4⟩; have X6 := hide ((X5.out.alloc' _).trans h4); have Q6 := hide (Q5.out.ext ((Ext.alloc _ _).trans h4)); have BR := hide ((Blk.new w2 25 #[.string nm, .slice A5 n5 c5, .slice B5 m5 d5]).ext h4); clear h4 b0 b1 b2
             have c0 : w4.cell? ⟨w2.heap.size, 0, none⟩ = some (.string nm) := BR.out.cell 0
             have c1 : w4.cell? ⟨w2.heap.size, 1, none⟩ = some (.slice A5 n5 c5) := BR.out.cell 1
             have c2 : w4.cell? ⟨w2.heap.size, 2, none⟩ = some (.slice B5 m5 d5) := BR.out.cell 2)
          | ((with_reducible refine (HRR.out ⟨A5, n5, c5, B5, m5, d5⟩ _ (hsz.out HB.out) Q6.out).mono ?_); rintro e w5 ⟨A7, n7, c7, B7, m7, d7, rfl, q7, h5⟩; have X7 := hide (X6.out.trans h5); have Q7 := hide q7; clear h5 c0 c1 c2
             have r := HB1.out.ext X7.out
             have r0 : w5.cell? ⟨w.heap.size + 1, 0, none⟩ = some (.string ⟨#[]⟩) := r.cell 0
             have r1 : w5.cell? ⟨w.heap.size + 1, 1, none⟩ = some (.slice none 0 0) := r.cell 1
             have r2 : w5.cell? ⟨w.heap.size + 1, 2, none⟩ = some (.slice none 0 0) := r.cell 2
             have q0 := r.frozen 0
             have q1 := r.frozen 1
             have q2 := r.frozen 2
             have HR := hide r; clear r))
        refine bodyPost_ret (v := .tuple #[.agg #[.string (coreP (withoutQ ⟨nm, hd, as_⟩ i).atoms.length (withoutQ ⟨nm, hd, as_⟩ i)).name, .slice A7 n7 c7, .slice B7 m7 d7], .int .i64 0]) (by simp [results, Try.results25, go_sem, r0, r1, r2]) rfl ?_
        rw [hcs.out HB.out]
        obtain ⟨wb, hq7⟩ := Q7.out
        exact ⟨A7, n7, c7, B7, m7, d7, rfl, ⟨wb, hq7.set3 HR.out _ _ _⟩, (HE.out.trans X7.out).set3 (g := w.heap.size + 1) (Nat.le_succ _) _ _ _⟩
      | false =>
        have HB := hide (hob.out.symm)
        go_wp2_with (first
          | ((with_reducible refine (HWI.out _ (HE.out.trans hX.out)).mono ?_); rintro e w2 ⟨A5, n5, c5, B5, m5, d5, rfl, q5, x5⟩; have X5 := hide (hX.out.trans x5); have Q5 := hide q5; clear x5 q5 b0 b1 b2
             have b0 : w2.cell? ⟨w.heap.size, 0, none⟩ = some (.string nm) := (HB0.out.ext X5.out).cell 0
             have b1 : w2.cell? ⟨w.heap.size, 1, none⟩ = some (.slice A n c) := (HB0.out.ext X5.out).cell 1
             have b2 : w2.cell? ⟨w.heap.size, 2, none⟩ = some (.slice B m d) := (HB0.out.ext X5.out).cell 2
             have l1 : w.heap.size < w2.heap.size := (HB0.out.ext X5.out).lt
             have l2 : w.heap.size ≠ w2.heap.size := Nat.ne_of_lt l1)
          | ((with_reducible refine (HFF.out ⟨A5, n5, c5, B5, m5, d5⟩ _ (HE.out.trans (X5.out.alloc' _)) (Q5.out.ext (Ext.alloc _ _))).mono ?_); rintro e w4 ⟨A4, c4, rfl, _, h4⟩; have X6 := hide ((X5.out.alloc' _).trans h4); have Q6 := hide (Q5.out.ext ((Ext.alloc _ _).trans h4)); have BR := hide ((Blk.new w2 25 #[.string nm, .slice A5 n5 c5, .slice B5 m5 d5]).ext h4); clear h4 b0 b1 b2
             have c0 : w4.cell? ⟨w2.heap.size, 0, none⟩ = some (.string nm) := BR.out.cell 0
             have c1 : w4.cell? ⟨w2.heap.size, 1, none⟩ = some (.slice A5 n5 c5) := BR.out.cell 1
             have c2 : w4.cell? ⟨w2.heap.size, 2, none⟩ = some (.slice B5 m5 d5) := BR.out.cell 2))
        all_goals
         go_roundw
         case rel => exact ⟨i + 1, by have := hm1.out; omega, by go_num, X6.out, by have h1 := hst.out; rw [HB.out] at h1; exact hfo.out.trans h1⟩
         case measure => have := hm1.out; simp [intOf]; omega
    · have hcore := hide (show coreP as_.length ⟨nm, hd, as_⟩ = ⟨nm, hd, as_⟩ by
        have h1 := hfo.out
        rw [show m - i = 0 by omega] at h1
        exact coreP_stop (q := ⟨nm, hd, as_⟩) (by have := hml.out; rw [← this]; exact h1) _)
      go_wp2_with ((with_reducible refine (HCP.out _ (HE.out.trans hX.out)).mono ?_); rintro e w5 ⟨A7, n7, c7, B7, m7, d7, rfl, q7, h5⟩; have X7 := hide (hX.out.trans h5); have Q7 := hide q7; clear h5 b0 b1 b2
                   have r := HB1.out.ext X7.out
                   have r0 : w5.cell? ⟨w.heap.size + 1, 0, none⟩ = some (.string ⟨#[]⟩) := r.cell 0
                   have r1 : w5.cell? ⟨w.heap.size + 1, 1, none⟩ = some (.slice none 0 0) := r.cell 1
                   have r2 : w5.cell? ⟨w.heap.size + 1, 2, none⟩ = some (.slice none 0 0) := r.cell 2
                   have q0 := r.frozen 0
                   have q1 := r.frozen 1
                   have q2 := r.frozen 2
                   have HR := hide r; clear r)
      refine bodyPost_ret (v := .tuple #[.agg #[.string nm, .slice A7 n7 c7, .slice B7 m7 d7], .int .i64 0]) (by simp [results, Try.results25, go_sem, r0, r1, r2]) rfl ?_
      rw [hcore.out]
      exact ⟨A7, n7, c7, B7, m7, d7, rfl, ⟨_, Q7.out.set3 HR.out _ _ _⟩, (HE.out.trans X7.out).set3 (g := w.heap.size + 1) (Nat.le_succ _) _ _ _⟩

set_option maxHeartbeats 4000000 in
set_option maxRecDepth 100000 in
theorem ref_core_bad (q : Qy) (L : QLoc) (w : World) (hq : QAt w L q) (hM : smallM 1048576 q) (hs : shapeQ q ≠ 0) :
    Calls Try.prog 25 #[qval q.name L] w (RetCore w (⟨.empty, [], []⟩, shapeQ q)) := by
  have HSH := hide (fun w1 (h1 : Ext w w1) => ref_shape q L w1 (hq.ext h1) hM)
  clear hq hM
  obtain ⟨nm, hd, as_⟩ := q
  obtain ⟨A, n, c, B, m, d⟩ := L
  simp only [qval] at *
  have hE2 := (Ext.alloc w (.cells #[.string nm, .slice A n c, .slice B m d] 25)).alloc' (.cells #[.string ⟨#[]⟩, .slice none 0 0, .slice none 0 0] 25)
  have HE := hide hE2
  have HB0 := hide ((Blk.new w 25 #[.string nm, .slice A n c, .slice B m d]).ext (Ext.alloc _ (.cells #[.string ⟨#[]⟩, .slice none 0 0, .slice none 0 0] 25)))
  have HB1 := hide (show Blk ((w.alloc (.cells #[.string nm, .slice A n c, .slice B m d] 25)).alloc (.cells #[.string ⟨#[]⟩, .slice none 0 0, .slice none 0 0] 25)) (w.heap.size + 1) 25 #[.string ⟨#[]⟩, .slice none 0 0, .slice none 0 0] from Blk.newAt (World.size_alloc _ _))
  generalize hW2 : (w.alloc (.cells #[.string nm, .slice A n c, .slice B m d] 25)).alloc (.cells #[.string ⟨#[]⟩, .slice none 0 0, .slice none 0 0] 25) = W2 at *
  have HW2 := hide hW2
  generalize shapeQ ⟨nm, hd, as_⟩ = sq at *
  have hs1 : (sq != 0) = true := by simpa using hs
  clear hW2 hE2 hs
  have a0 : W2.cell? ⟨w.heap.size, 0, none⟩ = some (.string nm) := HB0.out.cell 0
  have a1 : W2.cell? ⟨w.heap.size, 1, none⟩ = some (.slice A n c) := HB0.out.cell 1
  have a2 : W2.cell? ⟨w.heap.size, 2, none⟩ = some (.slice B m d) := HB0.out.cell 2
  go_enter Try.func25, Try.ntmps25
  go_wp2_with (rw [HW2.out]; (with_reducible refine (HSH.out _ HE.out).mono ?_); rintro e w1 ⟨rfl, h1⟩; have E1 := hide (HE.out.trans h1); have BR := hide (HB1.out.ext h1); clear h1 a0 a1 a2; have r0 : w1.cell? ⟨w.heap.size + 1, 0, none⟩ = some (.string ⟨#[]⟩) := BR.out.cell 0; have r1 : w1.cell? ⟨w.heap.size + 1, 1, none⟩ = some (.slice none 0 0) := BR.out.cell 1; have r2 : w1.cell? ⟨w.heap.size + 1, 2, none⟩ = some (.slice none 0 0) := BR.out.cell 2; have q0 := BR.out.frozen 0; have q1 := BR.out.frozen 1; have q2 := BR.out.frozen 2)
  refine bodyPost_ret (v := .tuple #[.agg #[.string ⟨#[]⟩, .slice none 0 0, .slice none 0 0], .int .i64 sq]) (by simp [results, Try.results25, go_sem, r0, r1, r2]) rfl ?_
  exact ⟨⟨none, 0, 0, none, 0, 0⟩, rfl, ⟨LAt.nil _, LAt.nil _, Nat.le_refl _⟩, E1.out.set3 (g := w.heap.size + 1) (Nat.le_succ _) _ _ _⟩

theorem ref_core_all : ∀ (k : Nat) (q : Qy) (L : QLoc) (w : World), q.atoms.length = k → QAt w L q → smallM 1048576 q → shapeQ q = 0 →
    Calls Try.prog 25 #[qval q.name L] w (RetRC w (coreP q.atoms.length q))
  | 0, q, L, w, hk, hq, hM, hs => ref_core_ok q L w hq hM hs fun i L' w' hi _ _ => absurd hi (by omega)
  | k + 1, q, L, w, hk, hq, hM, hs => ref_core_ok q L w hq hM hs fun i L' w' hi h1 h2 => ref_core_all k (withoutQ q i) L' w' (by have := withoutQ_len hi; omega) h2 (withoutQ_small hM) h1
theorem ref_core (q : Qy) (L : QLoc) (w : World) (hq : QAt w L q) (hM : smallM 1048576 q) :
    Calls Try.prog 25 #[qval q.name L] w (RetCore w (coreR q)) := by
  unfold coreR
  by_cases h : shapeQ q = 0
  · rw [if_neg (by simpa using h)]
    exact (ref_core_all _ q L w rfl hq hM h).mono fun e w' ⟨A, n, c, B, m, d, h1, ⟨_, h2⟩, h3⟩ => ⟨⟨A, n, c, B, m, d⟩, h1, h2.qat, h3⟩
  · rw [if_pos h]; exact ref_core_bad q L w hq hM h
end Go.Proofs.Ythjpcnceppmnmaa
