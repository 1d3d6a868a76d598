/-
  ContainCores: the walk.
-/
import Derived.Test.YthjpcnceppmnmaaRefCore
namespace Go.Proofs.Ythjpcnceppmnmaa
open Go.RowKit

theorem coreP_small {M : Nat} : ∀ (k : Nat) (q : Qy), smallM M q → smallM M (coreP k q)
  | 0, _, h => h
  | k + 1, q, h => by
    simp only [coreP]
    split
    · exact coreP_small k _ (withoutQ_small h)
    · exact h
theorem coreR_small {q : Qy} (h : smallM 1048576 q) : smallM 1048576 (coreR q).1 := by
  unfold coreR
  split
  · exact ⟨Nat.zero_le _, Nat.zero_le _, fun _ h => (by cases h), Nat.zero_le _, fun _ h => (by cases h)⟩
  · exact coreP_small _ q h
theorem coreR_rng (q : Qy) : 0 ≤ (coreR q).2 ∧ (coreR q).2 ≤ 100 := by
  unfold coreR
  split
  · exact shapeQ_rng q
  · simp
theorem core_out (q : Qy) (L : QLoc) (w : World) (hq : QAt w L q) (hM : smallM 1048576 q) :
    Calls Try.prog 24 #[qval q.name L] w fun e w' => ∃ A n c B m d, e = .returned (.tuple #[.agg #[.string (coreR q).1.name, .slice A n c, .slice B m d], .int .i64 (coreR q).2]) ∧ QAt w' ⟨A, n, c, B, m, d⟩ (coreR q).1 ∧ Ext w w' :=
  (core_any q L w hq hM).mono fun _ _ ⟨_, h1, h2, h3⟩ => ⟨_, _, _, _, _, _, h1, h2, h3⟩
theorem ref_core_out (q : Qy) (L : QLoc) (w : World) (hq : QAt w L q) (hM : smallM 1048576 q) :
    Calls Try.prog 25 #[qval q.name L] w fun e w' => ∃ A n c B m d, e = .returned (.tuple #[.agg #[.string (coreR q).1.name, .slice A n c, .slice B m d], .int .i64 (coreR q).2]) ∧ QAt w' ⟨A, n, c, B, m, d⟩ (coreR q).1 ∧ Ext w w' :=
  (ref_core q L w hq hM).mono fun _ _ ⟨_, h1, h2, h3⟩ => ⟨_, _, _, _, _, _, h1, h2, h3⟩
theorem copy_qout (q : Qy) (L : QLoc) (w : World) (hq : QAt w L q) (hM : smallM 1048576 q) :
    Calls Try.prog 12 #[qval q.name L] w fun e w' => ∃ A n c B m d, e = .returned (.agg #[.string q.name, .slice A n c, .slice B m d]) ∧ QAt w' ⟨A, n, c, B, m, d⟩ q ∧ Ext w w' :=
  (copy_query q L w hq hM).mono fun _ _ ⟨_, h1, h2, h3⟩ => ⟨_, _, _, _, _, _, h1, h2.qat, h3⟩

set_option maxHeartbeats 8000000 in
set_option maxRecDepth 100000 in
theorem law_cores (q : Qy) (L : QLoc) (w : World) (hq : QAt w L q) (hM : smallM 1048576 q) :
    Calls Try.prog 6 #[qval q.name L] w fun e w' => e = .returned (.bool true) ∧ Ext w w' := by
  have HCP := hide (fun w1 (h1 : Ext w w1) => copy_qout q L w1 (hq.ext h1) hM)
  have HRC := hide (fun w1 (h1 : Ext w w1) => ref_core_out q L w1 (hq.ext h1) hM)
  have HCO := hide (fun L1 w1 (h1 : QAt w1 L1 q) => core_out q L1 w1 h1 hM)
  have HS1 := hide (fun L1 L2 w1 (h1 : QAt w1 L1 (coreR q).1) (h2 : QAt w1 L2 (coreR q).1) => same_query (coreR q).1 (coreR q).1 L1 L2 w1 h1 h2 (coreR_small hM))
  have HS2 := hide (fun L1 w1 (h0 : Ext w w1) (h1 : QAt w1 L1 q) => same_query q q L1 L w1 h1 (hq.ext h0) hM)
  have hsq1 : sameQ q q = true := (sameQ_iff q q).2 rfl
  have hsq2 : sameQ (coreR q).1 (coreR q).1 = true := (sameQ_iff _ _).2 rfl
  rw [hsq1] at HS2
  rw [hsq2] at HS1
  have hrg := coreR_rng q
  clear hsq1 hsq2
  generalize coreR q = r at *
  obtain ⟨rq, re⟩ := r
  dsimp only at hrg
  have HE := hide (Ext.alloc w (.cells #[.string q.name, .slice L.A L.n L.c, .slice L.B L.m L.d] 25))
  have HB0 := hide (Blk.new w 25 #[.string q.name, .slice L.A L.n L.c, .slice L.B L.m L.d])
  generalize hW2 : w.alloc (.cells #[.string q.name, .slice L.A L.n L.c, .slice L.B L.m L.d] 25) = W2 at *
  have HW2 := hide hW2; clear hW2 hq hM
  obtain ⟨A, n, c, B, m, d⟩ := L
  simp only [qval] at *
  have a0 : W2.cell? ⟨w.heap.size, 0, none⟩ = some (.string q.name) := HB0.out.cell 0
  have a1 : W2.cell? ⟨w.heap.size, 1, none⟩ = some (.slice A n c) := HB0.out.cell 1
  have a2 : W2.cell? ⟨w.heap.size, 2, none⟩ = some (.slice B m d) := HB0.out.cell 2
  have hee : (re == re) = true := by simp
  go_enter Try.func6, Try.ntmps6
  go_wp2_with (first
    | (rw [HW2.out]; (with_reducible refine (HCP.out _ HE.out).mono ?_); rintro e w1 ⟨A1, n1, c1, B1, m1, d1, rfl, q1, x1⟩; have X1 := hide x1; have Q1 := hide q1; clear q1 a0 a1 a2
       have BV := hide (Blk.new w1 25 #[.string q.name, .slice A1 n1 c1, .slice B1 m1 d1]))
    | ((with_reducible refine (HCO.out ⟨A1, n1, c1, B1, m1, d1⟩ _ (Q1.out.ext (Ext.alloc w1 _))).mono ?_); rintro e w3 ⟨A3, n3, c3, B3, m3, d3, rfl, q3, x3⟩; have X3 := hide ((X1.out.alloc' _).trans x3); have Q3 := hide q3; have BV3 := hide (BV.out.ext x3); have Q13 := hide (Q1.out.ext ((Ext.alloc w1 _).trans x3)); clear q3 x3
       have l1 : w.heap.size < w3.heap.size := (HB0.out.ext X3.out).lt
       have l2 : w.heap.size ≠ w3.heap.size := Nat.ne_of_lt l1
       have a0 : w3.cell? ⟨w.heap.size, 0, none⟩ = some (.string q.name) := (HB0.out.ext X3.out).cell 0
       have a1 : w3.cell? ⟨w.heap.size, 1, none⟩ = some (.slice A n c) := (HB0.out.ext X3.out).cell 1
       have a2 : w3.cell? ⟨w.heap.size, 2, none⟩ = some (.slice B m d) := (HB0.out.ext X3.out).cell 2
       have BC := hide (Blk.new w3 25 #[.string rq.name, .slice A3 n3 c3, .slice B3 m3 d3]))
    | ((with_reducible refine (HRC.out _ (HE.out.trans (X3.out.alloc' _))).mono ?_); rintro e w5 ⟨A5, n5, c5, B5, m5, d5, rfl, q5, x5⟩; have X5 := hide ((X3.out.alloc' _).trans x5); have Q5 := hide q5; have x35 := (Ext.alloc w3 _).trans x5; have BV5 := hide (BV3.out.ext x35); have Q15 := hide (Q13.out.ext x35); have Q35 := hide (Q3.out.ext x35); have BC5 := hide (BC.out.ext x5); clear q5 x35 l1 l2 a0 a1 a2
       have BD := hide (Blk.new w5 25 #[.string rq.name, .slice A5 n5 c5, .slice B5 m5 d5]))
    | ((with_reducible refine (awake_any _).mono ?_); rintro e w6 ⟨rfl, x6⟩; have x56 := (Ext.alloc w5 _).trans x6; have X6 := hide ((X5.out.alloc' _).trans x6); have BV6 := hide (BV5.out.ext x56); have Q16 := hide (Q15.out.ext x56); have Q36 := hide (Q35.out.ext x56); have Q56 := hide (Q5.out.ext x56); have BC6 := hide (BC5.out.ext x56); have BD6 := hide (BD.out.ext x6); clear x56
       have b0 : w6.cell? ⟨w3.heap.size, 0, none⟩ = some (.string rq.name) := BC6.out.cell 0
       have b1 : w6.cell? ⟨w3.heap.size, 1, none⟩ = some (.slice A3 n3 c3) := BC6.out.cell 1
       have b2 : w6.cell? ⟨w3.heap.size, 2, none⟩ = some (.slice B3 m3 d3) := BC6.out.cell 2
       have e0 : w6.cell? ⟨w5.heap.size, 0, none⟩ = some (.string rq.name) := BD6.out.cell 0
       have e1 : w6.cell? ⟨w5.heap.size, 1, none⟩ = some (.slice A5 n5 c5) := BD6.out.cell 1
       have e2 : w6.cell? ⟨w5.heap.size, 2, none⟩ = some (.slice B5 m5 d5) := BD6.out.cell 2)
    | ((with_reducible refine (HS1.out ⟨A3, n3, c3, B3, m3, d3⟩ ⟨A5, n5, c5, B5, m5, d5⟩ _ Q36.out Q56.out).mono ?_); rintro e w7 ⟨rfl, x7⟩; have X7 := hide (X6.out.trans x7); have Q17 := hide (Q16.out.ext x7); have BV7 := hide (BV6.out.ext x7); clear b0 b1 b2 e0 e1 e2
       have a0 : w7.cell? ⟨w.heap.size, 0, none⟩ = some (.string q.name) := (HB0.out.ext X7.out).cell 0
       have a1 : w7.cell? ⟨w.heap.size, 1, none⟩ = some (.slice A n c) := (HB0.out.ext X7.out).cell 1
       have a2 : w7.cell? ⟨w.heap.size, 2, none⟩ = some (.slice B m d) := (HB0.out.ext X7.out).cell 2
       have v0 : w7.cell? ⟨w1.heap.size, 0, none⟩ = some (.string q.name) := BV7.out.cell 0
       have v1 : w7.cell? ⟨w1.heap.size, 1, none⟩ = some (.slice A1 n1 c1) := BV7.out.cell 1
       have v2 : w7.cell? ⟨w1.heap.size, 2, none⟩ = some (.slice B1 m1 d1) := BV7.out.cell 2)
    | ((with_reducible refine (HS2.out ⟨A1, n1, c1, B1, m1, d1⟩ _ (HE.out.trans X7.out) Q17.out).mono ?_); rintro e w8 ⟨rfl, x8⟩; have X8 := hide (X7.out.trans x8); clear x8))
  go_ret
  exact ⟨rfl, HE.out.trans X8.out⟩
end Go.Proofs.Ythjpcnceppmnmaa
