/-
  Contains and Equal: the program's.
-/
import Derived.Test.YthjpcnceppmnmaaFind2
namespace Go.Proofs.Ythjpcnceppmnmaa
open Go.RowKit

theorem findR_rng (f t : Qy) : 0 ≤ (findR f t).2.2 ∧ (findR f t).2.2 ≤ 100 := by
  have h := shapesP_rng f t
  unfold findR
  split
  · exact h
  · split <;> simp

set_option maxHeartbeats 2000000 in
set_option maxRecDepth 100000 in
theorem contains_any (f t : Qy) (LF LT : QLoc) (w : World) (hf : QAt w LF f) (ht : QAt w LT t) (hMf : smallM 1048576 f) (hMt : smallM 1048576 t) :
    Calls Try.prog 18 #[qval f.name LF, qval t.name LT] w fun e w' => e = .returned (.tuple #[.bool (findR f t).2.1, .int .i64 (findR f t).2.2]) ∧ Ext w w' := by
  have HF := hide (fun w1 (h1 : Ext w w1) => find_any f t LF LT w1 (hf.ext h1) (ht.ext h1) hMf hMt)
  clear hf ht hMf hMt
  have hE := (Ext.alloc w (.cells #[.string f.name, .slice LF.A LF.n LF.c, .slice LF.B LF.m LF.d] 25)).alloc' (.cells #[.string t.name, .slice LT.A LT.n LT.c, .slice LT.B LT.m LT.d] 25)
  have HE := hide hE; clear hE
  generalize findR f t = r at *
  obtain ⟨im, ok, er⟩ := r
  obtain ⟨A, n, c, B, m, d⟩ := LF
  obtain ⟨A', n', c', B', m', d'⟩ := LT
  simp only [qval] at *
  go_enter Try.func18, Try.ntmps18
  go_wp2_with ((with_reducible refine (HF.out _ HE.out).mono ?_); rintro e w1 ⟨A1, c1, rfl, _, h2⟩; have E1 := hide h2; clear h2)
  go_ret2
  exact ⟨rfl, HE.out.trans E1.out⟩

/-- Equal -/
def eqR (a b : Qy) : Bool × Int := if (findR a b).2.2 ≠ 0 then (false, (findR a b).2.2) else ((findR a b).2.1 && (findR b a).2.1, 0)
set_option maxHeartbeats 2000000 in
set_option maxRecDepth 100000 in
theorem equal_any (f t : Qy) (LF LT : QLoc) (w : World) (hf : QAt w LF f) (ht : QAt w LT t) (hMf : smallM 1048576 f) (hMt : smallM 1048576 t) :
    Calls Try.prog 19 #[qval f.name LF, qval t.name LT] w fun e w' => e = .returned (.tuple #[.bool (eqR f t).1, .int .i64 (eqR f t).2]) ∧ Ext w w' := by
  have HF := hide (fun w1 (h1 : Ext w w1) => contains_any f t LF LT w1 (hf.ext h1) (ht.ext h1) hMf hMt)
  have HT := hide (fun w1 (h1 : Ext w w1) => contains_any t f LT LF w1 (ht.ext h1) (hf.ext h1) hMt hMf)
  clear hf ht hMf hMt
  have hE := (Ext.alloc w (.cells #[.string f.name, .slice LF.A LF.n LF.c, .slice LF.B LF.m LF.d] 25)).alloc' (.cells #[.string t.name, .slice LT.A LT.n LT.c, .slice LT.B LT.m LT.d] 25)
  have HB0 := hide (((Blk.new w 25 #[.string f.name, .slice LF.A LF.n LF.c, .slice LF.B LF.m LF.d]).ext (Ext.alloc _ (.cells #[.string t.name, .slice LT.A LT.n LT.c, .slice LT.B LT.m LT.d] 25))))
  have HB1 := hide (Blk.new (w.alloc (.cells #[.string f.name, .slice LF.A LF.n LF.c, .slice LF.B LF.m LF.d] 25)) 25 #[.string t.name, .slice LT.A LT.n LT.c, .slice LT.B LT.m LT.d])
  rw [World.size_alloc] at HB1
  have HE := hide hE; clear hE
  unfold eqR
  have hrng := findR_rng f t
  generalize findR f t = r at *
  generalize findR t f = r' at *
  obtain ⟨im, ok, er⟩ := r
  obtain ⟨im', ok', er'⟩ := r'
  obtain ⟨A, n, c, B, m, d⟩ := LF
  obtain ⟨A', n', c', B', m', d'⟩ := LT
  simp only [qval] at *
  by_cases h0 : er = 0
  · subst h0
    simp only [ne_eq, not_true_eq_false, if_false]
    go_enter Try.func19, Try.ntmps19
    go_wp2_with (first | ((with_reducible refine (HF.out _ HE.out).mono ?_); rintro e w1 ⟨rfl, h2⟩; have E1 := hide h2; have a0 := (HB0.out.ext h2).cell 0; have a1 := (HB0.out.ext h2).cell 1; have a2 := (HB0.out.ext h2).cell 2; have b0 := (HB1.out.ext h2).cell 0; have b1 := (HB1.out.ext h2).cell 1; have b2 := (HB1.out.ext h2).cell 2; clear h2) | ((with_reducible refine (HT.out _ (HE.out.trans E1.out)).mono ?_); rintro e w2 ⟨rfl, h3⟩; have E2 := hide h3; clear h3))
    all_goals go_ret2
    all_goals exact ⟨by simp_all, (HE.out.trans E1.out).trans E2.out⟩
  · simp only [ne_eq, h0, not_false_eq_true, if_true]
    have h1 : (er != 0) = true := by simpa using h0
    clear h0
    go_enter Try.func19, Try.ntmps19
    go_wp2_with ((with_reducible refine (HF.out _ HE.out).mono ?_); rintro e w1 ⟨rfl, h2⟩; have E1 := hide h2; clear h2)
    go_ret2
    exact ⟨rfl, HE.out.trans E1.out⟩
end Go.Proofs.Ythjpcnceppmnmaa
