/-
  Contains and Equal: the program's.
-/
import Derived.Test.YtpfjkjmimmklcaaFindG
namespace Go.Proofs.Ytpfjkjmimmklcaa
open Go.RowKit

theorem findR_rng (f t : Qy) : 0 ≤ (findR f t).2.2 ∧ (findR f t).2.2 ≤ 100 := by
  have h := shapesP_rng f t
  unfold findR
  split
  · exact h
  · split <;> simp

set_option maxHeartbeats 2000000 in
set_option maxRecDepth 100000 in
theorem contains_any (f t : Qy) (LF LT : QLoc) (w : World) (hf : QAt w LF f) (ht : QAt w LT t) (hMf : smallM 1048576 f) (hMt : smallM 1048576 t) :
    Calls Try.prog 36 #[qval f.name LF, qval t.name LT] w fun e w' => e = .returned (.tuple #[.bool (findR f t).2.1, .int .i64 (findR f t).2.2]) ∧ Ext w w' := by
  have HF := hide (fun w1 (h1 : Ext w w1) => find_any f t LF LT w1 (hf.ext h1) (ht.ext h1) hMf hMt)
  clear hf ht hMf hMt
  have hE := (Ext.alloc w (.cells #[.string f.name, .slice LF.A LF.n LF.c, .slice LF.B LF.m LF.d] 25)).alloc' (.cells #[.string t.name, .slice LT.A LT.n LT.c, .slice LT.B LT.m LT.d] 25)
  have HE := hide hE; clear hE
  generalize findR f t = r at *
  obtain ⟨im, ok, er⟩ := r
  obtain ⟨A, n, c, B, m, d⟩ := LF
  obtain ⟨A', n', c', B', m', d'⟩ := LT
  simp only [qval] at *
  go_enter Try.func36, Try.ntmps36
  go_wp2_with ((with_reducible refine (HF.out _ HE.out).mono ?_); rintro e w1 ⟨A1, c1, rfl, _, h2⟩; have E1 := hide h2; clear h2)
  go_ret2
  exact ⟨rfl, HE.out.trans E1.out⟩

/-- Equal -/
def eqR (a b : Qy) : Bool × Int := if (findR a b).2.2 ≠ 0 then (false, (findR a b).2.2) else ((findR a b).2.1 && (findR b a).2.1, 0)
end Go.Proofs.Ytpfjkjmimmklcaa
