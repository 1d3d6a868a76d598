/-
  ContainCompares: the walk.
-/
import Derived.Test.YtpfjkjmimmklcaaAwake
namespace Go.Proofs.Ytpfjkjmimmklcaa
open Go.RowKit

/-- a value that reads as the query -/
def IsQ (q : Qy) : Value → World → Prop := fun u w => ∃ L, u = qval q.name L ∧ QAt w L q
theorem IsQ.ext {q : Qy} {u : Value} {w w' : World} (hw : Ext w w') (h : IsQ q u w) : IsQ q u w' := by
  obtain ⟨L, h1, h2⟩ := h
  exact ⟨L, h1, h2.ext hw⟩
theorem copy_isq {q : Qy} {L : QLoc} {w : World} (hq : QAt w L q) (hM : smallM 1048576 q) :
    Calls Try.prog 14 #[.agg #[.string q.name, .slice L.A L.n L.c, .slice L.B L.m L.d]] w fun e w' => ∃ v, e = .returned v ∧ Ext w w' ∧ IsQ q v w' :=
  (copy_query q L w hq hM).mono fun _ _ ⟨L', h1, h2, h3⟩ => ⟨_, h1, h3, L', rfl, h2.qat⟩

end Go.Proofs.Ytpfjkjmimmklcaa
