/-
  How numbers among the arguments are opened.
-/
import Derived.Test.YtifloafhpeeepaaClose
namespace Go.Proofs.Ytifloafhpeeepaa
open Go.RowKit Go.ChangeShapes Go.WideShapes Go.ChangeAt Go.Deep

section
variable {H : Type} {enc : TypeId × Value → H} {w : World} {base : Nat} {spare : Nat → Bool} {held : Bool}
set_option maxRecDepth 100000 in
theorem open_int {t : TypeId} {v : Value} {d : DataW H} {p : List MemPlace} {b0 : Nat} (ht : Try.prog.underlying t = some (.int .i64)) (hok : Value.okWide Try.prog w .any base t v) (h : DataW.Trod enc Try.prog w b0 spare held t v d p) :
    ∃ x : Int, v = .int .i64 x ∧ d = .lit (.int .i64 x) ∧ p = [] ∧ (Lit.int .i64 x).wf = true := by
  obtain ⟨x, rfl⟩ := okWide_int ht hok
  obtain ⟨f, h⟩ := h
  obtain ⟨k, hk, hd, wk⟩ := DataW.trod_int ht h
  simp only [Value.cells, List.cons.injEq, and_true, Value.int.injEq, true_and] at hk
  subst hk
  injection hd with h1 h2
  exact ⟨_, rfl, h1, h2, wk⟩
end
end Go.Proofs.Ytifloafhpeeepaa
