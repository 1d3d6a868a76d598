/-
  Does a row stand in a list?
-/
import Derived.Test.YtahdiiaadjdmcaaGaD
namespace Go.Proofs.Ytahdiiaadjdmcaa
open Go.RowKit

/-- where it stands first, or -1 -/
def plcR (r : List V) : List (List V) → Nat → Int
  | [], _ => -1
  | s :: l, i => if sameR s r then i else plcR r l (i + 1)
theorem plcR_drop (r : List V) (xs : List (List V)) (i : Nat) (x : List V) (h : xs[i]? = some x) : plcR r (xs.drop i) i = if sameR x r then (i : Int) else plcR r (xs.drop (i + 1)) (i + 1) := by
  obtain ⟨h, e⟩ := List.getElem?_eq_some_iff.1 h
  rw [List.drop_eq_getElem_cons h, e]; rfl
theorem plcR_iff (r : List V) : ∀ (xs : List (List V)) (i : Nat), 0 ≤ plcR r xs i ↔ r ∈ xs
  | [], _ => by simp [plcR]
  | s :: l, i => by
    unfold plcR
    by_cases h : sameR s r = true
    · have e := sameR_iff.1 h
      subst e
      simp [h]
    · rw [if_neg h, plcR_iff r l (i + 1), List.mem_cons]
      constructor
      · exact .inr
      · rintro (rfl | h2)
        · exact absurd (sameR_iff.2 rfl) h
        · exact h2

end Go.Proofs.Ytahdiiaadjdmcaa
