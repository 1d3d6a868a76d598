import Derived.Test.YtpfjkjmimmklcaaPlainA
namespace Go.Proofs.Ytpfjkjmimmklcaa
open Go.RowKit

def smallR (r : List V) : Prop := ∀ v ∈ r, v.t.size ≤ 1048576
theorem smallR.get {r : List V} (h : smallR r) {i : Nat} {v : V} (hv : r[i]? = some v) : v.t.size ≤ 1048576 := h v (List.mem_of_getElem? hv)

def firstBad : List V → Nat → Int
  | [], _ => -1
  | v :: r, i => if validV v then firstBad r (i + 1) else i
theorem firstBad_drop (r : List V) (i : Nat) (v : V) (h : r[i]? = some v) : firstBad (r.drop i) i = if validV v then firstBad (r.drop (i + 1)) (i + 1) else (i : Int) := by
  rw [List.getElem?_eq_some_iff] at h
  obtain ⟨h, e⟩ := h
  rw [List.drop_eq_getElem_cons h, e]; rfl
theorem firstBad_iff : ∀ (r : List V) (i : Nat), 0 ≤ firstBad r i ↔ r.all validV = false
  | [], _ => by simp [firstBad]
  | v :: r, i => by
    have ih := firstBad_iff r (i + 1)
    by_cases h : validV v = true
    · simp only [firstBad, h, if_true, List.all_cons, Bool.true_and]; exact ih
    · have h : validV v = false := by simpa using h
      simp [firstBad, h]
theorem firstBad_all (r : List V) (i : Nat) : decide (0 ≤ firstBad r i) = !r.all validV := by
  rw [Bool.eq_iff_iff, decide_eq_true_iff, firstBad_iff]; simp

theorem all_drop (r : List V) (i : Nat) (v : V) (h : r[i]? = some v) : (r.drop i).all validV = (validV v && (r.drop (i + 1)).all validV) := by
  rw [List.getElem?_eq_some_iff] at h
  obtain ⟨h, e⟩ := h
  rw [List.drop_eq_getElem_cons h, e]; rfl

end Go.Proofs.Ytpfjkjmimmklcaa
