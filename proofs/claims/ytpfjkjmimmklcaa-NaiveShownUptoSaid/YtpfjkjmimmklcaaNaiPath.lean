/-
  A leaf of the walk as a path: each level's row is one of its rows and fits.
-/
import Derived.Test.YtpfjkjmimmklcaaNaiNV
namespace Go.Proofs.Ytpfjkjmimmklcaa
open Go.RowKit

def Path : List Lv → List V → List (List V) → List V → Prop
  | [], val, [], v => v = val
  | l :: ls, val, r :: rs, v => r ∈ l.rows ∧ ∃ v1, l.one val r = some v1 ∧ Path ls v1 rs v
  | _, _, _, _ => False
theorem Path.len : ∀ {ls : List Lv} {val : List V} {rs : List (List V)} {v : List V}, Path ls val rs v → rs.length = ls.length
  | [], _, [], _, _ => rfl
  | [], _, _ :: _, _, h => h.elim
  | _ :: _, _, [], _, h => h.elim
  | _ :: ls, _, _ :: rs, _, ⟨_, _, _, h⟩ => by rw [List.length_cons, List.length_cons, h.len]
theorem Path.mem : ∀ {ls : List Lv} {val : List V} {rs : List (List V)} {v : List V}, Path ls val rs v → ∀ (i : Nat) (l : Lv) (r : List V), ls[i]? = some l → rs[i]? = some r → r ∈ l.rows
  | [], _, _, _, _ => fun i l r h _ => by simp at h
  | _ :: _, _, [], _, h => h.elim
  | _ :: ls, _, _ :: rs, _, ⟨h1, _, _, h⟩ => fun i l r hl hr => by
    cases i with
    | zero =>
      simp only [List.getElem?_cons_zero, Option.some.injEq] at hl hr
      subst hl; subst hr; exact h1
    | succ i => exact h.mem i l r hl hr

/-- what is come to -/
theorem goRows_path {l : Lv} {ls : List Lv} {f : List V → List (List V) → Nat × List Leaf × Bool} (hf : ∀ val tr x, x ∈ (f val tr).2.1 → ∃ rs, x.2 = tr ++ rs ∧ Path ls val rs x.1) (val : List V) (tr : List (List V)) :
    ∀ (rows : List (List V)) (x : Leaf), x ∈ (goRows l f val tr rows).2.1 → ∃ r rs, r ∈ rows ∧ x.2 = tr ++ (r :: rs) ∧ ∃ v1, l.one val r = some v1 ∧ Path ls v1 rs x.1
  | [], x, hx => by simp [goRows] at hx
  | r :: rows, x, hx => by
    have hrest : x ∈ (goRows l f val tr rows).2.1 → ∃ r' rs, r' ∈ r :: rows ∧ x.2 = tr ++ (r' :: rs) ∧ ∃ v1, l.one val r' = some v1 ∧ Path ls v1 rs x.1 := fun h => by
      obtain ⟨r', rs, h1, h2⟩ := goRows_path hf val tr rows x h
      exact ⟨r', rs, List.mem_cons_of_mem _ h1, h2⟩
    have hhere : ∀ v, l.one val r = some v → x ∈ (f v (tr ++ [r])).2.1 → ∃ r' rs, r' ∈ r :: rows ∧ x.2 = tr ++ (r' :: rs) ∧ ∃ v1, l.one val r' = some v1 ∧ Path ls v1 rs x.1 := fun v hv h => by
      obtain ⟨rs, h1, h2⟩ := hf v (tr ++ [r]) x h
      exact ⟨r, rs, List.mem_cons_self, by rw [h1, List.append_assoc]; rfl, v, hv, h2⟩
    unfold goRows at hx
    split at hx
    · exact hrest hx
    · rename_i v hv
      split at hx
      · exact hhere v hv hx
      · rcases List.mem_append.1 hx with hx | hx
        · exact hhere v hv hx
        · exact hrest hx
theorem visit_path (st : Leaf → Bool) : ∀ (ls : List Lv) (val : List V) (tr : List (List V)) (x : Leaf), x ∈ (visit st ls val tr).2.1 → ∃ rs, x.2 = tr ++ rs ∧ Path ls val rs x.1
  | [], val, tr, x, hx => by
    obtain rfl : x = (val, tr) := by simpa [visit] using hx
    exact ⟨[], by simp, rfl⟩
  | l :: ls, val, tr, x, hx => by
    obtain ⟨r, rs, h1, h2, v1, h3, h4⟩ := goRows_path (l := l) (visit_path st ls) val tr l.rows x hx
    exact ⟨r :: rs, h2, h1, v1, h3, h4⟩
/-- a walk that was stopped: the last valuation did it -/
theorem goRows_stop {l : Lv} {f : List V → List (List V) → Nat × List Leaf × Bool} {st : Leaf → Bool} (hf : ∀ val tr, (f val tr).2.2 = true → ∃ x, (f val tr).2.1.getLast? = some x ∧ st x = true) (val : List V) (tr : List (List V)) :
    ∀ (rows : List (List V)), (goRows l f val tr rows).2.2 = true → ∃ x, (goRows l f val tr rows).2.1.getLast? = some x ∧ st x = true
  | [], h => by simp [goRows] at h
  | r :: rows, h => by
    unfold goRows at h ⊢
    cases hv : l.one val r with
    | none =>
      simp only [hv] at h ⊢
      exact goRows_stop hf val tr rows h
    | some v =>
      simp only [hv] at h ⊢
      by_cases hs : (f v (tr ++ [r])).2.2 = true
      · rw [if_pos hs]
        exact hf _ _ hs
      · rw [if_neg hs] at h ⊢
        obtain ⟨x, h1, h2⟩ := goRows_stop hf val tr rows h
        exact ⟨x, by simp only [List.getLast?_append, h1, Option.some_or], h2⟩
theorem visit_stop (st : Leaf → Bool) : ∀ (ls : List Lv) (val : List V) (tr : List (List V)), (visit st ls val tr).2.2 = true → ∃ x, (visit st ls val tr).2.1.getLast? = some x ∧ st x = true
  | [], val, tr, h => ⟨(val, tr), rfl, h⟩
  | l :: ls, val, tr, h => goRows_stop (visit_stop st ls) val tr l.rows h
/-- a walk that may be stopped makes no more trials -/
theorem goRows_le {l : Lv} {ls : List Lv} {f : List V → List (List V) → Nat × List Leaf × Bool} (hf : ∀ val tr, (f val tr).1 ≤ cost ls val) (val : List V) (tr : List (List V)) : ∀ (rows : List (List V)), (goRows l f val tr rows).1 ≤ costR l ls val rows
  | [] => by simp [goRows]
  | r :: rows => by
    have ih := goRows_le (l := l) hf val tr rows
    unfold goRows
    cases hv : l.one val r with
    | none =>
      have e1 : costR l ls val (r :: rows) = costR l ls val rows + 1 := by simp only [costR, List.filterMap_cons, hv, List.length_cons]; omega
      simp only
      omega
    | some v =>
      have e1 : costR l ls val (r :: rows) = 1 + cost ls v + costR l ls val rows := by simp only [costR, List.filterMap_cons, hv, List.length_cons, List.map_cons, List.sum_cons]; omega
      have h1 := hf v (tr ++ [r])
      simp only
      split
      · simp only; omega
      · simp only; omega
theorem visit_le (st : Leaf → Bool) : ∀ (ls : List Lv) (val : List V) (tr : List (List V)), (visit st ls val tr).1 ≤ cost ls val
  | [], _, _ => Nat.zero_le _
  | l :: ls, val, tr => goRows_le (visit_le st ls) val tr l.rows
/-- what is there is found -/
theorem goRows_hit {l : Lv} {ls : List Lv} {f : List V → List (List V) → Nat × List Leaf × Bool} {p : List V → Prop} (hf : ∀ val tr, (∃ v ∈ leaves ls val, p v) → (f val tr).2.2 = true) (val : List V) (tr : List (List V)) : ∀ (rows : List (List V)), (∃ v ∈ leavesR l ls val rows, p v) → (goRows l f val tr rows).2.2 = true
  | [], h => by obtain ⟨v, h, _⟩ := h; simp [leavesR] at h
  | r :: rows, h => by
    obtain ⟨v0, h, hp⟩ := h
    unfold goRows
    cases hv : l.one val r with
    | none =>
      have e2 : leavesR l ls val (r :: rows) = leavesR l ls val rows := by simp only [leavesR, List.filterMap_cons, hv]
      rw [e2] at h
      exact goRows_hit hf val tr rows ⟨v0, h, hp⟩
    | some v =>
      have e2 : leavesR l ls val (r :: rows) = leaves ls v ++ leavesR l ls val rows := by simp only [leavesR, List.filterMap_cons, hv, List.flatMap_cons]
      rw [e2] at h
      simp only
      by_cases hs : (f v (tr ++ [r])).2.2 = true
      · rw [if_pos hs]
      · rw [if_neg hs]
        rcases List.mem_append.1 h with h | h
        · exact absurd (hf v (tr ++ [r]) ⟨v0, h, hp⟩) hs
        · exact goRows_hit hf val tr rows ⟨v0, h, hp⟩
theorem visit_hit (st : Leaf → Bool) {p : List V → Prop} (hst : ∀ v tr, p v → st (v, tr) = true) : ∀ (ls : List Lv) (val : List V) (tr : List (List V)), (∃ v ∈ leaves ls val, p v) → (visit st ls val tr).2.2 = true
  | [], val, tr, ⟨v, h, hp⟩ => by
    obtain rfl : v = val := by simpa [leaves] using h
    exact hst _ _ hp
  | l :: ls, val, tr, h => goRows_hit (l := l) (p := p) (visit_hit st hst ls) val tr l.rows h
end Go.Proofs.Ytpfjkjmimmklcaa
