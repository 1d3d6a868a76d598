/-
  Naive: what a query means over tables, as plain data: a row that matches an atom; valuations; the walk and the document's levels.
-/
import Derived.Test.YtpfjkjmimmklcaaPlainA
namespace Go.Proofs.Ytpfjkjmimmklcaa
open Go.RowKit

/-- where a text stands in a list -/
def atN (l : List ByteArray) (x : ByteArray) : Nat := (firstI (eqB x) l 0).toNat
theorem at_mem {l : List ByteArray} {x : ByteArray} (h : x ∈ l) : ∃ k : Nat, firstI (eqB x) l 0 = (k : Int) ∧ l[k]? = some x := by
  have h0 : 0 ≤ firstI (eqB x) l 0 := (firstI_iff _ _ _).2 (memB_iff.2 h)
  obtain ⟨k, y, h1, h2, h3, _⟩ := firstI_some _ _ _ h0
  have e : y = x := of_decide_eq_true h3
  exact ⟨k, by rw [h1, Nat.zero_add], e ▸ h2⟩
theorem atN_get {l : List ByteArray} {x : ByteArray} (h : x ∈ l) : l[atN l x]? = some x := by
  obtain ⟨k, h1, h2⟩ := at_mem h
  unfold atN
  rw [h1]
  exact h2
/-- a table: a relation's name, rows -/
structure Tbl where
  rel : ByteArray
  rows : List (List V)

/-- the value stands at that place -/
def getB (l : List V) (k : Nat) (x : V) : Bool := match l[k]? with | some y => sameV y x | none => false
theorem getB_iff {l : List V} {k : Nat} {x : V} : getB l k x = true ↔ l[k]? = some x := by
  unfold getB
  cases h : l[k]? with
  | none => simp
  | some y => simp [sameV_iff]
theorem getB_of {l : List V} {k : Nat} {x y : V} (h : l[k]? = some y) : getB l k x = sameV y x := by
  unfold getB
  rw [h]

/-- the values of the atom's variables, if the row matches: as the program finds them -/
def matchGo (vars : List ByteArray) : List Tm → List V → List V → Option (List V)
  | t :: ts, x :: xs, out =>
    if noVar t then (if sameV x t.c then matchGo vars ts xs out else none)
    else if atN vars t.v = out.length then matchGo vars ts xs (out ++ [x])
    else if getB out (atN vars t.v) x then matchGo vars ts xs out else none
  | _, _, out => some out
def matchA (a : Atm) (r : List V) : Option (List V) := if r.length = a.terms.length then matchGo (varsA a) a.terms r [] else none

/-- a valuation of the first variables, joined with an atom's values: its variables' numbers -/
def joinP : List V → List Nat → List V → Option (List V)
  | val, k :: ks, v :: ms => if k < val.length then (if getB val k v then joinP val ks ms else none) else joinP (val ++ [v]) ks ms
  | val, _, _ => some val

/-- an atom, its rows, its variables' numbers -/
structure Lv where
  a : Atm
  rows : List (List V)
  ks : List Nat
def Lv.one (l : Lv) (val : List V) (r : List V) : Option (List V) := (matchA l.a r).bind fun m => joinP val l.ks m
def Lv.step (l : Lv) (val : List V) : List (List V) := l.rows.filterMap (l.one val)
/-- all valuations, in the walk's order -/
def leaves : List Lv → List V → List (List V)
  | [], val => [val]
  | l :: ls, val => (l.step val).flatMap (leaves ls)
/-- the walk's trials -/
def cost : List Lv → List V → Nat
  | [], _ => 0
  | l :: ls, val => l.rows.length + ((l.step val).map (cost ls)).sum
/-- the same among some of the rows -/
def leavesR (l : Lv) (ls : List Lv) (val : List V) (rs : List (List V)) : List (List V) := (rs.filterMap (l.one val)).flatMap (leaves ls)
def costR (l : Lv) (ls : List Lv) (val : List V) (rs : List (List V)) : Nat := rs.length + ((rs.filterMap (l.one val)).map (cost ls)).sum
theorem leaves_cons (l : Lv) (ls : List Lv) (val : List V) : leaves (l :: ls) val = leavesR l ls val l.rows := rfl
theorem cost_cons (l : Lv) (ls : List Lv) (val : List V) : cost (l :: ls) val = costR l ls val l.rows := rfl
theorem leavesR_snoc (l : Lv) (ls : List Lv) (val : List V) (rs : List (List V)) (r : List V) : leavesR l ls val (rs ++ [r]) = leavesR l ls val rs ++ (match l.one val r with | none => [] | some v => leaves ls v) := by
  unfold leavesR
  rw [List.filterMap_append, List.flatMap_append]
  congr 1
  cases h : l.one val r <;> simp [h]
theorem costR_snoc (l : Lv) (ls : List Lv) (val : List V) (rs : List (List V)) (r : List V) : costR l ls val (rs ++ [r]) = costR l ls val rs + 1 + (match l.one val r with | none => 0 | some v => cost ls v) := by
  unfold costR
  rw [List.filterMap_append, List.map_append, List.sum_append, List.length_append, List.length_singleton]
  cases h : l.one val r <;> simp [h] <;> omega

/-- the document's: all valuations of one atom more -/
def partsN : List Lv → List (List V) → List (List V)
  | [], ps => ps
  | l :: ls, ps => partsN ls (ps.flatMap l.step)
def trialsN : List Lv → List (List V) → Nat
  | [], _ => 0
  | l :: ls, ps => ps.length * l.rows.length + trialsN ls (ps.flatMap l.step)
theorem parts_leaves : ∀ (ls : List Lv) (ps : List (List V)), partsN ls ps = ps.flatMap (leaves ls)
  | [], ps => by
    simp only [partsN]
    induction ps with
    | nil => rfl
    | cons p ps ih => rw [List.flatMap_cons, ← ih]; rfl
  | l :: ls, ps => by
    rw [partsN, parts_leaves ls, List.flatMap_assoc]
    rfl
theorem trials_cost : ∀ (ls : List Lv) (ps : List (List V)), trialsN ls ps = (ps.map (cost ls)).sum
  | [], ps => by
    simp only [trialsN]
    induction ps with
    | nil => rfl
    | cons p ps ih => rw [List.map_cons, List.sum_cons, ← ih]; rfl
  | l :: ls, ps => by
    rw [trialsN, trials_cost ls]
    induction ps with
    | nil => simp
    | cons p ps ih =>
      rw [List.flatMap_cons, List.map_append, List.sum_append, List.map_cons, List.sum_cons, ← ih, List.length_cons, Nat.add_mul, Nat.one_mul]
      simp only [cost]
      omega

/-- the walk as it goes: its trials, the valuations that it comes to (with the rows tried), whether it was stopped -/
abbrev Leaf : Type := List V × List (List V)
def goRows (l : Lv) (f : List V → List (List V) → Nat × List Leaf × Bool) (val : List V) (tr : List (List V)) : List (List V) → Nat × List Leaf × Bool
  | [] => (0, [], false)
  | r :: rs => match l.one val r with
    | none => ((goRows l f val tr rs).1 + 1, (goRows l f val tr rs).2)
    | some v => if (f v (tr ++ [r])).2.2 then ((f v (tr ++ [r])).1 + 1, (f v (tr ++ [r])).2.1, true)
      else (1 + (f v (tr ++ [r])).1 + (goRows l f val tr rs).1, (f v (tr ++ [r])).2.1 ++ (goRows l f val tr rs).2.1, (goRows l f val tr rs).2.2)
def visit (st : Leaf → Bool) : List Lv → List V → List (List V) → Nat × List Leaf × Bool
  | [], val, tr => (0, [(val, tr)], st (val, tr))
  | l :: ls, val, tr => goRows l (visit st ls) val tr l.rows
/-- never stopped: all valuations -/
theorem visit_all (ls : List Lv) : ∀ (val : List V) (tr : List (List V)), (visit (fun _ => false) ls val tr).1 = cost ls val ∧ (visit (fun _ => false) ls val tr).2.1.map (·.1) = leaves ls val ∧ (visit (fun _ => false) ls val tr).2.2 = false := by
  induction ls with
  | nil => intro val tr; exact ⟨rfl, rfl, rfl⟩
  | cons l ls ih =>
    intro val tr
    rw [cost_cons, leaves_cons]
    simp only [visit]
    generalize l.rows = rs
    induction rs with
    | nil => exact ⟨rfl, rfl, rfl⟩
    | cons r rs ihr =>
      obtain ⟨h1, h2, h3⟩ := ihr
      cases h : l.one val r with
      | none =>
        have e1 : costR l ls val (r :: rs) = costR l ls val rs + 1 := by simp only [costR, List.filterMap_cons, h, List.length_cons]; omega
        have e2 : leavesR l ls val (r :: rs) = leavesR l ls val rs := by simp only [leavesR, List.filterMap_cons, h]
        rw [e1, e2]
        simp only [goRows, h]
        exact ⟨by rw [h1], h2, h3⟩
      | some v =>
        obtain ⟨g1, g2, g3⟩ := ih v (tr ++ [r])
        have e1 : costR l ls val (r :: rs) = 1 + cost ls v + costR l ls val rs := by simp only [costR, List.filterMap_cons, h, List.length_cons, List.map_cons, List.sum_cons]; omega
        have e2 : leavesR l ls val (r :: rs) = leaves ls v ++ leavesR l ls val rs := by simp only [leavesR, List.filterMap_cons, h, List.flatMap_cons]
        rw [e1, e2]
        simp only [goRows, h, g3, Bool.false_eq_true, if_false, List.map_append]
        exact ⟨by rw [g1, h1], by rw [g2, h2], h3⟩
/-- some rows are done -/
structure GoI (l : Lv) (f : List V → List (List V) → Nat × List Leaf × Bool) (val : List V) (tr : List (List V)) (rs : List (List V)) (c : Nat) (pre : List Leaf) (j cj : Nat) (prej : List Leaf) : Prop where
  n : c + (goRows l f val tr rs).1 = cj + (goRows l f val tr (rs.drop j)).1
  xs : pre ++ (goRows l f val tr rs).2.1 = prej ++ (goRows l f val tr (rs.drop j)).2.1
  b : (goRows l f val tr rs).2.2 = (goRows l f val tr (rs.drop j)).2.2
section
variable {l : Lv} {f : List V → List (List V) → Nat × List Leaf × Bool} {val : List V} {tr : List (List V)} {rs : List (List V)} {c : Nat} {pre : List Leaf} {j cj : Nat} {prej : List Leaf} {r : List V} {v : List V}
theorem GoI.start : GoI l f val tr rs c pre 0 c pre := ⟨by simp, by simp, by simp⟩
theorem GoI.end_ (h : GoI l f val tr rs c pre j cj prej) (hj : rs.length ≤ j) : c + (goRows l f val tr rs).1 = cj ∧ pre ++ (goRows l f val tr rs).2.1 = prej ∧ (goRows l f val tr rs).2.2 = false := by
  have h1 := h.n; have h2 := h.xs; have h3 := h.b
  rw [List.drop_of_length_le hj] at h1 h2 h3
  exact ⟨by simpa [goRows] using h1, by simpa [goRows] using h2, by simpa [goRows] using h3⟩
theorem GoI.more (h : GoI l f val tr rs c pre j cj prej) (hr : rs[j]? = some r) : cj + 1 ≤ c + (goRows l f val tr rs).1 := by
  obtain ⟨hl, e⟩ := List.getElem?_eq_some_iff.1 hr
  rw [h.n, List.drop_eq_getElem_cons hl]
  simp only [goRows]
  split
  · simp only; omega
  · split
    · simp only; omega
    · simp only; omega
theorem GoI.none (h : GoI l f val tr rs c pre j cj prej) (hr : rs[j]? = some r) (hv : l.one val r = .none) : GoI l f val tr rs c pre (j + 1) (cj + 1) prej := by
  obtain ⟨hl, e⟩ := List.getElem?_eq_some_iff.1 hr
  have h1 := h.n; have h2 := h.xs; have h3 := h.b
  rw [List.drop_eq_getElem_cons hl, e] at h1 h2 h3
  simp only [goRows, hv] at h1 h2 h3
  exact ⟨by omega, h2, h3⟩
theorem GoI.on (h : GoI l f val tr rs c pre j cj prej) (hr : rs[j]? = some r) (hv : l.one val r = some v) (hs : (f v (tr ++ [r])).2.2 = false) : GoI l f val tr rs c pre (j + 1) (cj + 1 + (f v (tr ++ [r])).1) (prej ++ (f v (tr ++ [r])).2.1) := by
  obtain ⟨hl, e⟩ := List.getElem?_eq_some_iff.1 hr
  have h1 := h.n; have h2 := h.xs; have h3 := h.b
  rw [List.drop_eq_getElem_cons hl, e] at h1 h2 h3
  simp only [goRows, hv, hs, Bool.false_eq_true, if_false] at h1 h2 h3
  exact ⟨by omega, by rw [List.append_assoc]; exact h2, h3⟩
theorem GoI.stop (h : GoI l f val tr rs c pre j cj prej) (hr : rs[j]? = some r) (hv : l.one val r = some v) (hs : (f v (tr ++ [r])).2.2 = true) : c + (goRows l f val tr rs).1 = cj + 1 + (f v (tr ++ [r])).1 ∧ pre ++ (goRows l f val tr rs).2.1 = prej ++ (f v (tr ++ [r])).2.1 ∧ (goRows l f val tr rs).2.2 = true := by
  obtain ⟨hl, e⟩ := List.getElem?_eq_some_iff.1 hr
  have h1 := h.n; have h2 := h.xs; have h3 := h.b
  rw [List.drop_eq_getElem_cons hl, e] at h1 h2 h3
  simp only [goRows, hv, hs, if_true] at h1 h2 h3
  exact ⟨by omega, h2, h3⟩
theorem GoI.least (h : GoI l f val tr rs c pre j cj prej) (hr : rs[j]? = some r) (hv : l.one val r = some v) : cj + 1 + (f v (tr ++ [r])).1 ≤ c + (goRows l f val tr rs).1 := by
  obtain ⟨hl, e⟩ := List.getElem?_eq_some_iff.1 hr
  have h1 := h.n
  rw [List.drop_eq_getElem_cons hl, e] at h1
  rw [h1]
  simp only [goRows, hv]
  split
  · simp only; omega
  · simp only; omega
end
end Go.Proofs.Ytpfjkjmimmklcaa
