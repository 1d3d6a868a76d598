/-
  The shape of a query, as plain data.
-/
import Derived.Test.YthjpcnceppmnmaaConP
import Derived.Test.YthjpcnceppmnmaaValid
namespace Go.Proofs.Ythjpcnceppmnmaa
open Go.RowKit

/-- the first place at which p holds, or -1 -/
def firstI {α : Type} (p : α → Bool) : List α → Nat → Int
  | [], _ => -1
  | x :: r, i => if p x then i else firstI p r (i + 1)
theorem firstI_drop {α : Type} (p : α → Bool) (r : List α) (i : Nat) (x : α) (h : r[i]? = some x) : firstI p (r.drop i) i = if p x then (i : Int) else firstI p (r.drop (i + 1)) (i + 1) := by
  obtain ⟨h, e⟩ := List.getElem?_eq_some_iff.1 h
  rw [List.drop_eq_getElem_cons h, e]; rfl
theorem firstI_iff {α : Type} (p : α → Bool) : ∀ (r : List α) (i : Nat), 0 ≤ firstI p r i ↔ r.any p = true
  | [], _ => by simp [firstI]
  | x :: r, i => by
    have ih := firstI_iff p r (i + 1)
    by_cases h : p x = true
    · simp [firstI, h]
    · simp only [firstI, h, List.any_cons, Bool.false_or]; exact ih
theorem firstI_any {α : Type} (p : α → Bool) (r : List α) (i : Nat) : decide (0 ≤ firstI p r i) = r.any p := by
  rw [Bool.eq_iff_iff, decide_eq_true_iff, firstI_iff]
theorem firstI_neg {α : Type} (p : α → Bool) (r : List α) (i : Nat) : (firstI p r i < 0) ↔ r.any p = false := by
  have := firstI_iff p r i
  rw [← Bool.not_eq_true, ← this]; omega
theorem firstI_some {α : Type} (p : α → Bool) : ∀ (r : List α) (i : Nat), 0 ≤ firstI p r i → ∃ (k : Nat) (x : α), firstI p r i = ((i + k : Nat) : Int) ∧ r[k]? = some x ∧ p x = true ∧ ∀ (j : Nat) (y : α), j < k → r[j]? = some y → p y = false
  | [], i, h => by simp [firstI] at h
  | x :: r, i, h => by
    by_cases hp : p x = true
    · exact ⟨0, x, by simp [firstI, hp], rfl, hp, fun j y hj => by omega⟩
    · have hp' : p x = false := by simpa using hp
      simp only [firstI, hp', Bool.false_eq_true, if_false] at h ⊢
      obtain ⟨k, y, h1, h2, h3, h4⟩ := firstI_some p r (i + 1) h
      refine ⟨k + 1, y, by rw [h1]; congr 1; omega, by simpa using h2, h3, fun j z hj hz => ?_⟩
      cases j with
      | zero =>
        obtain rfl : x = z := by simpa using hz
        exact hp'
      | succ j => exact h4 j z (by omega) (by simpa using hz)
theorem firstI_le {α : Type} (p : α → Bool) (r : List α) (i : Nat) : -1 ≤ firstI p r i ∧ firstI p r i ≤ (i + r.length : Nat) := by
  rcases Classical.em (0 ≤ firstI p r i) with h | h
  · obtain ⟨k, x, h1, h2, _⟩ := firstI_some p r i h
    have := (List.getElem?_eq_some_iff.1 h2).1
    omega
  · have : ∀ (r : List α) (i : Nat), ¬ 0 ≤ firstI p r i → firstI p r i = -1 := by
      intro r
      induction r with
      | nil => intro i _; rfl
      | cons x r ih =>
        intro i h
        simp only [firstI] at h ⊢
        split
        · rename_i hp; simp only [hp, if_true] at h; omega
        · rename_i hp; simp only [hp, Bool.false_eq_true, if_false] at h; exact ih _ h
    have := this r i h
    omega

/-- the text stands in the list -/
def eqB (x : ByteArray) : ByteArray → Bool := fun y => decide (y = x)
def memB (l : List ByteArray) (x : ByteArray) : Bool := l.any (eqB x)
theorem memB_iff {l : List ByteArray} {x : ByteArray} : memB l x = true ↔ x ∈ l := by simp [memB, eqB, List.any_eq_true]

def letterB (c : UInt8) : Bool := (decide (97 ≤ c.toNat) && decide (c.toNat ≤ 122)) || (decide (65 ≤ c.toNat) && decide (c.toNat ≤ 90)) || decide (c.toNat = 95)
def digitB (c : UInt8) : Bool := decide (48 ≤ c.toNat) && decide (c.toNat ≤ 57)
def partB (c : UInt8) : Bool := letterB c || digitB c
def headB (l : List UInt8) : Bool := match l with | [] => false | c :: _ => letterB c
/-- is it a name? -/
def nameB (s : ByteArray) : Bool := headB s.data.toList && s.data.toList.all partB && decide (s.size ≤ 16)

def nameT (t : Tm) : Bool := noVar t || nameB t.v
def nameA (a : Atm) : Bool := nameB a.rel && a.terms.all nameT
def badNameQ (q : Qy) : Bool := !(nameB q.name && q.head.all nameB && q.atoms.all nameA)
def zeroV : V := ⟨0, 0, .empty⟩
def badT (t : Tm) : Bool := if noVar t then !validV t.c else !sameV t.c zeroV
def badA (a : Atm) : Bool := a.terms.any badT
def wideA (a : Atm) : Bool := decide (5 < a.terms.length)

/-- the variables of terms, each once, behind those that are there -/
def addT (acc : List ByteArray) (t : Tm) : List ByteArray := if noVar t then acc else if memB acc t.v then acc else acc ++ [t.v]
def addTs (acc : List ByteArray) (ts : List Tm) : List ByteArray := ts.foldl addT acc
def varsA (a : Atm) : List ByteArray := addTs [] a.terms
def varsQ (q : Qy) : List ByteArray := q.atoms.foldl (fun acc a => addTs acc a.terms) []
def addV (acc : List ByteArray) (v : ByteArray) : List ByteArray := if memB acc v then acc else acc ++ [v]
theorem addTs_append (acc : List ByteArray) (a b : List Tm) : addTs acc (a ++ b) = addTs (addTs acc a) b := by simp [addTs]
theorem varsQ_flat (q : Qy) : varsQ q = addTs [] (q.atoms.flatMap (·.terms)) := by
  unfold varsQ
  suffices h : ∀ (as_ : List Atm) (acc : List ByteArray), as_.foldl (fun acc a => addTs acc a.terms) acc = addTs acc (as_.flatMap (·.terms)) from h _ _
  intro as_
  induction as_ with
  | nil => intro acc; rfl
  | cons a r ih => intro acc; rw [List.foldl_cons, ih, List.flatMap_cons, addTs_append]
theorem memB_addT {acc : List ByteArray} {t : Tm} {x : ByteArray} (h : memB acc x = true) : memB (addT acc t) x = true := by
  rw [memB_iff] at *
  unfold addT
  split
  · exact h
  · split
    · exact h
    · exact List.mem_append_left _ h
/-- adding an atom's variables is adding its terms -/
theorem addV_addTs (acc : List ByteArray) : ∀ (ts : List Tm) (pre : List ByteArray), (addTs pre ts).foldl addV acc = addTs (pre.foldl addV acc) ts
  | [], pre => rfl
  | t :: ts, pre => by
    have ih := addV_addTs acc ts (addT pre t)
    have e1 : addTs pre (t :: ts) = addTs (addT pre t) ts := rfl
    have e2 : addTs (pre.foldl addV acc) (t :: ts) = addTs (addT (pre.foldl addV acc) t) ts := rfl
    rw [e1, e2, ih]
    congr 1
    have sub : ∀ (l a : List ByteArray) (x : ByteArray), x ∈ a ∨ x ∈ l → x ∈ l.foldl addV a := by
      intro l
      induction l with
      | nil => intro a x h; simpa using h
      | cons y l ih =>
        intro a x h
        refine ih _ x ?_
        simp only [List.mem_cons] at h
        unfold addV
        split
        · rename_i hm
          rcases h with h | rfl | h
          · exact .inl h
          · exact .inl (memB_iff.1 hm)
          · exact .inr h
        · rcases h with h | rfl | h
          · exact .inl (List.mem_append_left _ h)
          · exact .inl (by simp)
          · exact .inr h
    unfold addT
    by_cases h1 : noVar t = true
    · simp [h1]
    · simp only [h1, Bool.false_eq_true, if_false]
      by_cases h2 : memB pre t.v = true
      · have h3 : memB (pre.foldl addV acc) t.v = true := memB_iff.2 (sub _ _ _ (.inr (memB_iff.1 h2)))
        simp [h2, h3]
      · simp only [h2, Bool.false_eq_true, if_false, List.foldl_append, List.foldl_cons, List.foldl_nil]
        rfl
theorem varsQ_step (acc : List ByteArray) (a : Atm) : (varsA a).foldl addV acc = addTs acc a.terms := addV_addTs acc a.terms []

/-- the first variable of the list that stood there before, or -1 -/
def dblI (l : List ByteArray) : Nat → List ByteArray → Int
  | _, [] => -1
  | i, x :: r => if memB (l.take i) x then i else dblI l (i + 1) r
theorem dblI_drop {l : List ByteArray} {i : Nat} {x : ByteArray} (h : l[i]? = some x) : dblI l i (l.drop i) = if memB (l.take i) x then (i : Int) else dblI l (i + 1) (l.drop (i + 1)) := by
  obtain ⟨h, e⟩ := List.getElem?_eq_some_iff.1 h
  rw [List.drop_eq_getElem_cons h, e]; rfl
theorem dblI_neg (l : List ByteArray) : ∀ (r : List ByteArray) (i : Nat), l.drop i = r → (dblI l i r < 0 ↔ ∀ (j : Nat) (x : ByteArray), i ≤ j → l[j]? = some x → memB (l.take j) x = false)
  | [], i, hr => by
    have : l.length ≤ i := by simpa using hr
    simp only [dblI]
    refine ⟨fun _ j x hj hx => ?_, fun _ => by omega⟩
    have := (List.getElem?_eq_some_iff.1 hx).1
    omega
  | x :: r, i, hr => by
    have hl : i < l.length := by
      rcases Nat.lt_or_ge i l.length with h | h
      · exact h
      · rw [List.drop_of_length_le h] at hr; cases hr
    rw [List.drop_eq_getElem_cons hl] at hr
    injection hr with h1 h2
    have hx : l[i]? = some x := by rw [List.getElem?_eq_getElem hl, h1]
    have ih := dblI_neg l r (i + 1) h2
    by_cases hm : memB (l.take i) x = true
    · simp only [dblI, hm, if_true]
      refine ⟨fun h => by omega, fun h => ?_⟩
      have := h i x (Nat.le_refl _) hx
      rw [hm] at this; cases this
    · have hm' : memB (l.take i) x = false := by simpa using hm
      simp only [dblI, hm', Bool.false_eq_true, if_false]
      rw [ih]
      refine ⟨fun h j y hj hy => ?_, fun h j y hj hy => h j y (by omega) hy⟩
      rcases Nat.lt_or_ge i j with hij | hij
      · exact h j y hij hy
      · obtain rfl : j = i := by omega
        rw [hx] at hy
        injection hy with hy
        rw [← hy]; exact hm'
def dblB (l : List ByteArray) : Bool := decide (0 ≤ dblI l 0 l)
def unsafeI (q : Qy) : Int := firstI (fun h => !memB (varsQ q) h) q.head 0
def unsafeB (q : Qy) : Bool := q.head.any fun h => !memB (varsQ q) h

/-- what is wrong in a query by itself -/
def shapeQ (q : Qy) : Int :=
  if badNameQ q then 72 else if q.atoms.any badA then 21 else if q.atoms.length = 0 ∨ 6 < q.atoms.length then 90
  else if q.atoms.any wideA then 91 else if dblB q.head then 92 else if unsafeB q then 93 else 0
end Go.Proofs.Ythjpcnceppmnmaa
