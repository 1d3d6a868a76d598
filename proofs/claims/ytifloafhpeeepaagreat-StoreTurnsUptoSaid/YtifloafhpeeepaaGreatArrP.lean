/-
  Arrange, as plain data: the one rising list of the rows of a list.
-/
import Derived.Test.YtifloafhpeeepaaGreatGaO
namespace Go.Proofs.YtifloafhpeeepaaGreat
open Go.RowKit

theorem cmpR_self (a : List V) : cmpR a a = 0 := (isCmp_row.eq a a).2 rfl
theorem cmpR_lt_trans {a b c : List V} (h : cmpR a b < 0) (k : cmpR b c < 0) : cmpR a c < 0 := by
  have h1 := isCmp_row.trans a b c (by omega) (by omega)
  have h2 := isCmp_row.range a c
  rcases h2 with h2 | h2 | h2
  · omega
  · have e := (isCmp_row.eq a c).1 h2
    subst e
    have := isCmp_row.anti a b
    omega
  · omega
theorem cmpR_gt {a b : List V} (h : ¬ cmpR a b < 0) (hne : a ≠ b) : cmpR b a < 0 := by
  have h1 := isCmp_row.anti a b
  have h2 : cmpR a b ≠ 0 := fun e => hne ((isCmp_row.eq a b).1 e)
  omega
theorem cmpR_not {a b : List V} (h : cmpR a b < 0) : a ≠ b := fun e => by subst e; rw [cmpR_self] at h; omega
theorem cmpR_asymm {a b : List V} (h : cmpR a b < 0) : ¬ cmpR b a < 0 := by
  have := isCmp_row.anti a b
  omega

/-- it rises -/
def Rises (l : List (List V)) : Prop := l.Pairwise fun a b => cmpR a b < 0
/-- a rising list is given by its members -/
theorem rises_unique : ∀ {l m : List (List V)}, Rises l → Rises m → (∀ x, x ∈ l ↔ x ∈ m) → l = m
  | [], [], _, _, _ => rfl
  | [], y :: m, _, _, h => by have := (h y).2 (List.mem_cons_self ..); cases this
  | x :: l, [], _, _, h => by have := (h x).1 (List.mem_cons_self ..); cases this
  | x :: l, y :: m, hl, hm, h => by
    have l1 := List.pairwise_cons.1 hl
    have m1 := List.pairwise_cons.1 hm
    have e : x = y := by
      rcases List.mem_cons.1 ((h x).1 (List.mem_cons_self ..)) with e | hx
      · exact e
      · rcases List.mem_cons.1 ((h y).2 (List.mem_cons_self ..)) with e | hy
        · exact e.symm
        · exact absurd (l1.1 y hy) (cmpR_asymm (m1.1 x hx))
    subst e
    congr 1
    refine rises_unique l1.2 m1.2 fun z => ?_
    constructor
    · intro hz
      rcases List.mem_cons.1 ((h z).1 (List.mem_cons_of_mem _ hz)) with e | hz'
      · exact absurd e.symm (cmpR_not (l1.1 z hz))
      · exact hz'
    · intro hz
      rcases List.mem_cons.1 ((h z).2 (List.mem_cons_of_mem _ hz)) with e | hz'
      · exact absurd e.symm (cmpR_not (m1.1 z hz))
      · exact hz'

def insR (x : List V) : List (List V) → List (List V)
  | [] => [x]
  | y :: l => if cmpR x y < 0 then x :: y :: l else if cmpR x y = 0 then y :: l else y :: insR x l
/-- the rising list of these rows -/
def arrP (l : List (List V)) : List (List V) := l.foldr insR []
theorem mem_insR {x z : List V} : ∀ {l : List (List V)}, z ∈ insR x l ↔ z = x ∨ z ∈ l
  | [] => by simp [insR]
  | y :: l => by
    unfold insR
    split
    · simp
    · split
      · rename_i h
        have e := (isCmp_row.eq x y).1 h
        subst e
        simp
      · rw [List.mem_cons, mem_insR, List.mem_cons]
        constructor
        · rintro (h | h | h)
          · exact .inr (.inl h)
          · exact .inl h
          · exact .inr (.inr h)
        · rintro (h | h | h)
          · exact .inr (.inl h)
          · exact .inl h
          · exact .inr (.inr h)
theorem rises_insR {x : List V} : ∀ {l : List (List V)}, Rises l → Rises (insR x l)
  | [], _ => List.pairwise_singleton _ _
  | y :: l, h => by
    have h1 := List.pairwise_cons.1 h
    unfold insR
    split
    · rename_i hx
      refine List.pairwise_cons.2 ⟨fun z hz => ?_, h⟩
      rcases List.mem_cons.1 hz with rfl | hz
      · exact hx
      · exact cmpR_lt_trans hx (h1.1 z hz)
    · rename_i hx
      split
      · exact h
      · rename_i h0
        refine List.pairwise_cons.2 ⟨fun z hz => ?_, rises_insR h1.2⟩
        rcases mem_insR.1 hz with rfl | hz
        · exact cmpR_gt hx fun e => h0 ((isCmp_row.eq _ _).2 e)
        · exact h1.1 z hz
theorem rises_arr : ∀ l : List (List V), Rises (arrP l)
  | [] => .nil
  | _ :: l => rises_insR (rises_arr l)
theorem mem_arr {z : List V} : ∀ {l : List (List V)}, z ∈ arrP l ↔ z ∈ l
  | [] => by simp [arrP]
  | x :: l => by
    have ih := mem_arr (z := z) (l := l)
    rw [show arrP (x :: l) = insR x (arrP l) from rfl, mem_insR, ih, List.mem_cons]
theorem arr_eq {l m : List (List V)} (h : Rises l) (hm : ∀ x, x ∈ l ↔ x ∈ m) : l = arrP m :=
  rises_unique h (rises_arr m) fun x => (hm x).trans mem_arr.symm
theorem arr_len : ∀ l : List (List V), (arrP l).length ≤ l.length
  | [] => Nat.le_refl _
  | x :: l => by
    have ih := arr_len l
    have h : ∀ m : List (List V), (insR x m).length ≤ m.length + 1 := by
      intro m
      induction m with
      | nil => simp [insR]
      | cons y m ihm =>
        unfold insR
        split
        · simp
        · split
          · simp
          · simp only [List.length_cons]; omega
    have := h (arrP l)
    rw [show arrP (x :: l) = insR x (arrP l) from rfl, List.length_cons]
    omega

/-- of neighbours that are one, the first -/
def keepBy {α : Type} (q : α → α → Bool) (prev : α) : List α → List α
  | [] => []
  | x :: l => if q x prev then keepBy q x l else x :: keepBy q x l
def ddBy {α : Type} (q : α → α → Bool) : List α → List α
  | [] => []
  | x :: l => x :: keepBy q x l
theorem keepBy_snoc {α : Type} (q : α → α → Bool) : ∀ (l : List α) (prev y x : α), (l.getLast?.getD prev = y) → keepBy q prev (l ++ [x]) = keepBy q prev l ++ (if q x y then [] else [x])
  | [], prev, y, x, h => by
    obtain rfl : prev = y := by simpa using h
    simp only [List.nil_append, keepBy]
  | z :: l, prev, y, x, h => by
    have h2 : l.getLast?.getD z = y := by
      cases l with
      | nil => simpa using h
      | cons a l =>
        rw [List.getLast?_cons_cons] at h
        rw [List.getLast?_eq_some_getLast (List.cons_ne_nil _ _)] at h ⊢
        exact h
    have ih := keepBy_snoc q l z y x h2
    simp only [List.cons_append, keepBy, ih]
    split <;> simp
/-- step by step -/
theorem dd_next {α : Type} (q : α → α → Bool) {l : List α} {i : Nat} {x y : α} (hx : l[i + 1]? = some x) (hy : l[i]? = some y) : ddBy q (l.take (i + 2)) = ddBy q (l.take (i + 1)) ++ (if q x y then [] else [x]) := by
  have h1 : l.take (i + 2) = l.take (i + 1) ++ [x] := by rw [show i + 2 = (i + 1) + 1 from rfl, List.take_add_one, hx]; rfl
  have h2 : l.take (i + 1) = l.take i ++ [y] := by rw [List.take_add_one, hy]; rfl
  rw [h1]
  cases hl : l.take (i + 1) with
  | nil => rw [hl] at h2; simp at h2
  | cons z m =>
    have hlast : m.getLast?.getD z = y := by
      have : (z :: m).getLast? = some y := by rw [← hl, h2]; simp
      cases m with
      | nil => simpa using this
      | cons a m =>
        rw [List.getLast?_cons_cons] at this
        rw [this]; rfl
    show ddBy q (z :: (m ++ [x])) = _
    simp only [ddBy, List.cons_append, keepBy_snoc q m z y x hlast]
theorem dd_one {α : Type} (q : α → α → Bool) {l : List α} {x : α} (hx : l[0]? = some x) : ddBy q (l.take 1) = [x] := by
  cases l with
  | nil => simp at hx
  | cons z m =>
    obtain rfl : z = x := by simpa using hx
    rfl
theorem dd_len {α : Type} (q : α → α → Bool) : ∀ l : List α, (ddBy q l).length ≤ l.length
  | [] => Nat.le_refl _
  | x :: l => by
    have : ∀ (m : List α) (p : α), (keepBy q p m).length ≤ m.length := by
      intro m
      induction m with
      | nil => intro p; exact Nat.le_refl _
      | cons y m ih =>
        intro p
        unfold keepBy
        have := ih y
        split
        · simp only [List.length_cons]; omega
        · simp only [List.length_cons]; omega
    simp only [ddBy, List.length_cons]
    have := this l x
    omega
theorem dd_sub {α : Type} (q : α → α → Bool) : ∀ l : List α, ∀ x ∈ ddBy q l, x ∈ l
  | [], x, h => h
  | y :: l, x, h => by
    have : ∀ (m : List α) (p : α), ∀ x ∈ keepBy q p m, x ∈ m := by
      intro m
      induction m with
      | nil => intro p x h; exact h
      | cons z m ih =>
        intro p x h
        unfold keepBy at h
        split at h
        · exact List.mem_cons_of_mem _ (ih z x h)
        · rcases List.mem_cons.1 h with rfl | h
          · exact List.mem_cons_self ..
          · exact List.mem_cons_of_mem _ (ih z x h)
    rcases List.mem_cons.1 h with rfl | h
    · exact List.mem_cons_self ..
    · exact List.mem_cons_of_mem _ (this l y x h)
/-- a sorted list without doubled neighbours rises, and has the same rows -/
theorem dd_rises {α : Type} (f : α → List V) (q : α → α → Bool) (hq : ∀ x y, q x y = true ↔ f x = f y) : ∀ l : List α, l.Pairwise (fun a b => cmpR (f a) (f b) ≤ 0) → Rises ((ddBy q l).map f) ∧ ∀ z, z ∈ (ddBy q l).map f ↔ z ∈ l.map f := by
  have key : ∀ (l : List α) (p : α), (∀ y ∈ l, cmpR (f p) (f y) ≤ 0) → l.Pairwise (fun a b => cmpR (f a) (f b) ≤ 0) → Rises (f p :: (keepBy q p l).map f) ∧ ∀ z, z ∈ f p :: (keepBy q p l).map f ↔ z ∈ f p :: l.map f := by
    intro l
    induction l with
    | nil => intro p _ _; exact ⟨List.pairwise_singleton _ _, fun z => Iff.rfl⟩
    | cons x l ih =>
      intro p hp hl
      have h1 := List.pairwise_cons.1 hl
      obtain ⟨i1, i2⟩ := ih x h1.1 h1.2
      unfold keepBy
      split
      · rename_i hqx
        have e := (hq x p).1 hqx
        rw [← e]
        refine ⟨i1, fun z => ?_⟩
        rw [i2 z]
        simp [List.map_cons]
      · rename_i hqx
        have hne : f x ≠ f p := fun e => hqx ((hq x p).2 e)
        have hlt : cmpR (f p) (f x) < 0 := by
          have a1 := hp x (List.mem_cons_self ..)
          have a2 : cmpR (f p) (f x) ≠ 0 := fun e => hne ((isCmp_row.eq _ _).1 e).symm
          omega
        refine ⟨List.pairwise_cons.2 ⟨fun z hz => ?_, i1⟩, fun z => ?_⟩
        · rw [List.map_cons] at hz
          rcases List.mem_cons.1 hz with rfl | hz
          · exact hlt
          · exact cmpR_lt_trans hlt ((List.pairwise_cons.1 i1).1 z hz)
        · rw [List.map_cons, List.mem_cons, i2 z, List.map_cons, List.mem_cons (a := z) (b := f p)]
  intro l
  cases l with
  | nil => intro _; exact ⟨.nil, fun z => Iff.rfl⟩
  | cons x l =>
    intro h
    have h1 := List.pairwise_cons.1 h
    exact key l x h1.1 h1.2
end Go.Proofs.YtifloafhpeeepaaGreat
