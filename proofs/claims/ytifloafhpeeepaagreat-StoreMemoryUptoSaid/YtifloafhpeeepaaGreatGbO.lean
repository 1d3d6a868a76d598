/-
  Arrange, as plain data: the one rising list of the rows of a list.
  The document's Arrange: each half arranged, then the two put together.
-/
import Derived.Test.YtifloafhpeeepaaGreatGaO
import Derived.Test.YtifloafhpeeepaaGreatGaG
import Derived.Test.YtifloafhpeeepaaGreatGaD
import Derived.IntWalk
namespace Go.Proofs.YtifloafhpeeepaaGreat
open Go.RowKit

theorem cmpR_self (a : List V) : cmpR a a = 0 := (isCmp_row.eq a a).2 rfl
theorem cmpR_lt_trans {a b c : List V} (h : cmpR a b < 0) (k : cmpR b c < 0) : cmpR a c < 0 := by
  have h1 := isCmp_row.trans a b c (by omega) (by omega)
  have h2 := isCmp_row.range a c
  rcases h2 with h2 | h2 | h2
  · omega
  · have e := (isCmp_row.eq a c).1 h2
    subst e
    have := isCmp_row.anti a b
    omega
  · omega
theorem cmpR_gt {a b : List V} (h : ¬ cmpR a b < 0) (hne : a ≠ b) : cmpR b a < 0 := by
  have h1 := isCmp_row.anti a b
  have h2 : cmpR a b ≠ 0 := fun e => hne ((isCmp_row.eq a b).1 e)
  omega
theorem cmpR_not {a b : List V} (h : cmpR a b < 0) : a ≠ b := fun e => by subst e; rw [cmpR_self] at h; omega
theorem cmpR_asymm {a b : List V} (h : cmpR a b < 0) : ¬ cmpR b a < 0 := by
  have := isCmp_row.anti a b
  omega

/-- it rises -/
def Rises (l : List (List V)) : Prop := l.Pairwise fun a b => cmpR a b < 0
/-- a rising list is given by its members -/
theorem rises_unique : ∀ {l m : List (List V)}, Rises l → Rises m → (∀ x, x ∈ l ↔ x ∈ m) → l = m
  | [], [], _, _, _ => rfl
  | [], y :: m, _, _, h => by have := (h y).2 (List.mem_cons_self ..); cases this
  | x :: l, [], _, _, h => by have := (h x).1 (List.mem_cons_self ..); cases this
  | x :: l, y :: m, hl, hm, h => by
    have l1 := List.pairwise_cons.1 hl
    have m1 := List.pairwise_cons.1 hm
    have e : x = y := by
      rcases List.mem_cons.1 ((h x).1 (List.mem_cons_self ..)) with e | hx
      · exact e
      · rcases List.mem_cons.1 ((h y).2 (List.mem_cons_self ..)) with e | hy
        · exact e.symm
        · exact absurd (l1.1 y hy) (cmpR_asymm (m1.1 x hx))
    subst e
    congr 1
    refine rises_unique l1.2 m1.2 fun z => ?_
    constructor
    · intro hz
      rcases List.mem_cons.1 ((h z).1 (List.mem_cons_of_mem _ hz)) with e | hz'
      · exact absurd e.symm (cmpR_not (l1.1 z hz))
      · exact hz'
    · intro hz
      rcases List.mem_cons.1 ((h z).2 (List.mem_cons_of_mem _ hz)) with e | hz'
      · exact absurd e.symm (cmpR_not (m1.1 z hz))
      · exact hz'

def insR (x : List V) : List (List V) → List (List V)
  | [] => [x]
  | y :: l => if cmpR x y < 0 then x :: y :: l else if cmpR x y = 0 then y :: l else y :: insR x l
/-- the rising list of these rows -/
def arrP (l : List (List V)) : List (List V) := l.foldr insR []
theorem mem_insR {x z : List V} : ∀ {l : List (List V)}, z ∈ insR x l ↔ z = x ∨ z ∈ l
  | [] => by simp [insR]
  | y :: l => by
    unfold insR
    split
    · simp
    · split
      · rename_i h
        have e := (isCmp_row.eq x y).1 h
        subst e
        simp
      · rw [List.mem_cons, mem_insR, List.mem_cons]
        constructor
        · rintro (h | h | h)
          · exact .inr (.inl h)
          · exact .inl h
          · exact .inr (.inr h)
        · rintro (h | h | h)
          · exact .inr (.inl h)
          · exact .inl h
          · exact .inr (.inr h)
theorem rises_insR {x : List V} : ∀ {l : List (List V)}, Rises l → Rises (insR x l)
  | [], _ => List.pairwise_singleton _ _
  | y :: l, h => by
    have h1 := List.pairwise_cons.1 h
    unfold insR
    split
    · rename_i hx
      refine List.pairwise_cons.2 ⟨fun z hz => ?_, h⟩
      rcases List.mem_cons.1 hz with rfl | hz
      · exact hx
      · exact cmpR_lt_trans hx (h1.1 z hz)
    · rename_i hx
      split
      · exact h
      · rename_i h0
        refine List.pairwise_cons.2 ⟨fun z hz => ?_, rises_insR h1.2⟩
        rcases mem_insR.1 hz with rfl | hz
        · exact cmpR_gt hx fun e => h0 ((isCmp_row.eq _ _).2 e)
        · exact h1.1 z hz
theorem rises_arr : ∀ l : List (List V), Rises (arrP l)
  | [] => .nil
  | _ :: l => rises_insR (rises_arr l)
theorem mem_arr {z : List V} : ∀ {l : List (List V)}, z ∈ arrP l ↔ z ∈ l
  | [] => by simp [arrP]
  | x :: l => by
    have ih := mem_arr (z := z) (l := l)
    rw [show arrP (x :: l) = insR x (arrP l) from rfl, mem_insR, ih, List.mem_cons]
theorem arr_eq {l m : List (List V)} (h : Rises l) (hm : ∀ x, x ∈ l ↔ x ∈ m) : l = arrP m :=
  rises_unique h (rises_arr m) fun x => (hm x).trans mem_arr.symm
theorem arr_len : ∀ l : List (List V), (arrP l).length ≤ l.length
  | [] => Nat.le_refl _
  | x :: l => by
    have ih := arr_len l
    have h : ∀ m : List (List V), (insR x m).length ≤ m.length + 1 := by
      intro m
      induction m with
      | nil => simp [insR]
      | cons y m ihm =>
        unfold insR
        split
        · simp
        · split
          · simp
          · simp only [List.length_cons]; omega
    have := h (arrP l)
    rw [show arrP (x :: l) = insR x (arrP l) from rfl, List.length_cons]
    omega

/-- of neighbours that are one, the first -/
def keepBy {α : Type} (q : α → α → Bool) (prev : α) : List α → List α
  | [] => []
  | x :: l => if q x prev then keepBy q x l else x :: keepBy q x l
def ddBy {α : Type} (q : α → α → Bool) : List α → List α
  | [] => []
  | x :: l => x :: keepBy q x l
end Go.Proofs.YtifloafhpeeepaaGreat

namespace Go.Proofs.YtifloafhpeeepaaGreat
open Go.RowKit

def mergeR : List (List V) → List (List V) → List (List V)
  | [], b => b
  | a, [] => a
  | x :: a, y :: b => if cmpR x y < 0 then x :: mergeR a (y :: b) else if cmpR x y = 0 then x :: mergeR a b else y :: mergeR (x :: a) b
termination_by a b => a.length + b.length
theorem mergeR_nil (a : List (List V)) : mergeR a [] = a := by cases a <;> simp [mergeR]
theorem nil_mergeR (b : List (List V)) : mergeR [] b = b := by simp [mergeR]
theorem mergeR_cons (x y : List V) (a b : List (List V)) : mergeR (x :: a) (y :: b) = if cmpR x y < 0 then x :: mergeR a (y :: b) else if cmpR x y = 0 then x :: mergeR a b else y :: mergeR (x :: a) b := by
  rw [mergeR]
/-- so much has been put together; the rest is to come -/
def MGo (a b out : List (List V)) (i j : Nat) : Prop := mergeR a b = out ++ mergeR (a.drop i) (b.drop j)
theorem drop_at {α : Type} {l : List α} {i : Nat} {x : α} (h : l[i]? = some x) : l.drop i = x :: l.drop (i + 1) := by
  obtain ⟨hl, e⟩ := List.getElem?_eq_some_iff.1 h
  rw [List.drop_eq_getElem_cons hl, e]
theorem MGo.lt {a b out : List (List V)} {i j : Nat} {x y : List V} (h : MGo a b out i j) (hx : a[i]? = some x) (hy : b[j]? = some y) (hc : cmpR x y < 0) : MGo a b (out ++ [x]) (i + 1) j := by
  unfold MGo at h ⊢
  rw [h, drop_at hx, drop_at hy, mergeR_cons, if_pos hc]
  simp
theorem MGo.eq {a b out : List (List V)} {i j : Nat} {x y : List V} (h : MGo a b out i j) (hx : a[i]? = some x) (hy : b[j]? = some y) (hc : cmpR x y = 0) : MGo a b (out ++ [x]) (i + 1) (j + 1) := by
  unfold MGo at h ⊢
  rw [h, drop_at hx, drop_at hy, mergeR_cons, if_neg (by omega), if_pos hc]
  simp
theorem MGo.left {a b out : List (List V)} {i j : Nat} {x : List V} (h : MGo a b out i j) (hx : a[i]? = some x) (hj : b.length ≤ j) : MGo a b (out ++ [x]) (i + 1) j := by
  unfold MGo at h ⊢
  rw [h, drop_at hx, List.drop_of_length_le hj, mergeR_nil, mergeR_nil]
  simp
theorem MGo.right {a b out : List (List V)} {i j : Nat} {y : List V} (h : MGo a b out i j) (hy : b[j]? = some y) (hi : a.length ≤ i) : MGo a b (out ++ [y]) i (j + 1) := by
  unfold MGo at h ⊢
  rw [h, drop_at hy, List.drop_of_length_le hi, nil_mergeR, nil_mergeR]
  simp
theorem MGo.done {a b out : List (List V)} {i j : Nat} (h : MGo a b out i j) (hi : a.length ≤ i) (hj : b.length ≤ j) : mergeR a b = out := by
  unfold MGo at h
  rw [h, List.drop_of_length_le hi, List.drop_of_length_le hj, nil_mergeR, List.append_nil]

/-- rows that a half has given -/
def PR (base : Nat) (rows : List (List V)) : Value → World → Prop := fun u w => ∃ A c cells, u = .slice A rows.length c ∧ w.ownsRow base 30 1 (.slice A rows.length c) rows.length cells ∧ Els (RMine base) 1 w cells rows
theorem PR.ext {base : Nat} {rows : List (List V)} {u : Value} {w w' : World} (h : PR base rows u w) (hw : Ext w w') : PR base rows u w' := by
  obtain ⟨A, c, cells, h1, h2, h3⟩ := h
  exact ⟨A, c, cells, h1, mine_ext h2 hw, h3.ext (RMine.stab _) hw⟩
theorem RetRows.pr {w0 w1 w' : World} {rows : List (List V)} {en : Ending} (h : RetRows w1 rows en w') (hw : Ext w0 w1) : ∃ u, en = .returned u ∧ Ext w1 w' ∧ PR w0.heap.size rows u w' := by
  obtain ⟨A, n, c, cells, h1, rfl, h3, h4, h5⟩ := h
  exact ⟨_, h1, h5, A, c, cells, rfl, mine_base h3 hw.size, h4.mono fun _ _ hx => hx.base hw.size⟩
/-- what is put together so far -/
structure MInv (base : Nat) (W w : World) (out : List (List V)) (A : Option Addr) (c : Nat) : Prop where
  row : ∃ cells, w.ownsRow W.heap.size 30 1 (.slice A out.length c) out.length cells ∧ Els (RMine base) 1 w cells out
  ext : Ext W w

theorem MInv.snoc {base : Nat} {W w w' : World} {out : List (List V)} {A A' A9 : Option Addr} {c c' n9 c9 : Nat} {cells : List Value} {x : List V} (he : Els (RMine base) 1 w cells out) (ho : w.ownsRow W.heap.size 30 1 (.slice A out.length c) out.length cells)
    (hx : w.ownsRow base 43 3 (.slice A9 n9 c9) n9 (cellsR x)) (hg : w.grownBy w' (Value.slice A out.length c).ownBlock) (ho' : w'.ownsRow W.heap.size 30 1 (.slice A' (out.length + 1) c') (out.length + 1) (cells ++ [.slice A9 n9 c9])) (hE : Ext W w') : MInv base W w' (out ++ [x]) A' c' := by
  refine ⟨⟨cells ++ [.slice A9 n9 c9], ?_, Els.snoc (he.mono fun cs r h => ?_) rfl (fun v hv => by obtain rfl := List.mem_singleton.1 hv; rfl) ⟨A9, n9, c9, rfl, mine_other hx ho (by decide) hg⟩⟩, hE⟩
  · rw [List.length_append]; exact ho'
  · obtain ⟨A1, n1, c1, e1, e2⟩ := h
    exact ⟨A1, n1, c1, e1, mine_other e2 ho (by decide) hg⟩
