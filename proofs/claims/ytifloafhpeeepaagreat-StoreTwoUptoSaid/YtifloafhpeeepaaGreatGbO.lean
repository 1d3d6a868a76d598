/-
  Arrange, as plain data: the one rising list of the rows of a list.
  The document's Arrange: each half arranged, then the two put together.
-/
import Derived.Test.YtifloafhpeeepaaGreatGaO
import Derived.Test.YtifloafhpeeepaaGreatGaG
import Derived.Test.YtifloafhpeeepaaGreatGaD
import Derived.IntWalk
namespace Go.Proofs.YtifloafhpeeepaaGreat
open Go.RowKit

theorem cmpR_self (a : List V) : cmpR a a = 0 := (isCmp_row.eq a a).2 rfl
theorem cmpR_lt_trans {a b c : List V} (h : cmpR a b < 0) (k : cmpR b c < 0) : cmpR a c < 0 := by
  have h1 := isCmp_row.trans a b c (by omega) (by omega)
  have h2 := isCmp_row.range a c
  rcases h2 with h2 | h2 | h2
  · omega
  · have e := (isCmp_row.eq a c).1 h2
    subst e
    have := isCmp_row.anti a b
    omega
  · omega
theorem cmpR_gt {a b : List V} (h : ¬ cmpR a b < 0) (hne : a ≠ b) : cmpR b a < 0 := by
  have h1 := isCmp_row.anti a b
  have h2 : cmpR a b ≠ 0 := fun e => hne ((isCmp_row.eq a b).1 e)
  omega
theorem cmpR_not {a b : List V} (h : cmpR a b < 0) : a ≠ b := fun e => by subst e; rw [cmpR_self] at h; omega
theorem cmpR_asymm {a b : List V} (h : cmpR a b < 0) : ¬ cmpR b a < 0 := by
  have := isCmp_row.anti a b
  omega

/-- it rises -/
def Rises (l : List (List V)) : Prop := l.Pairwise fun a b => cmpR a b < 0
/-- a rising list is given by its members -/
theorem rises_unique : ∀ {l m : List (List V)}, Rises l → Rises m → (∀ x, x ∈ l ↔ x ∈ m) → l = m
  | [], [], _, _, _ => rfl
  | [], y :: m, _, _, h => by have := (h y).2 (List.mem_cons_self ..); cases this
  | x :: l, [], _, _, h => by have := (h x).1 (List.mem_cons_self ..); cases this
  | x :: l, y :: m, hl, hm, h => by
    have l1 := List.pairwise_cons.1 hl
    have m1 := List.pairwise_cons.1 hm
    have e : x = y := by
      rcases List.mem_cons.1 ((h x).1 (List.mem_cons_self ..)) with e | hx
      · exact e
      · rcases List.mem_cons.1 ((h y).2 (List.mem_cons_self ..)) with e | hy
        · exact e.symm
        · exact absurd (l1.1 y hy) (cmpR_asymm (m1.1 x hx))
    subst e
    congr 1
    refine rises_unique l1.2 m1.2 fun z => ?_
    constructor
    · intro hz
      rcases List.mem_cons.1 ((h z).1 (List.mem_cons_of_mem _ hz)) with e | hz'
      · exact absurd e.symm (cmpR_not (l1.1 z hz))
      · exact hz'
    · intro hz
      rcases List.mem_cons.1 ((h z).2 (List.mem_cons_of_mem _ hz)) with e | hz'
      · exact absurd e.symm (cmpR_not (m1.1 z hz))
      · exact hz'

def insR (x : List V) : List (List V) → List (List V)
  | [] => [x]
  | y :: l => if cmpR x y < 0 then x :: y :: l else if cmpR x y = 0 then y :: l else y :: insR x l
/-- the rising list of these rows -/
def arrP (l : List (List V)) : List (List V) := l.foldr insR []
theorem mem_insR {x z : List V} : ∀ {l : List (List V)}, z ∈ insR x l ↔ z = x ∨ z ∈ l
  | [] => by simp [insR]
  | y :: l => by
    unfold insR
    split
    · simp
    · split
      · rename_i h
        have e := (isCmp_row.eq x y).1 h
        subst e
        simp
      · rw [List.mem_cons, mem_insR, List.mem_cons]
        constructor
        · rintro (h | h | h)
          · exact .inr (.inl h)
          · exact .inl h
          · exact .inr (.inr h)
        · rintro (h | h | h)
          · exact .inr (.inl h)
          · exact .inl h
          · exact .inr (.inr h)
theorem rises_insR {x : List V} : ∀ {l : List (List V)}, Rises l → Rises (insR x l)
  | [], _ => List.pairwise_singleton _ _
  | y :: l, h => by
    have h1 := List.pairwise_cons.1 h
    unfold insR
    split
    · rename_i hx
      refine List.pairwise_cons.2 ⟨fun z hz => ?_, h⟩
      rcases List.mem_cons.1 hz with rfl | hz
      · exact hx
      · exact cmpR_lt_trans hx (h1.1 z hz)
    · rename_i hx
      split
      · exact h
      · rename_i h0
        refine List.pairwise_cons.2 ⟨fun z hz => ?_, rises_insR h1.2⟩
        rcases mem_insR.1 hz with rfl | hz
        · exact cmpR_gt hx fun e => h0 ((isCmp_row.eq _ _).2 e)
        · exact h1.1 z hz
theorem rises_arr : ∀ l : List (List V), Rises (arrP l)
  | [] => .nil
  | _ :: l => rises_insR (rises_arr l)
theorem mem_arr {z : List V} : ∀ {l : List (List V)}, z ∈ arrP l ↔ z ∈ l
  | [] => by simp [arrP]
  | x :: l => by
    have ih := mem_arr (z := z) (l := l)
    rw [show arrP (x :: l) = insR x (arrP l) from rfl, mem_insR, ih, List.mem_cons]
theorem arr_eq {l m : List (List V)} (h : Rises l) (hm : ∀ x, x ∈ l ↔ x ∈ m) : l = arrP m :=
  rises_unique h (rises_arr m) fun x => (hm x).trans mem_arr.symm
theorem arr_len : ∀ l : List (List V), (arrP l).length ≤ l.length
  | [] => Nat.le_refl _
  | x :: l => by
    have ih := arr_len l
    have h : ∀ m : List (List V), (insR x m).length ≤ m.length + 1 := by
      intro m
      induction m with
      | nil => simp [insR]
      | cons y m ihm =>
        unfold insR
        split
        · simp
        · split
          · simp
          · simp only [List.length_cons]; omega
    have := h (arrP l)
    rw [show arrP (x :: l) = insR x (arrP l) from rfl, List.length_cons]
    omega

/-- of neighbours that are one, the first -/
def keepBy {α : Type} (q : α → α → Bool) (prev : α) : List α → List α
  | [] => []
  | x :: l => if q x prev then keepBy q x l else x :: keepBy q x l
def ddBy {α : Type} (q : α → α → Bool) : List α → List α
  | [] => []
  | x :: l => x :: keepBy q x l
end Go.Proofs.YtifloafhpeeepaaGreat

namespace Go.Proofs.YtifloafhpeeepaaGreat
open Go.RowKit

def mergeR : List (List V) → List (List V) → List (List V)
  | [], b => b
  | a, [] => a
  | x :: a, y :: b => if cmpR x y < 0 then x :: mergeR a (y :: b) else if cmpR x y = 0 then x :: mergeR a b else y :: mergeR (x :: a) b
termination_by a b => a.length + b.length
theorem mergeR_nil (a : List (List V)) : mergeR a [] = a := by cases a <;> simp [mergeR]
theorem nil_mergeR (b : List (List V)) : mergeR [] b = b := by simp [mergeR]
theorem mergeR_cons (x y : List V) (a b : List (List V)) : mergeR (x :: a) (y :: b) = if cmpR x y < 0 then x :: mergeR a (y :: b) else if cmpR x y = 0 then x :: mergeR a b else y :: mergeR (x :: a) b := by
  rw [mergeR]
theorem mem_merge : ∀ (k : Nat) (a b : List (List V)), a.length + b.length ≤ k → ∀ z, z ∈ mergeR a b ↔ z ∈ a ∨ z ∈ b
  | _, [], b, _, z => by rw [nil_mergeR]; simp
  | _, x :: a, [], _, z => by rw [mergeR_nil]; simp
  | 0, x :: a, y :: b, h, z => by simp at h
  | k + 1, x :: a, y :: b, h, z => by
    simp only [List.length_cons] at h
    rw [mergeR_cons]
    split
    · rw [List.mem_cons, mem_merge k a (y :: b) (by simp only [List.length_cons]; omega), List.mem_cons (b := x), or_assoc]
    · split
      · rename_i h0
        have e := (isCmp_row.eq x y).1 h0
        subst e
        rw [List.mem_cons, mem_merge k a b (by omega), List.mem_cons, List.mem_cons]
        constructor
        · rintro (h | h | h)
          · exact .inl (.inl h)
          · exact .inl (.inr h)
          · exact .inr (.inr h)
        · rintro ((h | h) | (h | h))
          · exact .inl h
          · exact .inr (.inl h)
          · exact .inl h
          · exact .inr (.inr h)
      · rw [List.mem_cons, mem_merge k (x :: a) b (by simp only [List.length_cons]; omega), List.mem_cons (b := y)]
        constructor
        · rintro (h | h | h)
          · exact .inr (.inl h)
          · exact .inl h
          · exact .inr (.inr h)
        · rintro (h | h | h)
          · exact .inr (.inl h)
          · exact .inl h
          · exact .inr (.inr h)
theorem rises_merge : ∀ (k : Nat) (a b : List (List V)), a.length + b.length ≤ k → Rises a → Rises b → Rises (mergeR a b)
  | _, [], b, _, _, h => by rw [nil_mergeR]; exact h
  | _, x :: a, [], _, h, _ => by rw [mergeR_nil]; exact h
  | 0, x :: a, y :: b, h, _, _ => by simp at h
  | k + 1, x :: a, y :: b, h, ha, hb => by
    simp only [List.length_cons] at h
    have a1 := List.pairwise_cons.1 ha
    have b1 := List.pairwise_cons.1 hb
    rw [mergeR_cons]
    split
    · rename_i hlt
      refine List.pairwise_cons.2 ⟨fun z hz => ?_, rises_merge k a (y :: b) (by simp only [List.length_cons]; omega) a1.2 hb⟩
      rcases (mem_merge _ _ _ (Nat.le_refl _) z).1 hz with hz | hz
      · exact a1.1 z hz
      · rcases List.mem_cons.1 hz with rfl | hz
        · exact hlt
        · exact cmpR_lt_trans hlt (b1.1 z hz)
    · rename_i hlt
      split
      · rename_i h0
        have e := (isCmp_row.eq x y).1 h0
        subst e
        refine List.pairwise_cons.2 ⟨fun z hz => ?_, rises_merge k a b (by omega) a1.2 b1.2⟩
        rcases (mem_merge _ _ _ (Nat.le_refl _) z).1 hz with hz | hz
        · exact a1.1 z hz
        · exact b1.1 z hz
      · rename_i h0
        have hgt : cmpR y x < 0 := cmpR_gt hlt fun e => h0 ((isCmp_row.eq _ _).2 e)
        refine List.pairwise_cons.2 ⟨fun z hz => ?_, rises_merge k (x :: a) b (by simp only [List.length_cons]; omega) ha b1.2⟩
        rcases (mem_merge _ _ _ (Nat.le_refl _) z).1 hz with hz | hz
        · rcases List.mem_cons.1 hz with rfl | hz
          · exact hgt
          · exact cmpR_lt_trans hgt (a1.1 z hz)
        · exact b1.1 z hz
theorem merge_arr (l m : List (List V)) : mergeR (arrP l) (arrP m) = arrP (l ++ m) :=
  arr_eq (rises_merge _ _ _ (Nat.le_refl _) (rises_arr l) (rises_arr m)) fun x => by
    rw [mem_merge _ _ _ (Nat.le_refl _), mem_arr, mem_arr, List.mem_append]
theorem arr_small {l : List (List V)} (h : l.length ≤ 1) : arrP l = l := by
  match l, h with
  | [], _ => rfl
  | [x], _ => rfl
/-- so much has been put together; the rest is to come -/
def MGo (a b out : List (List V)) (i j : Nat) : Prop := mergeR a b = out ++ mergeR (a.drop i) (b.drop j)
theorem drop_at {α : Type} {l : List α} {i : Nat} {x : α} (h : l[i]? = some x) : l.drop i = x :: l.drop (i + 1) := by
  obtain ⟨hl, e⟩ := List.getElem?_eq_some_iff.1 h
  rw [List.drop_eq_getElem_cons hl, e]
theorem MGo.lt {a b out : List (List V)} {i j : Nat} {x y : List V} (h : MGo a b out i j) (hx : a[i]? = some x) (hy : b[j]? = some y) (hc : cmpR x y < 0) : MGo a b (out ++ [x]) (i + 1) j := by
  unfold MGo at h ⊢
  rw [h, drop_at hx, drop_at hy, mergeR_cons, if_pos hc]
  simp
theorem MGo.eq {a b out : List (List V)} {i j : Nat} {x y : List V} (h : MGo a b out i j) (hx : a[i]? = some x) (hy : b[j]? = some y) (hc : cmpR x y = 0) : MGo a b (out ++ [x]) (i + 1) (j + 1) := by
  unfold MGo at h ⊢
  rw [h, drop_at hx, drop_at hy, mergeR_cons, if_neg (by omega), if_pos hc]
  simp
theorem MGo.gt {a b out : List (List V)} {i j : Nat} {x y : List V} (h : MGo a b out i j) (hx : a[i]? = some x) (hy : b[j]? = some y) (hc : 0 < cmpR x y) : MGo a b (out ++ [y]) i (j + 1) := by
  unfold MGo at h ⊢
  rw [h, drop_at hx, drop_at hy, mergeR_cons, if_neg (by omega), if_neg (by omega)]
  simp
theorem MGo.left {a b out : List (List V)} {i j : Nat} {x : List V} (h : MGo a b out i j) (hx : a[i]? = some x) (hj : b.length ≤ j) : MGo a b (out ++ [x]) (i + 1) j := by
  unfold MGo at h ⊢
  rw [h, drop_at hx, List.drop_of_length_le hj, mergeR_nil, mergeR_nil]
  simp
theorem MGo.right {a b out : List (List V)} {i j : Nat} {y : List V} (h : MGo a b out i j) (hy : b[j]? = some y) (hi : a.length ≤ i) : MGo a b (out ++ [y]) i (j + 1) := by
  unfold MGo at h ⊢
  rw [h, drop_at hy, List.drop_of_length_le hi, nil_mergeR, nil_mergeR]
  simp
theorem MGo.done {a b out : List (List V)} {i j : Nat} (h : MGo a b out i j) (hi : a.length ≤ i) (hj : b.length ≤ j) : mergeR a b = out := by
  unfold MGo at h
  rw [h, List.drop_of_length_le hi, List.drop_of_length_le hj, nil_mergeR, List.append_nil]

theorem LAt.mine_ {base : Nat} {w : World} {A : Option Addr} {n : Nat} {xs : List (List V)} (h : LAt (RMine base) 1 w A n xs) {i : Nat} (hi : i < n) :
    ∃ b off r A9 n9 c9, A = some ⟨b, off, none⟩ ∧ xs[i]? = some r ∧ b < w.heap.size ∧ w.cell? ⟨b, off + i, none⟩ = some (.slice A9 n9 c9) ∧ w.ownsRow base 43 3 (.slice A9 n9 c9) n9 (cellsR r) := by
  obtain ⟨b, off, r, cs, hA, hx, hb1, _, _, ⟨A9, n9, c9, rfl, hR⟩, hcell⟩ := h.get (by omega) hi
  have := hcell 0 (by omega)
  rw [Nat.mul_one, Nat.add_zero] at this
  exact ⟨b, off, r, A9, n9, c9, hA, hx, hb1, this, hR⟩
/-- rows that a half has given -/
def PR (base : Nat) (rows : List (List V)) : Value → World → Prop := fun u w => ∃ A c cells, u = .slice A rows.length c ∧ w.ownsRow base 30 1 (.slice A rows.length c) rows.length cells ∧ Els (RMine base) 1 w cells rows
theorem PR.ext {base : Nat} {rows : List (List V)} {u : Value} {w w' : World} (h : PR base rows u w) (hw : Ext w w') : PR base rows u w' := by
  obtain ⟨A, c, cells, h1, h2, h3⟩ := h
  exact ⟨A, c, cells, h1, mine_ext h2 hw, h3.ext (RMine.stab _) hw⟩
theorem RetRows.pr {w0 w1 w' : World} {rows : List (List V)} {en : Ending} (h : RetRows w1 rows en w') (hw : Ext w0 w1) : ∃ u, en = .returned u ∧ Ext w1 w' ∧ PR w0.heap.size rows u w' := by
  obtain ⟨A, n, c, cells, h1, rfl, h3, h4, h5⟩ := h
  exact ⟨_, h1, h5, A, c, cells, rfl, mine_base h3 hw.size, h4.mono fun _ _ hx => hx.base hw.size⟩
/-- what is put together so far -/
structure MInv (base : Nat) (W w : World) (out : List (List V)) (A : Option Addr) (c : Nat) : Prop where
  row : ∃ cells, w.ownsRow W.heap.size 30 1 (.slice A out.length c) out.length cells ∧ Els (RMine base) 1 w cells out
  ext : Ext W w

theorem MInv.snoc {base : Nat} {W w w' : World} {out : List (List V)} {A A' A9 : Option Addr} {c c' n9 c9 : Nat} {cells : List Value} {x : List V} (he : Els (RMine base) 1 w cells out) (ho : w.ownsRow W.heap.size 30 1 (.slice A out.length c) out.length cells)
    (hx : w.ownsRow base 43 3 (.slice A9 n9 c9) n9 (cellsR x)) (hg : w.grownBy w' (Value.slice A out.length c).ownBlock) (ho' : w'.ownsRow W.heap.size 30 1 (.slice A' (out.length + 1) c') (out.length + 1) (cells ++ [.slice A9 n9 c9])) (hE : Ext W w') : MInv base W w' (out ++ [x]) A' c' := by
  refine ⟨⟨cells ++ [.slice A9 n9 c9], ?_, Els.snoc (he.mono fun cs r h => ?_) rfl (fun v hv => by obtain rfl := List.mem_singleton.1 hv; rfl) ⟨A9, n9, c9, rfl, mine_other hx ho (by decide) hg⟩⟩, hE⟩
  · rw [List.length_append]; exact ho'
  · obtain ⟨A1, n1, c1, e1, e2⟩ := h
    exact ⟨A1, n1, c1, e1, mine_other e2 ho (by decide) hg⟩

set_option maxHeartbeats 8000000 in
set_option maxRecDepth 100000 in
theorem ref_arrange : ∀ (k : Nat) (rows : List (List V)) (A : Option Addr) (n c : Nat) (w : World), rows.length ≤ k → LAt RRow 1 w A n rows → n ≤ c → n ≤ 1048576 → (∀ r ∈ rows, r.length ≤ 1048576 ∧ smallR r) →
    Calls Tryz.prog 100 #[.slice A n c] w (RetRows w (arrP rows)) := by
  intro k
  induction k with
  | zero =>
    intro rows A n c w hk ha hc hn hr
    have hn0 : n = 0 := by have := ha.len; omega
    have e := arr_small (l := rows) (by omega)
    have HC := hide (copy_all rows A n c w ha (by omega) (fun r h => by have := (hr r h).1; omega))
    rw [e]
    clear ha hr
    subst hn0
    go_enter Tryz.func100, Tryz.ntmps100
    go_wp2_with ((with_reducible refine HC.out.mono ?_); rintro e w1 ⟨A1, n1, c1, cells, rfl, h2, h3, h4, h5⟩; have HF := hide (And.intro h2 (And.intro h3 (And.intro h4 h5))); clear h2 h3 h4 h5)
    go_ret
    exact ⟨A1, n1, c1, cells, rfl, HF.out.1, HF.out.2.1, HF.out.2.2.1, HF.out.2.2.2⟩
  | succ k ih =>
    intro rows A n c w hk ha hc hn hr
    by_cases h1 : n ≤ 1
    · have e := arr_small (l := rows) (by have := ha.len; omega)
      have HC := hide (copy_all rows A n c w ha (by omega) (fun r h => by have := (hr r h).1; omega))
      rw [e]
      clear ha hr ih
      go_enter Tryz.func100, Tryz.ntmps100
      go_wp2_with ((with_reducible refine HC.out.mono ?_); rintro e w1 ⟨A1, n1, c1, cells, rfl, h2, h3, h4, h5⟩; have HF := hide (And.intro h2 (And.intro h3 (And.intro h4 h5))); clear h2 h3 h4 h5)
      go_ret
      exact ⟨A1, n1, c1, cells, rfl, HF.out.1, HF.out.2.1, HF.out.2.2.1, HF.out.2.2.2⟩
    · obtain ⟨b, off, _, _, _, _, rfl, _, hb, _, _⟩ := ha.row_ (i := 0) (by omega)
      obtain ⟨h, hh⟩ : ∃ h, h = n / 2 := ⟨_, rfl⟩
      have hl := ha.len
      have hhn : h < n ∧ 1 ≤ h := by omega
      have hta := ha.take h (by omega)
      have htb := ha.drop h (by omega)
      rw [Nat.mul_one] at htb
      have HIA := hide (fun w1 (x : Ext w w1) => ih (rows.take h) (some ⟨b, off, none⟩) h c w1 (by rw [List.length_take]; omega) (hta.ext RRow.stab x) (by omega) (by omega) (fun r hm => hr r (List.mem_of_mem_take hm)))
      have HIB := hide (fun w1 (x : Ext w w1) => ih (rows.drop h) (some ⟨b, off + h, none⟩) (n - h) (c - h) w1 (by rw [List.length_drop]; omega) (htb.ext RRow.stab x) (by omega) (by omega) (fun r hm => hr r (List.mem_of_mem_drop hm)))
      have hmer := merge_arr (rows.take h) (rows.drop h)
      rw [List.take_append_drop] at hmer
      have HMER := hide hmer
      have hla := arr_len (rows.take h)
      have hlb := arr_len (rows.drop h)
      rw [List.length_take] at hla
      rw [List.length_drop] at hlb
      have hsa := hide (show ∀ r ∈ arrP (rows.take h), r.length ≤ 1048576 ∧ smallR r from fun r hm => hr r (List.mem_of_mem_take (mem_arr.1 hm)))
      have hsb := hide (show ∀ r ∈ arrP (rows.drop h), r.length ≤ 1048576 ∧ smallR r from fun r hm => hr r (List.mem_of_mem_drop (mem_arr.1 hm)))
      have hlan : (arrP (rows.take h)).length ≤ 1048576 := by omega
      have hlbn : (arrP (rows.drop h)).length ≤ 1048576 := by omega
      clear ha hr ih hta htb hmer hla hlb hl hk hb
      generalize arrP (rows.take h) = a at *
      generalize arrP (rows.drop h) = b' at *
      have hq1 : (n : Int) / 2 = (h : Int) := by omega
      have hne : ¬ c = h := by omega
      have hc1 : (h : Int) ≤ (n : Int) := by omega
      have hc2 : (h : Int) ≤ (c : Int) := by omega
      have hc3 : (n : Int) ≤ (c : Int) := by omega
      have hwh : IntKind.i64.wrap (h : Int) = (h : Int) := IntWalk.i64_in _ (by omega)
      have hc0 : (0 : Int) ≤ (h : Int) := by omega
      clear hh
      go_enter Tryz.func100, Tryz.ntmps100
      go_wp2_with fail
      refine wp_region_ext 12 (by kernel_rfl) (by kernel_rfl) (by kernel_rfl) ?_
      iterate 5
        refine wpE_k (by kernel_rfl) (by kernel_rfl) ?_
        apply Exists.intro
        refine ⟨fun w1 hw1 => ?_, fun K hK => ?_⟩
        · go_simp; first | done | rfl
        go_simp; refine hK _ _ ?_; clear hK K
      refine wpE_p [] (PR w.heap.size a) (fun u w1 w2 _ h2 h => h.ext h2) rfl (by kernel_rfl) (fun w1 hw1 => ?_) ?_
      · simp only [LookQ]
        go_simp
        exact ⟨Ext.refl _, (HIA.out w1 hw1).mono fun e w' hR => hR.pr hw1⟩
      iterate 5
        refine wpE_k (by kernel_rfl) (by kernel_rfl) ?_
        apply Exists.intro
        refine ⟨fun w1 hw1 => ?_, fun K hK => ?_⟩
        · go_simp; first | done | rfl
        go_simp; refine hK _ _ ?_; clear hK K
      refine wpE_p [] (PR w.heap.size b') (fun u w1 w2 _ h2 h => h.ext h2) rfl (by kernel_rfl) (fun w1 hw1 => ?_) ?_
      · simp only [LookQ]
        go_simp
        exact ⟨Ext.refl _, (HIB.out w1 hw1).mono fun e w' hR => hR.pr hw1⟩
      refine wpE_nil ⟨rfl, by kernel_rfl, fun wq hwq => ?_⟩
      simp only [EndQ]
      rintro _ ⟨Bb, cb, lb, rfl, hb1, hb2⟩ _ ⟨Ba, ca, la_, rfl, ha1, ha2⟩
      simp only [List.drop]
      clear HIA HIB hq1 hwh hc0
      have HA := hide (show LAt (RMine w.heap.size) 1 wq Ba a.length a from LAt.own rfl ha2 ha1)
      have HB := hide (show LAt (RMine w.heap.size) 1 wq Bb b'.length b' from LAt.own rfl hb2 hb1)
      have XQ := hide hwq
      clear ha1 ha2 hb1 hb2 hwq
      obtain ⟨na, hna⟩ : ∃ na, na = a.length := ⟨_, rfl⟩
      obtain ⟨nb, hnb⟩ : ∃ nb, nb = b'.length := ⟨_, rfl⟩
      have HNA := hide hna; have HNB := hide hnb
      rw [← hna] at hlan HA ⊢
      rw [← hnb] at hlbn HB ⊢
      clear hna hnb
      obtain ⟨i0, hi0, hz0, hz1, hz2⟩ := info_parts infoRw
      have hmk := fun (w : World) => run_make (P := Tryz.prog) (w := w) 22 30 i0 _ Tryz.underlying22 hi0 hz0 .i64 .i64 0 ((na : Int) + (nb : Int)) (by omega) (by omega) (by rw [hz2]; omega) (by omega)
      have hnn : ((na : Int) + (nb : Int)).toNat = na + nb := by omega
      simp only [hz1, hnn, Int.toNat_zero, Nat.mul_one] at hmk
      have HO0 := hide (show MInv w.heap.size wq (wq.alloc (.cells (madeCells #[Value.slice none 0 0] (na + nb)) 30)) [] (some ⟨wq.heap.size, 0, none⟩) (na + nb) from
        ⟨⟨[], World.ownsRow_made wq _ _ (Nat.le_refl _) (by unfold maxLen; omega) (by rw [size_madeCells]; omega), .nil⟩, Ext.alloc _ _⟩)
      clear hnn
      go_wp2_with fail
      clear hmk
      generalize hW : wq.alloc (.cells (madeCells #[Value.slice none 0 0] (na + nb)) 30) = W1 at *
      clear hW
      go_loopw [5, 6, 7] (fun s5 s6 s7 w' => ∃ (i j : Nat) (out : List (List V)) (A : Option Addr) (c : Nat), i ≤ na ∧ j ≤ nb ∧ out.length ≤ i + j ∧ s6 = .int .i64 i ∧ s7 = .int .i64 j ∧ s5 = .slice A out.length c ∧ Hid (MGo a b' out i j) ∧ Hid (MInv w.heap.size wq w' out A c)) (fun _ s6 s7 _ => na + nb - (intOf s6).toNat - (intOf s7).toNat)
      case atStart => exact ⟨0, 0, [], _, _, by omega, by omega, by simp, rfl, rfl, rfl, by rw [Hid, MGo]; rfl, HO0.out⟩
      case round =>
        clear HO0
        obtain ⟨i, j, out, A5, c5, hia, hjb, hol, rfl, rfl, rfl, hG, hI⟩ := hrel
        obtain ⟨cells, ho, he⟩ := hI.out.row
        have hol2 : out.length ≤ 2097152 := by omega
        by_cases hi : i < na
        · obtain ⟨ba, oa, x, A9, n9, c9, rfl, hx, hbx, d0, hox⟩ := (HA.out.ext (RMine.stab _) hI.out.ext).mine_ hi
          have Hx := hide hx; have HOX := hide hox; have hxs := hsa.out x (List.mem_of_getElem? hx); have hxl := hide (RowAt.own hox).len
          clear hx hbx hox
          by_cases hj : j < nb
          · obtain ⟨bb, ob, y, A8, n8, c8, rfl, hy, hby, e0, hoy⟩ := (HB.out.ext (RMine.stab _) hI.out.ext).mine_ hj
            have Hy := hide hy; have HOY := hide hoy; have hys := hsb.out y (List.mem_of_getElem? hy); have hyl := hide (RowAt.own hoy).len
            clear hy hby hoy
            have hjn : ((j : Int) == (nb : Int)) = false := by rw [beq_eq_false_iff_ne]; omega
            have HCM := hide (fun w1 (h1 : Ext wr w1) => ref_cmp x y A9 A8 n9 n8 c9 c8 w1 ((RowAt.own HOX.out).ext h1) ((RowAt.own HOY.out).ext h1) (by have := hxl.out; omega) (by have := hyl.out; omega) hxs.2 hys.2)
            have hrg := isCmp_row.range x y
            have hlt := hide (fun h => hG.out.lt Hx.out Hy.out h)
            have heq := hide (fun h => hG.out.eq Hx.out Hy.out h)
            have hgt := hide (fun h => hG.out.gt Hx.out Hy.out h)
            have D0 := hide d0; have E0 := hide e0
            have d0 := cell_ext d0
            have e0 := cell_ext e0
            have HO := hide ho; have HEl := hide he
            clear ho he hxs hys
            generalize cmpR x y = cv at *
            go_wp2_with fail
            refine wp_region_ext 10 (by kernel_rfl) (by kernel_rfl) (by kernel_rfl) ?_
            iterate 10
              refine wpE_k (by kernel_rfl) (by kernel_rfl) ?_
              apply Exists.intro
              refine ⟨fun w1 hw1 => ?_, fun K hK => ?_⟩
              · go_simp; first | done | rfl | exact HCM.out w1 hw1
              go_simp; refine hK _ _ ?_; clear hK K
            refine wpE_nil ⟨rfl, by kernel_rfl, fun wz hwz => ?_⟩
            simp only [EndQ]
            refine wpList_nil ?_
            clear d0 e0 hjn
            have HO' := hide (mine_ext HO.out hwz); have HEl' := hide (HEl.out.ext (RMine.stab _) hwz); have HOX' := hide (mine_ext HOX.out hwz); have HOY' := hide (mine_ext HOY.out hwz)
            have d0 := hwz.cell D0.out
            have e0 := hwz.cell E0.out
            have XZ := hide (hI.out.ext.trans hwz)
            clear hwz HO HEl HOX HOY D0 E0 HCM
            have HO := HO'; have HEl := HEl'; clear HO' HEl'
            rcases hrg with rfl | rfl | rfl
            · have hst := hide (hlt.out (by omega))
              clear hlt heq hgt e0
              have HSx := hide (Blk.sl (n := 1) (size := 1) (Blk.new wz 30 #[.slice A9 n9 c9]) rfl)
              have HOx := hide (mine_ext HO.out (Ext.alloc wz (.cells #[.slice A9 n9 c9] 30)))
              have HEx := hide (HEl.out.ext (RMine.stab _) (Ext.alloc wz (.cells #[.slice A9 n9 c9] 30)))
              have HXx := hide (mine_ext HOX'.out (Ext.alloc wz (.cells #[.slice A9 n9 c9] 30)))
              go_wp2_with (at_builtin; refine wpList_append_sl rfl (.tmp 61) (.tmp 66) _ rfl 30 i0 _ 1 24 Tryz.underlying22 hi0 hz0 hz1 hz2 rfl (by omega) wq (XZ.out.trans (Ext.alloc _ _)) (.slice A5 out.length c5) out.length cells rfl HOx.out _ 1 1 [.slice A9 n9 c9] rfl HSx.out (fun v hv => by obtain rfl := List.mem_singleton.1 hv; rfl) (by unfold maxLen; omega) (by omega) ?_; intro A6 c6 w6 own6 E6 G6 L6)
              go_roundw
              case rel => exact ⟨i + 1, j, out ++ [x], A6, c6, by omega, by omega, by simp; omega, by go_num, by go_num, by simp, hst.out, MInv.snoc HEx.out HOx.out HXx.out G6.out own6.out E6.out⟩
              case measure => simp [intOf]; omega
            · have hst := hide (heq.out rfl)
              clear hlt heq hgt e0
              have HSx := hide (Blk.sl (n := 1) (size := 1) (Blk.new wz 30 #[.slice A9 n9 c9]) rfl)
              have HOx := hide (mine_ext HO.out (Ext.alloc wz (.cells #[.slice A9 n9 c9] 30)))
              have HEx := hide (HEl.out.ext (RMine.stab _) (Ext.alloc wz (.cells #[.slice A9 n9 c9] 30)))
              have HXx := hide (mine_ext HOX'.out (Ext.alloc wz (.cells #[.slice A9 n9 c9] 30)))
              go_wp2_with (at_builtin; refine wpList_append_sl rfl (.tmp 61) (.tmp 66) _ rfl 30 i0 _ 1 24 Tryz.underlying22 hi0 hz0 hz1 hz2 rfl (by omega) wq (XZ.out.trans (Ext.alloc _ _)) (.slice A5 out.length c5) out.length cells rfl HOx.out _ 1 1 [.slice A9 n9 c9] rfl HSx.out (fun v hv => by obtain rfl := List.mem_singleton.1 hv; rfl) (by unfold maxLen; omega) (by omega) ?_; intro A6 c6 w6 own6 E6 G6 L6)
              go_roundw
              case rel => exact ⟨i + 1, j + 1, out ++ [x], A6, c6, by omega, by omega, by simp; omega, by go_num, by go_num, by simp, hst.out, MInv.snoc HEx.out HOx.out HXx.out G6.out own6.out E6.out⟩
              case measure => simp [intOf]; omega
            · have hst := hide (hgt.out (by omega))
              clear hlt heq hgt d0
              have HSx := hide (Blk.sl (n := 1) (size := 1) (Blk.new wz 30 #[.slice A8 n8 c8]) rfl)
              have HOx := hide (mine_ext HO.out (Ext.alloc wz (.cells #[.slice A8 n8 c8] 30)))
              have HEx := hide (HEl.out.ext (RMine.stab _) (Ext.alloc wz (.cells #[.slice A8 n8 c8] 30)))
              have HXx := hide (mine_ext HOY'.out (Ext.alloc wz (.cells #[.slice A8 n8 c8] 30)))
              go_wp2_with (at_builtin; refine wpList_append_sl rfl (.tmp 70) (.tmp 75) _ rfl 30 i0 _ 1 24 Tryz.underlying22 hi0 hz0 hz1 hz2 rfl (by omega) wq (XZ.out.trans (Ext.alloc _ _)) (.slice A5 out.length c5) out.length cells rfl HOx.out _ 1 1 [.slice A8 n8 c8] rfl HSx.out (fun v hv => by obtain rfl := List.mem_singleton.1 hv; rfl) (by unfold maxLen; omega) (by omega) ?_; intro A6 c6 w6 own6 E6 G6 L6)
              go_roundw
              case rel => exact ⟨i, j + 1, out ++ [y], A6, c6, by omega, by omega, by simp; omega, by go_num, by go_num, by simp, hst.out, MInv.snoc HEx.out HOx.out HXx.out G6.out own6.out E6.out⟩
              case measure => simp [intOf]; omega
          · obtain rfl : j = nb := by omega
            have hst := hide (hG.out.left Hx.out (by have := HNB.out; omega))
            have HO := hide ho; have HEl := hide he; have XZ := hide hI.out.ext
            clear ho he hxs
            have HSx := hide (Blk.sl (n := 1) (size := 1) (Blk.new wr 30 #[.slice A9 n9 c9]) rfl)
            have HOx := hide (mine_ext HO.out (Ext.alloc wr (.cells #[.slice A9 n9 c9] 30)))
            have HEx := hide (HEl.out.ext (RMine.stab _) (Ext.alloc wr (.cells #[.slice A9 n9 c9] 30)))
            have HXx := hide (mine_ext HOX.out (Ext.alloc wr (.cells #[.slice A9 n9 c9] 30)))
            go_wp2_with (at_builtin; refine wpList_append_sl rfl (.tmp 61) (.tmp 66) _ rfl 30 i0 _ 1 24 Tryz.underlying22 hi0 hz0 hz1 hz2 rfl (by omega) wq (XZ.out.trans (Ext.alloc _ _)) (.slice A5 out.length c5) out.length cells rfl HOx.out _ 1 1 [.slice A9 n9 c9] rfl HSx.out (fun v hv => by obtain rfl := List.mem_singleton.1 hv; rfl) (by unfold maxLen; omega) (by omega) ?_; intro A6 c6 w6 own6 E6 G6 L6)
            go_roundw
            case rel => exact ⟨i + 1, j, out ++ [x], A6, c6, by omega, by omega, by simp; omega, by go_num, by go_num, by simp, hst.out, MInv.snoc HEx.out HOx.out HXx.out G6.out own6.out E6.out⟩
            case measure => simp [intOf]; omega
        · obtain rfl : i = na := by omega
          by_cases hj : j < nb
          · obtain ⟨bb, ob, y, A8, n8, c8, rfl, hy, hby, e0, hoy⟩ := (HB.out.ext (RMine.stab _) hI.out.ext).mine_ hj
            have Hy := hide hy; have HOY := hide hoy; have hys := hsb.out y (List.mem_of_getElem? hy); have hyl := hide (RowAt.own hoy).len
            clear hy hby hoy
            have hjn : ((j : Int) == (nb : Int)) = false := by rw [beq_eq_false_iff_ne]; omega
            have hst := hide (hG.out.right Hy.out (by have := HNA.out; omega))
            have HO := hide ho; have HEl := hide he; have XZ := hide hI.out.ext
            clear ho he hys
            have HSx := hide (Blk.sl (n := 1) (size := 1) (Blk.new wr 30 #[.slice A8 n8 c8]) rfl)
            have HOx := hide (mine_ext HO.out (Ext.alloc wr (.cells #[.slice A8 n8 c8] 30)))
            have HEx := hide (HEl.out.ext (RMine.stab _) (Ext.alloc wr (.cells #[.slice A8 n8 c8] 30)))
            have HXx := hide (mine_ext HOY.out (Ext.alloc wr (.cells #[.slice A8 n8 c8] 30)))
            go_wp2_with (at_builtin; refine wpList_append_sl rfl (.tmp 70) (.tmp 75) _ rfl 30 i0 _ 1 24 Tryz.underlying22 hi0 hz0 hz1 hz2 rfl (by omega) wq (XZ.out.trans (Ext.alloc _ _)) (.slice A5 out.length c5) out.length cells rfl HOx.out _ 1 1 [.slice A8 n8 c8] rfl HSx.out (fun v hv => by obtain rfl := List.mem_singleton.1 hv; rfl) (by unfold maxLen; omega) (by omega) ?_; intro A6 c6 w6 own6 E6 G6 L6)
            go_roundw
            case rel => exact ⟨i, j + 1, out ++ [y], A6, c6, by omega, by omega, by simp; omega, by go_num, by go_num, by simp, hst.out, MInv.snoc HEx.out HOx.out HXx.out G6.out own6.out E6.out⟩
            case measure => simp [intOf]; omega
          · have hfin := hide (show RetRows w (arrP rows) (.returned (.slice A5 out.length c5)) wr by
              have hd := hG.out.done (by have := HNA.out; omega) (by have := HNB.out; omega)
              rw [← HMER.out, hd]
              exact ⟨A5, _, c5, cells, rfl, rfl, mine_base ho XQ.out.size, he, XQ.out.trans hI.out.ext⟩)
            clear ho he
            go_wp2_with fail
            go_ret
            exact hfin.out
        end Go.Proofs.YtifloafhpeeepaaGreat
