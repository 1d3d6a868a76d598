/-
  A frozen query, as plain data: what the program makes step by step, and what the document defines.
-/
import Derived.Test.YthjpcnceppmnmaaPlainP
namespace Go.Proofs.Ythjpcnceppmnmaa
open Go.RowKit

/-- a table: a relation's name, rows -/
structure Tbl where
  rel : ByteArray
  rows : List (List V)
def iceV (vs : List ByteArray) (x : ByteArray) : V := ⟨3, firstI (eqB x) vs 0, .empty⟩
def iceT (vs : List ByteArray) (t : Tm) : V := if noVar t then t.c else iceV vs t.v
def iceR (vs : List ByteArray) (a : Atm) : List V := a.terms.map (iceT vs)
def hasR (rs : List (List V)) (r : List V) : Bool := rs.any fun s => sameR s r
def addR (rs : List (List V)) (r : List V) : List (List V) := if hasR rs r then rs else rs ++ [r]
def rowsOf (vs : List ByteArray) (as_ : List Atm) (rel : ByteArray) : List (List V) := (as_.filter fun a => decide (a.rel = rel)).foldl (fun rs a => addR rs (iceR vs a)) []
def relsOf (as_ : List Atm) : List ByteArray := (as_.map (·.rel)).foldl addV []
def frzT (vs : List ByteArray) (as_ : List Atm) : List Tbl := (relsOf as_).map fun rel => ⟨rel, rowsOf vs as_ rel⟩
def frzR (q : Qy) : List Tbl × List V × Int := if shapeQ q = 0 then (frzT (varsQ q) q.atoms, q.head.map (iceV (varsQ q)), 0) else ([], [], shapeQ q)

theorem relsOf_snoc (l : List Atm) (a : Atm) : relsOf (l ++ [a]) = addV (relsOf l) a.rel := by simp [relsOf]
theorem mem_rels {l : List Atm} {x : ByteArray} : x ∈ relsOf l ↔ ∃ a ∈ l, a.rel = x := by
  unfold relsOf
  rw [mem_seen]
  simp
theorem rowsOf_snoc (vs : List ByteArray) (l : List Atm) (a : Atm) (rel : ByteArray) : rowsOf vs (l ++ [a]) rel = if a.rel = rel then addR (rowsOf vs l rel) (iceR vs a) else rowsOf vs l rel := by
  unfold rowsOf
  by_cases h : a.rel = rel <;> simp [h]
theorem rowsOf_new {vs : List ByteArray} {l : List Atm} {x : ByteArray} (h : x ∉ relsOf l) : rowsOf vs l x = [] := by
  unfold rowsOf
  have : (l.filter fun a => decide (a.rel = x)) = [] := by
    rw [List.filter_eq_nil_iff]
    intro a ha he
    exact h (mem_rels.2 ⟨a, ha, of_decide_eq_true he⟩)
  rw [this]; rfl
theorem nodup_addV {l : List ByteArray} {x : ByteArray} (h : l.Nodup) : (addV l x).Nodup := by
  unfold addV
  split
  · exact h
  · rename_i hm
    rw [List.nodup_append]
    refine ⟨h, by simp, fun a ha b hb => ?_⟩
    obtain rfl := List.mem_singleton.1 hb
    rintro rfl
    exact hm (memB_iff.2 ha)
theorem nodup_fold : ∀ (xs l : List ByteArray), l.Nodup → (xs.foldl addV l).Nodup
  | [], _, h => h
  | _ :: xs, _, h => nodup_fold xs _ (nodup_addV h)
theorem rels_nodup (l : List Atm) : (relsOf l).Nodup := nodup_fold _ _ .nil
theorem map_set_at {α β : Type} {f f' : α → β} : ∀ {l : List α} {k : Nat} {x : α}, l.Nodup → l[k]? = some x → (∀ y, y ≠ x → f' y = f y) → l.map f' = (l.map f).set k (f' x)
  | [], k, x, _, h, _ => by simp at h
  | y :: l, 0, x, hn, h, hf => by
    obtain rfl : y = x := by simpa using h
    simp only [List.map_cons, List.set_cons_zero, List.cons.injEq, true_and]
    refine List.map_congr_left fun z hz => hf z fun e => ?_
    subst e
    exact (List.nodup_cons.1 hn).1 hz
  | y :: l, k + 1, x, hn, h, hf => by
    have hx : l[k]? = some x := by simpa using h
    simp only [List.map_cons, List.set_cons_succ, List.cons.injEq]
    refine ⟨hf y fun e => ?_, map_set_at (List.nodup_cons.1 hn).2 hx hf⟩
    subst e
    exact (List.nodup_cons.1 hn).1 (List.mem_of_getElem? hx)
/-- which table an atom's relation has -/
def relB (x : ByteArray) : Tbl → Bool := fun t => decide (t.rel = x)
theorem firstI_map {α β : Type} (p : β → Bool) (f : α → β) : ∀ (l : List α) (i : Nat), firstI p (l.map f) i = firstI (fun x => p (f x)) l i
  | [], _ => rfl
  | x :: l, i => by simp only [List.map_cons, firstI, firstI_map p f l]
theorem frz_at {vs : List ByteArray} {l : List Atm} {x : ByteArray} : firstI (relB x) (frzT vs l) 0 = firstI (eqB x) (relsOf l) 0 := firstI_map _ _ _ _
/-- an atom of a relation that is there -/
theorem frz_old {vs : List ByteArray} {l : List Atm} {a : Atm} (h : memB (relsOf l) a.rel = true) :
    ∃ k : Nat, firstI (relB a.rel) (frzT vs l) 0 = (k : Int) ∧ (frzT vs l)[k]? = some ⟨a.rel, rowsOf vs l a.rel⟩ ∧ frzT vs (l ++ [a]) = (frzT vs l).set k ⟨a.rel, addR (rowsOf vs l a.rel) (iceR vs a)⟩ := by
  obtain ⟨k, h1, h2⟩ := at_mem (memB_iff.1 h)
  refine ⟨k, by rw [frz_at, h1], by simp [frzT, h2], ?_⟩
  have e : relsOf (l ++ [a]) = relsOf l := by rw [relsOf_snoc]; exact if_pos h
  unfold frzT
  rw [e, map_set_at (f := fun rel => (⟨rel, rowsOf vs l rel⟩ : Tbl)) (rels_nodup l) h2 fun y hy => by rw [rowsOf_snoc, if_neg (Ne.symm hy)]]
  rw [rowsOf_snoc, if_pos rfl]
/-- an atom of a relation that is new -/
theorem frz_new {vs : List ByteArray} {l : List Atm} {a : Atm} (h : memB (relsOf l) a.rel = false) :
    firstI (relB a.rel) (frzT vs l) 0 = -1 ∧ frzT vs (l ++ [a]) = frzT vs l ++ [⟨a.rel, [iceR vs a]⟩] := by
  have hm : a.rel ∉ relsOf l := fun hx => by rw [memB_iff.2 hx] at h; cases h
  refine ⟨?_, ?_⟩
  · rw [frz_at]
    have h1 := (firstI_neg (eqB a.rel) (relsOf l) 0).2 h
    have h2 := firstI_le (eqB a.rel) (relsOf l) 0
    omega
  · have e : relsOf (l ++ [a]) = relsOf l ++ [a.rel] := by rw [relsOf_snoc]; exact if_neg (by rw [h]; decide)
    unfold frzT
    rw [e, List.map_append, List.map_cons, List.map_nil, rowsOf_snoc, if_pos rfl, rowsOf_new hm]
    congr 1
    refine List.map_congr_left fun y hy => ?_
    rw [rowsOf_snoc, if_neg (fun e : a.rel = y => hm (by rw [e]; exact hy))]
theorem frz_len (vs : List ByteArray) (l : List Atm) : (frzT vs l).length ≤ l.length := by
  unfold frzT relsOf
  have := seen_len (l.map (·.rel)) []
  simp at this ⊢
  exact this
theorem addR_len (rs : List (List V)) (r : List V) : (addR rs r).length ≤ rs.length + 1 := by
  unfold addR
  split
  · omega
  · simp
theorem rowsOf_len (vs : List ByteArray) (l : List Atm) (x : ByteArray) : (rowsOf vs l x).length ≤ l.length := by
  unfold rowsOf
  suffices h : ∀ (as_ : List Atm) (acc : List (List V)), (as_.foldl (fun rs a => addR rs (iceR vs a)) acc).length ≤ acc.length + as_.length by
    have := h (l.filter fun a => decide (a.rel = x)) []
    have h2 := List.length_filter_le (fun a : Atm => decide (a.rel = x)) l
    simp only [List.length_nil] at this
    omega
  intro as_
  induction as_ with
  | nil => intro acc; simp
  | cons a r ih =>
    intro acc
    have h1 := ih (addR acc (iceR vs a))
    have h2 := addR_len acc (iceR vs a)
    simp only [List.foldl_cons, List.length_cons]
    omega
/-- the document's: the tables of the first i atoms' relations, with all their rows -/
def refT (vs : List ByteArray) (as_ : List Atm) (i : Nat) : List Tbl := (relsOf (as_.take i)).map fun rel => ⟨rel, rowsOf vs as_ rel⟩
theorem refT_all (vs : List ByteArray) (as_ : List Atm) : refT vs as_ as_.length = frzT vs as_ := by simp [refT, frzT]
theorem refT_zero (vs : List ByteArray) (as_ : List Atm) : refT vs as_ 0 = [] := rfl
theorem refT_old {vs : List ByteArray} {as_ : List Atm} {i : Nat} {a : Atm} (h : as_[i]? = some a) (hm : memB (relsOf (as_.take i)) a.rel = true) : refT vs as_ (i + 1) = refT vs as_ i := by
  unfold refT
  rw [List.take_add_one, h, Option.toList_some, relsOf_snoc]
  unfold addV
  rw [if_pos hm]
theorem refT_new {vs : List ByteArray} {as_ : List Atm} {i : Nat} {a : Atm} (h : as_[i]? = some a) (hm : memB (relsOf (as_.take i)) a.rel = false) : refT vs as_ (i + 1) = refT vs as_ i ++ [⟨a.rel, rowsOf vs as_ a.rel⟩] := by
  unfold refT
  rw [List.take_add_one, h, Option.toList_some, relsOf_snoc]
  unfold addV
  rw [if_neg (by rw [hm]; decide), List.map_append]; rfl
theorem rows_skip {vs : List ByteArray} {as_ : List Atm} {j : Nat} {b : Atm} {x : ByteArray} (h : as_[j]? = some b) (hr : b.rel ≠ x) : rowsOf vs (as_.take (j + 1)) x = rowsOf vs (as_.take j) x := by
  rw [List.take_add_one, h, Option.toList_some, rowsOf_snoc, if_neg hr]
theorem rows_add {vs : List ByteArray} {as_ : List Atm} {j : Nat} {b : Atm} {x : ByteArray} (h : as_[j]? = some b) (hr : b.rel = x) : rowsOf vs (as_.take (j + 1)) x = addR (rowsOf vs (as_.take j) x) (iceR vs b) := by
  rw [List.take_add_one, h, Option.toList_some, rowsOf_snoc, if_pos hr]
theorem refT_len (vs : List ByteArray) (as_ : List Atm) (i : Nat) : (refT vs as_ i).length ≤ i := by
  unfold refT relsOf
  have := seen_len ((as_.take i).map (·.rel)) []
  simp at this ⊢
  omega
/-- has an atom ahead this relation? step by step -/
def knownB (as_ : List Atm) (x : ByteArray) (j : Nat) : Bool := memB (relsOf (as_.take j)) x
theorem known_step {as_ : List Atm} {x : ByteArray} {j : Nat} {b : Atm} (h : as_[j]? = some b) : knownB as_ x (j + 1) = (knownB as_ x j || decide (b.rel = x)) := by
  unfold knownB
  rw [Bool.eq_iff_iff, Bool.or_eq_true, memB_iff, memB_iff, decide_eq_true_iff, mem_rels, mem_rels, List.take_add_one, h, Option.toList_some]
  constructor
  · rintro ⟨a, ha, e⟩
    rcases List.mem_append.1 ha with ha | ha
    · exact .inl ⟨a, ha, e⟩
    · obtain rfl := List.mem_singleton.1 ha
      exact .inr e
  · rintro (⟨a, ha, e⟩ | e)
    · exact ⟨a, List.mem_append_left _ ha, e⟩
    · exact ⟨b, List.mem_append_right _ (List.mem_singleton.2 rfl), e⟩
def sameRs : List (List V) → List (List V) → Bool
  | [], [] => true
  | [], _ :: _ => false
  | _ :: _, [] => false
  | a :: l, b :: m => sameR a b && sameRs l m
theorem sameRs_iff : ∀ {r s : List (List V)}, sameRs r s = true ↔ r = s
  | [], [] => by simp [sameRs]
  | [], _ :: _ => by simp [sameRs]
  | _ :: _, [] => by simp [sameRs]
  | a :: r, b :: s => by simp [sameRs, sameR_iff, sameRs_iff]
theorem sameRs_len {r s : List (List V)} (h : r.length ≠ s.length) : sameRs r s = false := by
  cases he : sameRs r s with
  | false => rfl
  | true => exact absurd (congrArg List.length (sameRs_iff.1 he)) h
theorem sameRs_drop (r s : List (List V)) (k : Nat) (a b : List V) (ha : r[k]? = some a) (hb : s[k]? = some b) : sameRs (r.drop k) (s.drop k) = (sameR a b && sameRs (r.drop (k + 1)) (s.drop (k + 1))) := by
  rw [List.getElem?_eq_some_iff] at ha hb
  obtain ⟨ha, ea⟩ := ha
  obtain ⟨hb, eb⟩ := hb
  rw [List.drop_eq_getElem_cons ha, List.drop_eq_getElem_cons hb, ea, eb]; rfl
def sameTb : List Tbl → List Tbl → Bool
  | [], [] => true
  | [], _ :: _ => false
  | _ :: _, [] => false
  | a :: l, b :: m => (decide (a.rel = b.rel) && sameRs a.rows b.rows) && sameTb l m
theorem sameTb_iff : ∀ {r s : List Tbl}, sameTb r s = true ↔ r = s
  | [], [] => by simp [sameTb]
  | [], _ :: _ => by simp [sameTb]
  | _ :: _, [] => by simp [sameTb]
  | ⟨x, a⟩ :: r, ⟨y, b⟩ :: s => by simp [sameTb, sameRs_iff, sameTb_iff]
theorem sameTb_len {r s : List Tbl} (h : r.length ≠ s.length) : sameTb r s = false := by
  cases he : sameTb r s with
  | false => rfl
  | true => exact absurd (congrArg List.length (sameTb_iff.1 he)) h
theorem sameTb_drop (r s : List Tbl) (k : Nat) (a b : Tbl) (ha : r[k]? = some a) (hb : s[k]? = some b) : sameTb (r.drop k) (s.drop k) = ((decide (a.rel = b.rel) && sameRs a.rows b.rows) && sameTb (r.drop (k + 1)) (s.drop (k + 1))) := by
  rw [List.getElem?_eq_some_iff] at ha hb
  obtain ⟨ha, ea⟩ := ha
  obtain ⟨hb, eb⟩ := hb
  rw [List.drop_eq_getElem_cons ha, List.drop_eq_getElem_cons hb, ea, eb]; rfl
end Go.Proofs.Ythjpcnceppmnmaa
