/-
  NaiveTurned and NaiveOne: the plain laws.
-/
import Derived.Test.YtpfjkjmimmklcaaNaiH
import Derived.Test.YtpfjkjmimmklcaaNaiZ
import Derived.Test.YtpfjkjmimmklcaaHomG
namespace Go.Proofs.Ytpfjkjmimmklcaa
open Go.RowKit

/-- the tables from the last to the first, each with its rows from the last to the first, and its first row twice -/
def turnRows (rs : List (List V)) : List (List V) := rs.reverse ++ (match rs.reverse with | [] => [] | x :: _ => [x])
def turnTab (t : Tbl) : Tbl := ⟨t.rel, turnRows t.rows⟩
def turnD (data : List Tbl) : List Tbl := data.reverse.map turnTab
theorem mem_turnRows {rs : List (List V)} {x : List V} : x ∈ turnRows rs ↔ x ∈ rs := by
  unfold turnRows
  rw [List.mem_append, List.mem_reverse]
  constructor
  · rintro (h | h)
    · exact h
    · cases hr : rs.reverse with
      | nil => rw [hr] at h; cases h
      | cons y l =>
        rw [hr] at h
        obtain rfl := List.mem_singleton.1 h
        rw [← List.mem_reverse, hr]
        simp
  · exact .inl
theorem rows_turn {data : List Tbl} {rel : ByteArray} {x : List V} : x ∈ rowsOfP (turnD data) rel ↔ x ∈ rowsOfP data rel := by
  unfold rowsOfP turnD
  simp only [List.mem_flatMap, List.mem_map, List.mem_reverse]
  constructor
  · rintro ⟨_, ⟨t, ht, rfl⟩, hx⟩
    refine ⟨t, ht, ?_⟩
    by_cases hr : t.rel = rel
    · rw [if_pos (show (turnTab t).rel = rel from hr)] at hx
      rw [if_pos hr]
      exact mem_turnRows.1 hx
    · rw [if_neg (show ¬ (turnTab t).rel = rel from hr)] at hx
      cases hx
  · rintro ⟨t, ht, hx⟩
    refine ⟨_, ⟨t, ht, rfl⟩, ?_⟩
    by_cases hr : t.rel = rel
    · rw [if_pos hr] at hx
      rw [if_pos (show (turnTab t).rel = rel from hr)]
      exact mem_turnRows.2 hx
    · rw [if_neg hr] at hx
      cases hx
/-- the atoms turned round by k -/
def turnA (as_ : List Atm) (k : Nat) (i : Nat) : Option Atm := as_[as_.length - 1 - (i + k) % as_.length]?
/-- a query whose atoms are those of the plain form, turned round -/
structure TurnOf (q : Qy) (k : Nat) (t : Qy) : Prop where
  name : t.name = (plainQ q).name
  head : t.head = (plainQ q).head
  len : t.atoms.length = (plainQ q).atoms.length
  at_ : ∀ i, i < t.atoms.length → t.atoms[i]? = turnA (plainQ q).atoms k i
theorem turn_mem {q t : Qy} {k : Nat} (h : TurnOf q k t) (hk : k < (plainQ q).atoms.length) (a : Atm) : a ∈ t.atoms ↔ a ∈ (plainQ q).atoms := by
  constructor
  · intro ha
    obtain ⟨i, hi, rfl⟩ := List.getElem_of_mem ha
    have h1 := h.at_ i hi
    rw [List.getElem?_eq_getElem hi] at h1
    exact List.mem_of_getElem? h1.symm
  · intro ha
    obtain ⟨j, hj, rfl⟩ := List.getElem_of_mem ha
    have hn : 0 < (plainQ q).atoms.length := by omega
    have hi : (((plainQ q).atoms.length - 1 - j) + ((plainQ q).atoms.length - k)) % (plainQ q).atoms.length < t.atoms.length := by rw [h.len]; exact Nat.mod_lt _ hn
    have h1 := h.at_ _ hi
    unfold turnA at h1
    have e : ((((plainQ q).atoms.length - 1 - j) + ((plainQ q).atoms.length - k)) % (plainQ q).atoms.length + k) % (plainQ q).atoms.length = (plainQ q).atoms.length - 1 - j := by
      rw [Nat.mod_add_mod, show ((plainQ q).atoms.length - 1 - j) + ((plainQ q).atoms.length - k) + k = ((plainQ q).atoms.length - 1 - j) + (plainQ q).atoms.length by omega, Nat.add_mod_right, Nat.mod_eq_of_lt (by omega)]
    rw [e, show (plainQ q).atoms.length - 1 - ((plainQ q).atoms.length - 1 - j) = j by omega, List.getElem?_eq_getElem hj] at h1
    exact List.mem_of_getElem? h1
theorem turned_law {q t : Qy} {k : Nat} {data : List Tbl} {m1 m2 : Int} (h : TurnOf q k t) (hk : k < (plainQ q).atoms.length) (h1 : (answersP q data m1).2 = 0) (h2 : (answersP t (turnD data) m2).2 = 0) : (answersP q data m1).1 = (answersP t (turnD data) m2).1 := by
  obtain ⟨e1, hq⟩ := answersP_ok h1
  obtain ⟨e2, ht⟩ := answersP_ok h2
  rw [e1, e2]
  have l1 : Lies q t := by
    obtain ⟨f, g1, g2⟩ := plain_on hq
    exact ⟨f, by rw [h.head]; exact g1, fun a ha => by obtain ⟨b, hb, hab⟩ := g2 a ha; exact ⟨b, (turn_mem h hk b).2 hb, hab⟩⟩
  have l2 : Lies t q := by
    obtain ⟨f, g1, g2⟩ := plain_back hq
    exact ⟨f, by rw [h.head]; exact g1, fun a ha => g2 a ((turn_mem h hk a).1 ha)⟩
  rw [same_ans hq ht (by rw [h.head]; simp [plainQ]) l1 l2 data]
  refine rises_unique (rises_ans _ _) (rises_ans _ _) fun x => ?_
  rw [mem_ans ht, mem_ans ht]
  constructor
  · rintro ⟨σ, g1, g2⟩; exact ⟨σ, fun a ha => rows_turn.2 (g1 a ha), g2⟩
  · rintro ⟨σ, g1, g2⟩; exact ⟨σ, fun a ha => rows_turn.1 (g1 a ha), g2⟩

/-- a query of one atom -/
def oneQ (a : Atm) : Qy := ⟨⟨#[81]⟩, varsA a, [a]⟩
def oneD (a : Atm) (rows : List (List V)) : List Tbl := [⟨a.rel, rows⟩]
theorem rowsOf_one (a : Atm) (rows : List (List V)) : rowsOfP (oneD a rows) a.rel = rows := by simp [rowsOfP, oneD]
theorem cost_one (a : Atm) (rows : List (List V)) : costP (oneQ a) (oneD a rows) = rows.length := by
  have e : lvsFrom (varsQ (oneQ a)) (oneD a rows) (oneQ a).atoms = [⟨a, rows, (varsA a).map (atN (varsQ (oneQ a)))⟩] := by
    simp [lvsFrom, oneQ, rowsOf_one]
  unfold costP
  rw [e]
  simp only [cost]
  have h0 : ∀ l : List (List V), (l.map (fun _ => 0)).sum = 0 := fun l => by
    induction l with
    | nil => rfl
    | cons x l ih => rw [List.map_cons, List.sum_cons, ih]
  rw [h0]; rfl
theorem ans_one_len (a : Atm) (rows : List (List V)) : (ansP (oneQ a) (oneD a rows)).length ≤ rows.length := by
  have e : lvsFrom (varsQ (oneQ a)) (oneD a rows) (oneQ a).atoms = [⟨a, rows, (varsA a).map (atN (varsQ (oneQ a)))⟩] := by
    simp [lvsFrom, oneQ, rowsOf_one]
  unfold ansP
  refine Nat.le_trans (arr_len _) ?_
  rw [e, List.length_map]
  simp only [leaves]
  refine Nat.le_trans (Nat.le_of_eq ?_) (List.length_filterMap_le (Lv.one ⟨a, rows, (varsA a).map (atN (varsQ (oneQ a)))⟩ []) rows)
  unfold Lv.step
  generalize List.filterMap _ rows = l
  induction l with
  | nil => rfl
  | cons x l ih => rw [List.flatMap_cons, List.length_append, ih]; simp; omega
theorem mem_one {a : Atm} {rows : List (List V)} (hsh : Shaped (oneQ a)) {x : List V} : x ∈ ansP (oneQ a) (oneD a rows) ↔ ∃ r ∈ rows, matchA a r = some x := by
  rw [mem_ans hsh]
  constructor
  · rintro ⟨σ, h1, h2⟩
    refine ⟨_, by have := h1 a (by simp [oneQ]); rwa [rowsOf_one] at this, matchA_iff.2 ⟨σ, rfl, h2⟩⟩
  · rintro ⟨r, hr, hm⟩
    obtain ⟨σ, h1, h2⟩ := matchA_iff.1 hm
    refine ⟨σ, fun b hb => ?_, h2⟩
    obtain rfl := List.mem_singleton.1 (show b ∈ [a] from hb)
    rw [rowsOf_one, ← h1]
    exact hr
theorem answers_one {a : Atm} {rows : List (List V)} : answersP (oneQ a) (oneD a rows) 1073741824 = if shapeQ (oneQ a) = 0 then (if rows.length ≤ 131072 then (ansP (oneQ a) (oneD a rows), 0) else ([], 120)) else ([], shapeQ (oneQ a)) := by
  unfold answersP
  rw [cost_one]
  split
  · rw [if_neg (by decide)]
    split
    · rw [if_neg (by have := ans_one_len a rows; omega)]
    · rfl
  · rfl
end Go.Proofs.Ytpfjkjmimmklcaa
