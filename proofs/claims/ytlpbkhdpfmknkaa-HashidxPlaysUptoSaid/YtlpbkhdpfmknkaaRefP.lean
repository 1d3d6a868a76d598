/-
  The document's index as plain lists: rising keys, a number beside each.
-/
import Derived.Test.YtlpbkhdpfmknkaaRefTx
namespace Go.Proofs.Ytlpbkhdpfmknkaa
open Go.RowKit

theorem isCmp_tx : IsCmp cmpB := isCmp_bytes
/-- the keys rise -/
def Rises (L : List ByteArray) : Prop := L.Pairwise fun a b => cmpB a b < 0
/-- the place p parts the keys: those ahead are smaller, the others aren't -/
structure Cut (L : List ByteArray) (key : ByteArray) (p : Nat) : Prop where
  le : p ≤ L.length
  lo : ∀ (i : Nat) (s : ByteArray), L[i]? = some s → i < p → cmpB s key < 0
  hi : ∀ (i : Nat) (s : ByteArray), L[i]? = some s → p ≤ i → 0 ≤ cmpB s key
theorem cmpB_self (a : ByteArray) : cmpB a a = 0 := (isCmp_tx.eq a a).2 rfl
theorem cmpB_anti (a b : ByteArray) : cmpB b a = - cmpB a b := isCmp_tx.anti a b
theorem cmpB_lt {a b c : ByteArray} (h : cmpB a b < 0) (k : cmpB b c < 0) : cmpB a c < 0 := by
  have h1 := isCmp_tx.trans a b c (by omega) (by omega)
  rcases Int.lt_or_eq_of_le h1 with h2 | h2
  · exact h2
  · have e := (isCmp_tx.eq a c).1 h2
    subst e
    have := cmpB_anti a b
    omega
theorem cmpB_lt_le {a b c : ByteArray} (h : cmpB a b < 0) (k : cmpB b c ≤ 0) : cmpB a c < 0 := by
  rcases Int.lt_or_eq_of_le k with h2 | h2
  · exact cmpB_lt h h2
  · rw [← (isCmp_tx.eq b c).1 h2]; exact h
theorem Rises.get {L : List ByteArray} (h : Rises L) {i j : Nat} {s t : ByteArray} (hi : L[i]? = some s) (hj : L[j]? = some t) (hij : i < j) : cmpB s t < 0 := by
  obtain ⟨h1, rfl⟩ := List.getElem?_eq_some_iff.1 hi
  obtain ⟨h2, rfl⟩ := List.getElem?_eq_some_iff.1 hj
  exact List.pairwise_iff_getElem.1 h i j h1 h2 hij
/-- one step of the search: the middle key is smaller, or it isn't -/
theorem Rises.below {L : List ByteArray} (h : Rises L) {key s : ByteArray} {m : Nat} (hm : L[m]? = some s) (hs : cmpB s key < 0) : ∀ (i : Nat) (t : ByteArray), L[i]? = some t → i < m + 1 → cmpB t key < 0 := fun i t ht hi => by
  rcases Nat.lt_or_ge i m with h1 | h1
  · exact cmpB_lt (h.get ht hm h1) hs
  · obtain rfl : i = m := by omega
    rw [hm] at ht
    injection ht with ht
    rw [← ht]; exact hs
theorem Rises.above {L : List ByteArray} (h : Rises L) {key s : ByteArray} {m : Nat} (hm : L[m]? = some s) (hs : 0 ≤ cmpB s key) : ∀ (i : Nat) (t : ByteArray), L[i]? = some t → m ≤ i → 0 ≤ cmpB t key := fun i t ht hi => by
  rcases Nat.lt_or_ge m i with h1 | h1
  · have h2 := h.get hm ht h1
    rcases Int.lt_or_le (cmpB t key) 0 with h3 | h3
    · have := cmpB_lt h2 h3
      omega
    · exact h3
  · obtain rfl : i = m := by omega
    rw [hm] at ht
    injection ht with ht
    rw [← ht]; exact hs
theorem Cut.not_mem {L : List ByteArray} {key : ByteArray} {p : Nat} (h : Cut L key p) (hr : Rises L) (hp : L[p]? ≠ some key) : key ∉ L := fun hm => by
  obtain ⟨i, hi, e⟩ := List.getElem_of_mem hm
  have hg : L[i]? = some key := by rw [List.getElem?_eq_getElem hi, e]
  rcases Nat.lt_trichotomy i p with h1 | rfl | h1
  · have := h.lo i key hg h1
    rw [cmpB_self] at this
    omega
  · exact hp hg
  · have hpl : p < L.length := by omega
    have h2 := List.getElem?_eq_getElem hpl
    have h3 := hr.get h2 hg h1
    have h4 := h.hi p _ h2 (Nat.le_refl _)
    omega
/-- a key put in its place -/
def insAt {α : Type} (L : List α) (p : Nat) (a : α) : List α := L.take p ++ a :: L.drop p
theorem insAt_len {α : Type} {L : List α} {p : Nat} (a : α) (h : p ≤ L.length) : (insAt L p a).length = L.length + 1 := by
  simp only [insAt, List.length_append, List.length_take, List.length_cons, List.length_drop]; omega
theorem Cut.rises {L : List ByteArray} {key : ByteArray} {p : Nat} (h : Cut L key p) (hr : Rises L) (hn : key ∉ L) : Rises (insAt L p key) := by
  have h1 : L.take p ++ L.drop p = L := List.take_append_drop p L
  have hr2 : Rises (L.take p ++ L.drop p) := by rw [h1]; exact hr
  obtain ⟨a1, a2, a3⟩ := List.pairwise_append.1 hr2
  refine List.pairwise_append.2 ⟨a1, List.pairwise_cons.2 ⟨fun t ht => ?_, a2⟩, fun s hs t ht => ?_⟩
  · obtain ⟨i, hi, e⟩ := List.getElem_of_mem ht
    have hg : L[p + i]? = some t := by rw [← List.getElem?_drop, List.getElem?_eq_getElem hi, e]
    have h2 := h.hi _ t hg (by omega)
    have h3 : cmpB t key ≠ 0 := fun e => hn ((isCmp_tx.eq t key).1 e ▸ List.mem_of_getElem? hg)
    have := cmpB_anti t key
    omega
  · obtain ⟨i, hi, e⟩ := List.getElem_of_mem hs
    have hi' : i < p := by simp at hi; omega
    have hg : L[i]? = some s := by rw [← List.getElem?_take_of_lt hi', List.getElem?_eq_getElem hi, e]
    have h2 := h.lo i s hg hi'
    rcases List.mem_cons.1 ht with rfl | ht
    · exact h2
    · exact a3 s hs t ht
theorem Rises.erase {L : List ByteArray} (h : Rises L) (p : Nat) : Rises (L.eraseIdx p) := List.Pairwise.sublist (List.eraseIdx_sublist L p) h
theorem Rises.nodup {L : List ByteArray} (h : Rises L) {i j : Nat} {s : ByteArray} (hi : L[i]? = some s) (hj : L[j]? = some s) : i = j := by
  rcases Nat.lt_trichotomy i j with h1 | h1 | h1
  · have := h.get hi hj h1
    rw [cmpB_self] at this
    omega
  · exact h1
  · have := h.get hj hi h1
    rw [cmpB_self] at this
    omega

/-- the keys with their numbers -/
def prs (L : List ByteArray) (N : List Int) : List (List UInt8 × Int) := List.zipWith (fun s n => (keyOf s, n)) L N
theorem prs_keys : ∀ {L : List ByteArray} {N : List Int}, N.length = L.length → (prs L N).map (·.1) = L.map keyOf
  | [], [], _ => rfl
  | s :: L, n :: N, h => by
    have := prs_keys (L := L) (N := N) (by simpa using h)
    simp only [prs, List.zipWith_cons_cons, List.map_cons] at this ⊢
    rw [this]
theorem prs_len {L : List ByteArray} {N : List Int} (h : N.length = L.length) : (prs L N).length = L.length := by
  simp [prs, h]
theorem prs_append {L M : List ByteArray} {N O : List Int} (h : L.length = N.length) : prs (L ++ M) (N ++ O) = prs L N ++ prs M O := List.zipWith_append h
theorem prs_split {L : List ByteArray} {N : List Int} {p : Nat} {s : ByteArray} {o : Int} (hl : N.length = L.length) (hs : L[p]? = some s) (ho : N[p]? = some o) : prs L N = prs (L.take p) (N.take p) ++ (keyOf s, o) :: prs (L.drop (p + 1)) (N.drop (p + 1)) := by
  obtain ⟨h1, rfl⟩ := List.getElem?_eq_some_iff.1 hs
  obtain ⟨h2, rfl⟩ := List.getElem?_eq_some_iff.1 ho
  conv => lhs; rw [← List.take_append_drop p L, ← List.take_append_drop p N, List.drop_eq_getElem_cons h1, List.drop_eq_getElem_cons h2]
  rw [prs_append (by simp; omega)]
  rfl
theorem prs_ins {L : List ByteArray} {N : List Int} {p : Nat} (s : ByteArray) (v : Int) (hl : N.length = L.length) : List.Perm (prs (insAt L p s) (insAt N p v)) ((keyOf s, v) :: prs L N) := by
  have h1 : prs (insAt L p s) (insAt N p v) = prs (L.take p) (N.take p) ++ (keyOf s, v) :: prs (L.drop p) (N.drop p) := by
    unfold insAt
    rw [prs_append (by simp; omega)]
    rfl
  have h2 : prs L N = prs (L.take p) (N.take p) ++ prs (L.drop p) (N.drop p) := by
    rw [← prs_append (by simp; omega), List.take_append_drop, List.take_append_drop]
  rw [h1, h2]
  exact List.perm_middle
theorem prs_set {L : List ByteArray} {N : List Int} {p : Nat} {s : ByteArray} {o : Int} (v : Int) (hl : N.length = L.length) (hs : L[p]? = some s) (ho : N[p]? = some o) : ∃ R, List.Perm (prs L N) ((keyOf s, o) :: R) ∧ List.Perm (prs L (N.set p v)) ((keyOf s, v) :: R) ∧ List.Perm (prs (L.eraseIdx p) (N.eraseIdx p)) R := by
  have hp : p < N.length := (List.getElem?_eq_some_iff.1 ho).1
  refine ⟨prs (L.take p) (N.take p) ++ prs (L.drop (p + 1)) (N.drop (p + 1)), ?_, ?_, ?_⟩
  · rw [prs_split hl hs ho]; exact List.perm_middle
  · have h2 : (N.set p v)[p]? = some v := List.getElem?_set_self hp
    rw [prs_split (by rw [List.length_set]; exact hl) hs h2, List.take_set_of_le (Nat.le_refl _), List.drop_set_of_lt (by omega)]
    exact List.perm_middle
  · rw [List.eraseIdx_eq_take_drop_succ, List.eraseIdx_eq_take_drop_succ, prs_append (by simp; omega)]
theorem prs_mem {L : List ByteArray} {N : List Int} (hl : N.length = L.length) {k : List UInt8} {v : Int} : (k, v) ∈ prs L N ↔ ∃ (i : Nat) (s : ByteArray), L[i]? = some s ∧ keyOf s = k ∧ N[i]? = some v := by
  constructor
  · intro h
    obtain ⟨i, hi, e⟩ := List.getElem_of_mem h
    have h1 : i < L.length := by rw [prs_len hl] at hi; exact hi
    have h2 : i < N.length := by omega
    have h3 : (prs L N)[i] = (keyOf L[i], N[i]) := by simp [prs]
    rw [h3] at e
    injection e with e1 e2
    exact ⟨i, L[i], List.getElem?_eq_getElem h1, e1, by rw [List.getElem?_eq_getElem h2, e2]⟩
  · rintro ⟨i, s, h1, rfl, h2⟩
    rw [prs_split hl h1 h2]
    exact List.mem_append_right _ (List.mem_cons_self ..)
/-- the index and the document's list hold the same -/
structure Agree (E : List (List UInt8 × Int)) (L : List ByteArray) (N : List Int) : Prop where
  perm : List.Perm E (prs L N)
  len : N.length = L.length
  rises : Rises L
theorem Agree.mem {E : List (List UInt8 × Int)} {L : List ByteArray} {N : List Int} (h : Agree E L N) {s : ByteArray} {v : Int} : (keyOf s, v) ∈ E ↔ ∃ i : Nat, L[i]? = some s ∧ N[i]? = some v := by
  rw [h.perm.mem_iff, prs_mem h.len]
  constructor
  · rintro ⟨i, t, h1, h2, h3⟩
    rw [keyOf_inj.1 h2] at h1
    exact ⟨i, h1, h3⟩
  · rintro ⟨i, h1, h3⟩
    exact ⟨i, s, h1, rfl, h3⟩
theorem Agree.one {E : List (List UInt8 × Int)} {L : List ByteArray} {N : List Int} (h : Agree E L N) {s : ByteArray} {v : Int} {p : Nat} {o : Int} (hv : (keyOf s, v) ∈ E) (hs : L[p]? = some s) (ho : N[p]? = some o) : v = o := by
  obtain ⟨i, h1, h2⟩ := h.mem.1 hv
  obtain rfl := h.rises.nodup h1 hs
  rw [ho] at h2
  injection h2 with h2
  exact h2.symm
theorem Agree.none {E : List (List UInt8 × Int)} {L : List ByteArray} {N : List Int} (h : Agree E L N) {s : ByteArray} (hs : s ∉ L) (v : Int) : (keyOf s, v) ∉ E := fun hv => by
  obtain ⟨i, h1, _⟩ := h.mem.1 hv
  exact hs (List.mem_of_getElem? h1)
theorem Agree.eLen {E : List (List UInt8 × Int)} {L : List ByteArray} {N : List Int} (h : Agree E L N) : E.length = L.length := by
  rw [h.perm.length_eq, prs_len h.len]
end Go.Proofs.Ytlpbkhdpfmknkaa
