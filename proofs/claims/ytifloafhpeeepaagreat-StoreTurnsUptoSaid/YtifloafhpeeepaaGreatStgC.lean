/-
  The groups of a grouping are the rows: plain.
-/
import Derived.Test.YtifloafhpeeepaaGreatStgB
import Derived.Test.YtifloafhpeeepaaGreatRowsB
import Derived.Test.YtifloafhpeeepaaGreatGaO
namespace Go.Proofs.YtifloafhpeeepaaGreat
open Go.RowKit

theorem sum_one {k : List V} : ∀ {K : List (List V)}, K.Nodup → k ∈ K → (K.map fun q => if sameR k q then 1 else 0).sum = 1
  | [], _, h => by cases h
  | q :: K, hn, h => by
    rw [List.nodup_cons] at hn
    simp only [List.map_cons, List.sum_cons]
    by_cases e : k = q
    · subst e
      have : (K.map fun q => if sameR k q then 1 else 0).sum = 0 := by
        rw [show (K.map fun q => if sameR k q then 1 else 0) = K.map fun _ => 0 from List.map_congr_left fun q hq => if_neg fun e => hn.1 (by rw [sameR_iff.1 e]; exact hq)]
        clear hn h
        induction K with
        | nil => rfl
        | cons a l ih => simpa using ih
      rw [this, if_pos (sameR_iff.2 rfl)]
    · rw [if_neg (fun h => e (sameR_iff.1 h)), sum_one hn.2 (by rcases List.mem_cons.1 h with h | h; exact absurd h e; exact h)]
theorem sum_add {α : Type} (f g : α → Nat) : ∀ l : List α, (l.map fun x => f x + g x).sum = (l.map f).sum + (l.map g).sum
  | [] => rfl
  | a :: l => by simp only [List.map_cons, List.sum_cons, sum_add f g l]; omega
/-- the groups' lengths are the rows' number -/
theorem sum_grp {f : List V → List V} {K : List (List V)} (hn : K.Nodup) : ∀ R : List (List V), (∀ r ∈ R, f r ∈ K) → (K.map fun k => (R.filter fun r => sameR (f r) k).length).sum = R.length
  | [], _ => by
    simp only [List.filter_nil, List.length_nil]
    clear hn
    induction K with
    | nil => rfl
    | cons a l ih => simpa using ih
  | r :: R, h => by
    have ih := sum_grp hn R fun x hx => h x (List.mem_cons_of_mem _ hx)
    have h1 := sum_one hn (h r (List.mem_cons_self ..))
    have h2 : (K.map fun k => ((r :: R).filter fun r => sameR (f r) k).length) = K.map fun k => (R.filter fun r => sameR (f r) k).length + (if sameR (f r) k then 1 else 0) := List.map_congr_left fun k _ => by
      rw [List.filter_cons]
      cases sameR (f r) k <;> simp
    rw [h2, sum_add, ih, h1]; rfl
/-- where a row stands, if all are unlike -/
theorem plcR_at {r : List V} : ∀ {xs : List (List V)} {i : Nat} (k : Nat), xs.Nodup → xs[i]? = some r → plcR r xs k = ((k + i : Nat) : Int)
  | [], i, k, _, h => by simp at h
  | s :: l, 0, k, hn, h => by
    obtain rfl : s = r := by simpa using h
    unfold plcR
    rw [if_pos (sameR_iff.2 rfl)]; rfl
  | s :: l, i + 1, k, hn, h => by
    rw [List.nodup_cons] at hn
    have h' : l[i]? = some r := by simpa using h
    unfold plcR
    have hne : ¬ sameR s r = true := fun hs => hn.1 (by rw [sameR_iff.1 hs]; exact List.mem_of_getElem? h')
    rw [if_neg hne, plcR_at (k + 1) hn.2 h', show k + 1 + i = k + (i + 1) by omega]
theorem plc_pair {R : List (List V)} (hn : R.Nodup) : R.Pairwise fun a b => plcR a R 0 < plcR b R 0 := by
  rw [List.pairwise_iff_getElem]
  intro i j hi hj hij
  rw [plcR_at 0 hn (List.getElem?_eq_getElem hi), plcR_at 0 hn (List.getElem?_eq_getElem hj)]; omega
theorem plc_next {R : List (List V)} (hn : R.Nodup) {p : List V → Bool} {j : Nat} {a b : List V} (ha : (R.filter p)[j]? = some a) (hb : (R.filter p)[j + 1]? = some b) : plcR a R 0 < plcR b R 0 := by
  have h := (plc_pair hn).filter p
  rw [List.pairwise_iff_getElem] at h
  obtain ⟨h1, e1⟩ := List.getElem?_eq_some_iff.1 ha
  obtain ⟨h2, e2⟩ := List.getElem?_eq_some_iff.1 hb
  have := h j (j + 1) h1 h2 (by omega)
  rwa [e1, e2] at this
theorem keys_lt {S : SAbs} {g : List Nat} {K : List (List V)} (h : KeysOk S g K) {i : Nat} {a b : List V} (ha : K[i]? = some a) (hb : K[i + 1]? = some b) : cmpR a b < 0 := by
  have h1 := h.le
  have h2 := h.nd
  unfold List.Nodup at h2
  rw [List.pairwise_iff_getElem] at h1 h2
  obtain ⟨k1, e1⟩ := List.getElem?_eq_some_iff.1 ha
  obtain ⟨k2, e2⟩ := List.getElem?_eq_some_iff.1 hb
  have h3 := h1 i (i + 1) k1 k2 (by omega)
  have h4 := h2 i (i + 1) k1 k2 (by omega)
  rw [e1, e2] at h3 h4
  have h5 : cmpR a b ≠ 0 := fun e => h4 ((isCmp_row.eq a b).1 e)
  omega
/-- a group -/
theorem grp_eq {S : SAbs} {g : List Nat} (hg : S.gs = [g]) (key : List V) : grpS S 0 key = S.rows.filter fun r => sameR (keyR g r) key := by
  unfold grpS
  rw [hg]; rfl
theorem nodup_at {l : List (List V)} (h : l.Nodup) {i j : Nat} {a : List V} (h1 : l[i]? = some a) (h2 : l[j]? = some a) : i = j := by
  obtain ⟨k1, e1⟩ := List.getElem?_eq_some_iff.1 h1
  obtain ⟨k2, e2⟩ := List.getElem?_eq_some_iff.1 h2
  unfold List.Nodup at h
  rw [List.pairwise_iff_getElem] at h
  rcases Nat.lt_trichotomy i j with h3 | h3 | h3
  · exact absurd (e1.trans e2.symm) (h i j k1 k2 h3)
  · exact h3
  · exact absurd (e2.trans e1.symm) (h j i k2 k1 h3)
end Go.Proofs.YtifloafhpeeepaaGreat
