/-
  The document's step from atom to atom, as plain data: a valuation stands with zeros behind what is seen.
-/
import Derived.Test.YtpfjkjmimmklcaaNaiR
import Derived.Test.YtpfjkjmimmklcaaNaiNV
namespace Go.Proofs.Ytpfjkjmimmklcaa
open Go.RowKit

def fullV (N : Nat) (val : List V) : List V := val ++ List.replicate (N - val.length) zeroV
theorem fullV_len {N : Nat} {val : List V} (h : val.length ≤ N) : (fullV N val).length = N := by simp [fullV]; omega
/-- the values laid one by one, as the document does it: what was seen ahead is compared -/
def joinR (seen : Nat) : List V → List Nat → List V → Bool → List V × Bool
  | vals, k :: ks, m :: ms, ok => joinR seen (vals.set k m) ks ms (if k < seen then ok && getB vals k m else ok)
  | vals, _, _, ok => (vals, ok)
theorem joinR_no (seen : Nat) : ∀ (ks : List Nat) (ms vals : List V), (joinR seen vals ks ms false).2 = false
  | [], _, _ => by simp [joinR]
  | _ :: _, [], _ => by simp [joinR]
  | k :: ks, m :: ms, vals => by
    unfold joinR
    simp only [Bool.false_and, ite_self]
    exact joinR_no seen ks ms _
theorem getB_app {val ext : List V} {k : Nat} (h : k < val.length) (m : V) : getB (val ++ ext) k m = getB val k m := by
  unfold getB
  rw [List.getElem?_append_left h]
theorem joinR_eq (seen N s' : Nat) (hN : s' ≤ N) : ∀ (ks : List Nat) (ms val : List V) (s : Nat) (ok : Bool), NumFit s ks s' → ks.Nodup → (∀ k ∈ ks, seen ≤ k → s ≤ k) → seen ≤ s → val.length = s → ks.length = ms.length →
    (joinR seen (fullV N val) ks ms ok).2 = (ok && (joinP val ks ms).isSome) ∧ ∀ v', joinP val ks ms = some v' → (joinR seen (fullV N val) ks ms ok).1 = fullV N v' ∧ v'.length = s'
  | [], [], val, s, ok, hf, _, _, _, hl, _ => by
    have hf : s = s' := hf
    refine ⟨by simp [joinR, joinP], fun v' hv => ?_⟩
    simp only [joinP, Option.some.injEq] at hv
    subst hv
    exact ⟨rfl, by omega⟩
  | [], _ :: _, _, _, _, _, _, _, _, _, h => by simp at h
  | _ :: _, [], _, _, _, _, _, _, _, _, h => by simp at h
  | k :: ks, m :: ms, val, s, ok, hf, hnd, hgap, hse, hl, hlen => by
    rw [List.nodup_cons] at hnd
    have hlen' : ks.length = ms.length := by simpa using hlen
    unfold joinR joinP
    rcases hf with ⟨h1, h2⟩ | ⟨h1, h2⟩
    · have hks : k < seen := by
        rcases Nat.lt_or_ge k seen with h | h
        · exact h
        · have := hgap k (by simp) h; omega
      rw [if_pos hks, if_pos (by omega : k < val.length)]
      have hg : getB (fullV N val) k m = getB val k m := getB_app (by omega) m
      rw [hg]
      cases hb : getB val k m with
      | true =>
        have hv : val[k]? = some m := getB_iff.1 hb
        have hset : (fullV N val).set k m = fullV N val := by
          apply List.ext_getElem?
          intro p
          rw [List.getElem?_set]
          by_cases hp : k = p
          · subst hp
            have hlt : k < (fullV N val).length := by simp [fullV]; omega
            rw [if_pos rfl, if_pos hlt]
            unfold fullV
            rw [List.getElem?_append_left (by omega), hv]
          · rw [if_neg hp]
        rw [hset]
        simp only [Bool.and_true, if_true]
        exact joinR_eq seen N s' hN ks ms val s ok h2 hnd.2 (fun k' hk' => hgap k' (by simp [hk'])) hse hl hlen'
      | false =>
        simp only [Bool.and_false, Bool.false_eq_true, if_false, Option.isSome_none]
        exact ⟨joinR_no seen ks ms _, fun v' hv => by cases hv⟩
    · subst h1
      rw [if_neg (by omega), if_neg (by omega)]
      have hle := h2.le
      have hset : (fullV N val).set k m = fullV N (val ++ [m]) := by
        unfold fullV
        rw [List.set_append_right _ _ (by omega), hl, Nat.sub_self, show N - k = (N - (k + 1)) + 1 by omega, List.replicate_succ, List.set_cons_zero, List.length_append, List.length_singleton, hl]
        simp
      rw [hset]
      refine joinR_eq seen N s' hN ks ms (val ++ [m]) (k + 1) ok h2 hnd.2 (fun k' hk' h => ?_) (by omega) (by simp [hl]) hlen'
      have h3 := hgap k' (by simp [hk']) h
      have h4 : k' ≠ k := fun e => hnd.1 (e ▸ hk')
      omega
/-- one atom more, the document's way -/
def oneR (l : Lv) (seen : Nat) (vals : List V) (r : List V) : Option (List V) := (matchA l.a r).bind fun m => if (joinR seen vals l.ks m true).2 then some (joinR seen vals l.ks m true).1 else none
theorem oneR_eq {l : Lv} {seen s' N : Nat} {val r : List V} (hN : s' ≤ N) (hf : NumFit seen l.ks s') (hnd : l.ks.Nodup) (hl : val.length = seen) (hk : l.ks.length = (varsA l.a).length) : oneR l seen (fullV N val) r = (l.one val r).map (fullV N) := by
  unfold oneR Lv.one
  cases hm : matchA l.a r with
  | none => rfl
  | some m =>
    have hml : m.length = (varsA l.a).length := by
      obtain ⟨τ, -, rfl⟩ := matchA_iff.1 hm
      simp
    obtain ⟨h1, h2⟩ := joinR_eq seen N s' hN l.ks m val seen true hf hnd (fun _ _ h => h) (Nat.le_refl _) hl (by omega)
    simp only [Option.bind_some, h1, Bool.true_and]
    cases hj : joinP val l.ks m with
    | none => simp
    | some v' => simp [(h2 v' hj).1]

/-- how many variables were seen: one name more -/
theorem seen_next {all xs vs rest : List ByteArray} (hall : all = xs.foldl addV vs ++ rest) {k : Nat} {x : ByteArray} (hx : xs[k]? = some x) :
    (atN all x < ((xs.take k).foldl addV vs).length ∧ (xs.take (k + 1)).foldl addV vs = (xs.take k).foldl addV vs) ∨ (atN all x = ((xs.take k).foldl addV vs).length ∧ ((xs.take (k + 1)).foldl addV vs).length = ((xs.take k).foldl addV vs).length + 1) := by
  have e1 : (xs.take (k + 1)).foldl addV vs = addV ((xs.take k).foldl addV vs) x := by rw [take_next xs k x hx, List.foldl_append]; rfl
  obtain ⟨r, hr⟩ := fold_pre (xs.drop (k + 1)) ((xs.take (k + 1)).foldl addV vs)
  have e2 : xs.foldl addV vs = (xs.take (k + 1)).foldl addV vs ++ r := by rw [← hr, ← List.foldl_append, List.take_append_drop]
  rw [e2, e1, List.append_assoc] at hall
  rw [e1]
  generalize (xs.take k).foldl addV vs = cur at *
  by_cases hm : x ∈ cur
  · have e3 : addV cur x = cur := by simp [addV, memB_iff.2 hm]
    rw [e3] at hall ⊢
    rw [hall]
    exact .inl ⟨(at_pre (r ++ rest) hm).1 ▸ (at_pre (r ++ rest) hm).2, rfl⟩
  · have hmm : memB cur x = false := by rw [← Bool.not_eq_true, memB_iff]; exact hm
    have e3 : addV cur x = cur ++ [x] := by simp [addV, hmm]
    rw [e3] at hall ⊢
    rw [hall, List.append_assoc, List.singleton_append]
    exact .inr ⟨at_new _ hm, by simp⟩
/-- the parts of one atom more, of whole valuations -/
def stepR (l : Lv) (seen : Nat) (parts : List (List V)) : List (List V) := parts.flatMap fun vals => l.rows.filterMap (oneR l seen vals)
theorem stepR_len (l : Lv) (seen : Nat) (parts : List (List V)) : (stepR l seen parts).length ≤ parts.length * l.rows.length := by
  unfold stepR
  induction parts with
  | nil => simp
  | cons p parts ih =>
    rw [List.flatMap_cons, List.length_append, List.length_cons, Nat.add_mul, Nat.one_mul]
    have := List.length_filterMap_le (oneR l seen p) l.rows
    omega
theorem stepR_eq {l : Lv} {seen s' N : Nat} (hN : s' ≤ N) (hf : NumFit seen l.ks s') (hnd : l.ks.Nodup) (hk : l.ks.length = (varsA l.a).length) : ∀ parts : List (List V), (∀ p ∈ parts, p.length = seen) → stepR l seen (parts.map (fullV N)) = (parts.flatMap l.step).map (fullV N)
  | [], _ => rfl
  | p :: parts, h => by
    have ih := stepR_eq hN hf hnd hk parts (fun x hx => h x (by simp [hx]))
    unfold stepR at ih ⊢
    rw [List.map_cons, List.flatMap_cons, ih, List.flatMap_cons, List.map_append]
    congr 1
    unfold Lv.step
    rw [List.map_filterMap]
    congr 1
    funext r
    exact oneR_eq hN hf hnd (h p (by simp)) hk
end Go.Proofs.Ytpfjkjmimmklcaa
