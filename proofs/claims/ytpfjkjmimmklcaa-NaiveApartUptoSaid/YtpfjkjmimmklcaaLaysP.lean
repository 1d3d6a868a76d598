/-
  What is laid so far, kept as two lists: the variables and the terms.
-/
import Derived.Test.YtpfjkjmimmklcaaInts
namespace Go.Proofs.Ytpfjkjmimmklcaa
open Go.RowKit

/-- the first place of the variable tells its term -/
def lk : List ByteArray → List Tm → Env
  | x :: xs, y :: ys => fun z => if z = x then some y else lk xs ys z
  | _, _ => envNone
theorem lk_none : ∀ (xs : List ByteArray) (ys : List Tm) (z : ByteArray), z ∉ xs → lk xs ys z = none
  | [], _, _, _ => rfl
  | _ :: _, [], _, _ => rfl
  | x :: xs, y :: ys, z, h => by
    simp only [List.mem_cons, not_or] at h
    simp only [lk, h.1, if_false]
    exact lk_none xs ys z h.2
theorem lk_some : ∀ (xs : List ByteArray) (ys : List Tm) (k : Nat) (x : ByteArray), xs.length = ys.length → xs[k]? = some x → (∀ (j : Nat) (y : ByteArray), j < k → xs[j]? = some y → y ≠ x) → lk xs ys x = ys[k]?
  | [], _, k, x, _, h, _ => by simp at h
  | _ :: _, [], _, _, hl, _, _ => by simp at hl
  | x' :: xs, y :: ys, 0, x, _, h, _ => by
    obtain rfl : x' = x := by simpa using h
    simp [lk]
  | x' :: xs, y :: ys, k + 1, x, hl, h, hn => by
    have h0 := hn 0 x' (by omega) rfl
    have hx : ¬ x = x' := fun e => h0 e.symm
    simp only [lk, hx, if_false, List.getElem?_cons_succ]
    exact lk_some xs ys k x (by simpa using hl) (by simpa using h) (fun j y hj hy => hn (j + 1) y (by omega) (by simpa using hy))
theorem lk_first {xs : List ByteArray} {ys : List Tm} (hl : xs.length = ys.length) (x : ByteArray) (h : 0 ≤ firstI (eqB x) xs 0) : ∃ (k : Nat) (y : Tm), firstI (eqB x) xs 0 = (k : Int) ∧ ys[k]? = some y ∧ lk xs ys x = some y := by
  obtain ⟨k, x', h1, h2, h3, h4⟩ := firstI_some (eqB x) xs 0 h
  have hx' : x' = x := by simpa [eqB] using h3
  subst hx'
  have hk : k < ys.length := by have := (List.getElem?_eq_some_iff.1 h2).1; omega
  refine ⟨k, ys[k], by rw [h1]; simp, List.getElem?_eq_getElem hk, ?_⟩
  rw [lk_some xs ys k x' hl h2 (fun j y hj hy => by have := h4 j y hj hy; simpa [eqB] using this)]
  exact List.getElem?_eq_getElem hk
theorem lk_first_neg {xs : List ByteArray} {ys : List Tm} (x : ByteArray) (h : firstI (eqB x) xs 0 < 0) : lk xs ys x = none := by
  refine lk_none xs ys x (fun hm => ?_)
  have h2 := (firstI_neg (eqB x) xs 0).1 h
  rw [List.any_eq_false] at h2
  exact h2 x hm (by simp [eqB])
theorem lk_snoc : ∀ (xs : List ByteArray) (ys : List Tm) (x : ByteArray) (y : Tm), xs.length = ys.length → lk xs ys x = none → lk (xs ++ [x]) (ys ++ [y]) = (lk xs ys).put x y
  | [], [], x, y, _, _ => by
    funext z
    simp [lk, Env.put]
  | [], _ :: _, _, _, hl, _ => by simp at hl
  | _ :: _, [], _, _, hl, _ => by simp at hl
  | x' :: xs, y' :: ys, x, y, hl, hn => by
    have hx : ¬ x = x' := fun e => by simp [lk, e] at hn
    have hn' : lk xs ys x = none := by simpa [lk, hx] using hn
    have ih := lk_snoc xs ys x y (by simpa using hl) hn'
    funext z
    simp only [List.cons_append, lk, ih, Env.put]
    by_cases h1 : z = x'
    · subst h1
      have h2 : ¬ z = x := fun e => hx e.symm
      simp [h2]
    · simp [h1]

def hdTm (y : ByteArray) : Tm := ⟨y, ⟨0, 0, .empty⟩⟩
theorem env0_lk : ∀ (xs ys : List ByteArray) (σ : Env) (z : ByteArray), xs.Nodup → env0 xs ys σ z = (lk xs (ys.map hdTm) z).or (σ z)
  | [], _, σ, z, _ => by simp [env0, lk, envNone]
  | _ :: _, [], σ, z, _ => by simp [env0, lk, envNone]
  | x :: xs, y :: ys, σ, z, hd => by
    obtain ⟨h1, h2⟩ := List.nodup_cons.1 hd
    have ih := env0_lk xs ys (σ.put x ⟨y, ⟨0, 0, .empty⟩⟩) z h2
    simp only [env0, ih, lk, List.map_cons]
    by_cases h : z = x
    · subst h
      rw [lk_none xs _ z h1]
      simp [Env.put, hdTm]
    · simp [h, Env.put]
theorem dblB_nodup {l : List ByteArray} (h : dblB l = false) : l.Nodup := by
  have h1 : dblI l 0 l < 0 := by simpa [dblB] using h
  have h2 := (dblI_neg l l 0 rfl).1 h1
  refine List.pairwise_iff_getElem.2 (fun i j hi hj hij e => ?_)
  have h3 := h2 j l[j] (Nat.zero_le _) (List.getElem?_eq_getElem hj)
  have h4 : memB (l.take j) l[j] = true := by
    rw [memB_iff, ← e]
    exact List.mem_iff_getElem.2 ⟨i, by simp; omega, by simp⟩
  rw [h3] at h4
  cases h4
theorem env0_heads {xs ys : List ByteArray} (hd : dblB xs = false) : env0 xs ys envNone = lk xs (ys.map hdTm) := by
  funext z
  rw [env0_lk xs ys envNone z (dblB_nodup hd)]
  simp [envNone]
/-- one image more -/
theorem envIm_drop {as_ tl : List Atm} {im : List Nat} {i : Nat} {σ : Env} {a b : Atm} {j : Nat} (hj : im[i]? = some j) (ha : as_[i]? = some a) (hb : tl[j]? = some b) :
    envIm as_ tl (im.drop i) i σ = if (uponP σ a b).2.2 then envIm as_ tl (im.drop (i + 1)) (i + 1) (uponP σ a b).1 else none := by
  obtain ⟨h1, e1⟩ := List.getElem?_eq_some_iff.1 hj
  rw [List.drop_eq_getElem_cons h1, e1]
  simp only [envIm, ha, hb]
theorem envIm_end {as_ tl : List Atm} {im : List Nat} {i : Nat} {σ : Env} (h : im.length ≤ i) : envIm as_ tl (im.drop i) i σ = some σ := by
  rw [List.drop_of_length_le h]; rfl
end Go.Proofs.Ytpfjkjmimmklcaa
