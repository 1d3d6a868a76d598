/-
  The document's Match: plain law.
-/
import Derived.Test.YtpfjkjmimmklcaaNaiS
namespace Go.Proofs.Ytpfjkjmimmklcaa
open Go.RowKit

def okM (ts : List Tm) (r : List V) (i : Nat) : Prop := ∀ t y, ts[i]? = some t → r[i]? = some y → (noVar t = true → t.c = y) ∧ (noVar t = false → ∀ j u z, j < i → ts[j]? = some u → r[j]? = some z → t.v = u.v → y = z)
/-- the value at the first term of that name -/
def lookV : List Tm → List V → ByteArray → V
  | t :: ts, y :: r, x => if noVar t = false ∧ t.v = x then y else lookV ts r x
  | _, _, _ => zeroV
theorem lookV_first (x : ByteArray) : ∀ (ts : List Tm) (r : List V) (i : Nat) (t : Tm), ts.length = r.length → ts[i]? = some t → noVar t = false → t.v = x → ∃ j u, j ≤ i ∧ ts[j]? = some u ∧ noVar u = false ∧ u.v = x ∧ r[j]? = some (lookV ts r x)
  | [], _, _, _, _, h, _, _ => by simp at h
  | _ :: _, [], _, _, hl, _, _, _ => by simp at hl
  | t0 :: ts, y0 :: r, i, t, hl, h, hn, hv => by
    unfold lookV
    by_cases h0 : noVar t0 = false ∧ t0.v = x
    · rw [if_pos h0]
      exact ⟨0, t0, Nat.zero_le _, rfl, h0.1, h0.2, rfl⟩
    · rw [if_neg h0]
      cases i with
      | zero =>
        obtain rfl : t0 = t := by simpa using h
        exact absurd ⟨hn, hv⟩ h0
      | succ i =>
        obtain ⟨j, u, h1, h2, h3, h4, h5⟩ := lookV_first x ts r i t (by simpa using hl) (by simpa using h) hn hv
        exact ⟨j + 1, u, by omega, by simpa using h2, h3, h4, by simpa using h5⟩
theorem match_ok {ts : List Tm} {r : List V} (hl : ts.length = r.length) (h : ∀ i, i < ts.length → okM ts r i) : r = ts.map (valT (lookV ts r)) := by
  apply List.ext_getElem?
  intro i
  rw [List.getElem?_map]
  cases ht : ts[i]? with
  | none =>
    have := List.getElem?_eq_none_iff.1 ht
    rw [List.getElem?_eq_none_iff.2 (by omega)]; rfl
  | some t =>
    obtain ⟨hi, _⟩ := List.getElem?_eq_some_iff.1 ht
    have hr : r[i]? = some r[i] := List.getElem?_eq_getElem (by omega)
    rw [hr]
    simp only [Option.map_some, Option.some.injEq]
    obtain ⟨h1, h2⟩ := h i hi t _ ht hr
    cases hn : noVar t with
    | true => simp [valT, hn, h1 hn]
    | false =>
      obtain ⟨j, u, g1, g2, g3, g4, g5⟩ := lookV_first t.v ts r i t hl ht hn rfl
      simp only [valT, hn, Bool.false_eq_true, if_false]
      rcases Nat.lt_or_eq_of_le g1 with g1 | g1
      · exact h2 hn j u _ g1 g2 g5 g4.symm
      · subst g1
        rw [hr] at g5
        exact Option.some.inj g5
theorem matchA_ok {a : Atm} {r : List V} (hl : a.terms.length = r.length) (h : ∀ i, i < a.terms.length → okM a.terms r i) : matchA a r = some ((varsA a).map (lookV a.terms r)) :=
  matchA_iff.2 ⟨lookV a.terms r, match_ok hl h, rfl⟩
theorem matchA_bad {a : Atm} {r : List V} {i : Nat} (h : ¬ okM a.terms r i) : matchA a r = none := by
  cases hm : matchA a r with
  | none => rfl
  | some m =>
    exfalso; apply h
    obtain ⟨τ, h1, -⟩ := matchA_iff.1 hm
    intro t y ht hy
    have e : ∀ (j : Nat) (u : Tm) (z : V), a.terms[j]? = some u → r[j]? = some z → z = valT τ u := fun j u z hu hz => by
      rw [h1, List.getElem?_map, hu] at hz
      exact (Option.some.inj hz).symm
    have hy' := e i t y ht hy
    refine ⟨fun hn => ?_, fun hn j u z _ hu hz hv => ?_⟩
    · rw [hy']; simp [valT, hn]
    · have hn2 : noVar u = false := by
        have : noVar u = noVar t := by unfold noVar; rw [hv]
        rw [this, hn]
      rw [hy', e j u z hu hz]
      simp [valT, hn, hn2, hv]
theorem matchA_diff {a : Atm} {r : List V} (h : a.terms.length ≠ r.length) : matchA a r = none := by
  unfold matchA
  rw [if_neg (fun e => h e.symm)]

/-- what has been laid of the values, from the last term on down to i -/
def outD (vars : List ByteArray) (ts : List Tm) (r : List V) (i : Nat) : List V := vars.map (lookV (ts.drop i) (r.drop i))
theorem outD_len (vars : List ByteArray) (ts : List Tm) (r : List V) (i : Nat) : (outD vars ts r i).length = vars.length := by simp [outD]
theorem outD_end {vars : List ByteArray} {ts : List Tm} {r : List V} {i : Nat} (h : ts.length ≤ i) : outD vars ts r i = List.replicate vars.length zeroV := by
  unfold outD
  rw [List.drop_of_length_le h]
  have : lookV [] (r.drop i) = fun _ => zeroV := by funext x; cases r.drop i <;> rfl
  rw [this, List.map_const']
theorem outD_const {vars : List ByteArray} {ts : List Tm} {r : List V} {i : Nat} {t : Tm} {y : V} (ht : ts[i]? = some t) (hy : r[i]? = some y) (hn : noVar t = true) : outD vars ts r i = outD vars ts r (i + 1) := by
  obtain ⟨hi, rfl⟩ := List.getElem?_eq_some_iff.1 ht
  obtain ⟨hj, rfl⟩ := List.getElem?_eq_some_iff.1 hy
  unfold outD
  rw [List.drop_eq_getElem_cons hi, List.drop_eq_getElem_cons hj]
  refine List.map_congr_left fun x _ => ?_
  rw [lookV, if_neg (by simp [hn])]
theorem outD_var {vars : List ByteArray} {ts : List Tm} {r : List V} {i : Nat} {t : Tm} {y : V} (hnd : vars.Nodup) (hm : t.v ∈ vars) (ht : ts[i]? = some t) (hy : r[i]? = some y) (hn : noVar t = false) : outD vars ts r i = (outD vars ts r (i + 1)).set (atN vars t.v) y := by
  obtain ⟨hi, rfl⟩ := List.getElem?_eq_some_iff.1 ht
  obtain ⟨hj, rfl⟩ := List.getElem?_eq_some_iff.1 hy
  have hk := atN_get hm
  obtain ⟨hlt, hke⟩ := List.getElem?_eq_some_iff.1 hk
  unfold outD
  rw [List.drop_eq_getElem_cons hi, List.drop_eq_getElem_cons hj]
  apply List.ext_getElem?
  intro p
  rw [List.getElem?_set, List.getElem?_map, List.getElem?_map]
  by_cases hp : atN vars ts[i].v = p
  · subst hp
    rw [if_pos rfl, if_pos (by simpa using hlt), hk]
    simp only [Option.map_some]
    rw [lookV, if_pos ⟨hn, rfl⟩]
  · rw [if_neg hp]
    cases hx : vars[p]? with
    | none => rfl
    | some x =>
      simp only [Option.map_some]
      rw [lookV, if_neg]
      rintro ⟨-, e⟩
      obtain ⟨hpl, hpe⟩ := List.getElem?_eq_some_iff.1 hx
      exact hp ((List.getElem_inj hnd).1 (by rw [hke, hpe, e]))
theorem outD_zero (vars : List ByteArray) (ts : List Tm) (r : List V) : outD vars ts r 0 = vars.map (lookV ts r) := rfl
theorem cellsR_set : ∀ (l : List V) (k : Nat) (y : V), (((cellsR l).set (k * 3) (.int .i64 y.k)).set (k * 3 + 1) (.int .i64 y.i)).set (k * 3 + 2) (.string y.t) = if k < l.length then cellsR (l.set k y) else cellsR l
  | [], k, y => by simp [cellsR]
  | x :: l, 0, y => by simp [cellsR, V.cells]
  | x :: l, k + 1, y => by
    have h := cellsR_set l k y
    have e1 : (k + 1) * 3 = k * 3 + 3 := by omega
    simp only [cellsR, V.cells, List.cons_append, List.nil_append, e1, List.set_cons_succ, List.length_cons, Nat.succ_lt_succ_iff]
    rw [h]
    split <;> rfl
theorem varsA_nodup (a : Atm) : (varsA a).Nodup := addTs_nodup _ .nil
theorem mem_varsA {a : Atm} {t : Tm} (h : t ∈ a.terms) (hn : noVar t = false) : t.v ∈ varsA a := (mem_addTs _ _ _).2 (.inr ⟨t, h, hn, rfl⟩)
end Go.Proofs.Ytpfjkjmimmklcaa
