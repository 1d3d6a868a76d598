/-
  ContainShows: the plain law: over a frozen query its own frozen head is an answer, and it is one of another query just if that one lies upon it.
-/
import Derived.Test.YtpfjkjmimmklcaaNaiHold
import Derived.Test.YtpfjkjmimmklcaaNaiZ
import Derived.Test.YtpfjkjmimmklcaaHomG
namespace Go.Proofs.Ytpfjkjmimmklcaa
open Go.RowKit

theorem hasR_iff' {rs : List (List V)} {r : List V} : hasR rs r = true ↔ r ∈ rs := by
  unfold hasR
  rw [List.any_eq_true]
  constructor
  · rintro ⟨x, hx, h⟩
    rw [sameR_iff] at h
    exact h ▸ hx
  · intro h
    exact ⟨r, h, sameR_iff.2 rfl⟩
theorem mem_addR {rs : List (List V)} {r x : List V} : x ∈ addR rs r ↔ x ∈ rs ∨ x = r := by
  unfold addR
  split
  · rename_i h
    exact ⟨.inl, fun h1 => h1.elim id fun e => e ▸ hasR_iff'.1 h⟩
  · rw [List.mem_append, List.mem_singleton]
theorem mem_iced {vs : List ByteArray} {x : List V} : ∀ (as_ : List Atm) (acc : List (List V)), x ∈ as_.foldl (fun rs a => addR rs (iceR vs a)) acc ↔ x ∈ acc ∨ ∃ a ∈ as_, iceR vs a = x
  | [], acc => by simp
  | a :: as_, acc => by
    rw [List.foldl_cons, mem_iced as_, mem_addR]
    simp only [List.mem_cons, exists_eq_or_imp, or_assoc]
    constructor
    · rintro (h | h | h)
      · exact .inl h
      · exact .inr (.inl h.symm)
      · exact .inr (.inr h)
    · rintro (h | h | h)
      · exact .inl h
      · exact .inr (.inl h.symm)
      · exact .inr (.inr h)
theorem mem_rowsOf {vs : List ByteArray} {l : List Atm} {rel : ByteArray} {x : List V} : x ∈ rowsOf vs l rel ↔ ∃ a ∈ l, a.rel = rel ∧ iceR vs a = x := by
  unfold rowsOf
  rw [mem_iced]
  simp only [List.not_mem_nil, false_or, List.mem_filter, decide_eq_true_eq, and_assoc]
theorem rowsOfP_map (f : ByteArray → List (List V)) (rel : ByteArray) : ∀ rels : List ByteArray, rels.Nodup → (rel ∈ rels → rowsOfP (rels.map fun r => ⟨r, f r⟩) rel = f rel) ∧ (rel ∉ rels → rowsOfP (rels.map fun r => ⟨r, f r⟩) rel = [])
  | [], _ => ⟨fun h => (by cases h), fun _ => (by simp [rowsOfP])⟩
  | r :: rels, h => by
    obtain ⟨i1, i2⟩ := rowsOfP_map f rel rels (List.nodup_cons.1 h).2
    have e : rowsOfP ((r :: rels).map fun r => (⟨r, f r⟩ : Tbl)) rel = (if r = rel then f r else []) ++ rowsOfP (rels.map fun r => ⟨r, f r⟩) rel := by simp [rowsOfP]
    rw [e]
    by_cases hr : r = rel
    · subst hr
      rw [if_pos rfl, i2 (List.nodup_cons.1 h).1, List.append_nil]
      exact ⟨fun _ => rfl, fun h => absurd (List.mem_cons_self ..) h⟩
    · rw [if_neg hr, List.nil_append]
      exact ⟨fun hm => i1 ((List.mem_cons.1 hm).resolve_left fun e => hr e.symm), fun hm => i2 fun h => hm (List.mem_cons_of_mem _ h)⟩
theorem rowsOfP_frz (vs : List ByteArray) (l : List Atm) (rel : ByteArray) : rowsOfP (frzT vs l) rel = rowsOf vs l rel := by
  unfold frzT
  obtain ⟨i1, i2⟩ := rowsOfP_map (rowsOf vs l) rel _ (rels_nodup l)
  rcases Classical.em (rel ∈ relsOf l) with h | h
  · exact i1 h
  · rw [i2 h]
    exact (rowsOf_new h).symm

/-- walks of few rows -/
def sixes : Nat → Nat
  | 0 => 0
  | n + 1 => 6 + 6 * sixes n
theorem cost_six : ∀ (ls : List Lv) (val : List V), (∀ l ∈ ls, l.rows.length ≤ 6) → cost ls val ≤ sixes ls.length
  | [], _, _ => Nat.zero_le _
  | l :: ls, val, h => by
    have h1 := h l (by simp)
    have h2 : ∀ ps : List (List V), (ps.map (cost ls)).sum ≤ ps.length * sixes ls.length := by
      intro ps
      induction ps with
      | nil => simp
      | cons p ps ih =>
        rw [List.map_cons, List.sum_cons, List.length_cons, Nat.add_mul]
        have := cost_six ls p (fun x hx => h x (by simp [hx]))
        omega
    have h3 : (l.step val).length ≤ 6 := Nat.le_trans (List.length_filterMap_le _ _) h1
    have h4 := h2 (l.step val)
    have h5 : (l.step val).length * sixes ls.length ≤ 6 * sixes ls.length := Nat.mul_le_mul_right _ h3
    simp only [cost, sixes, List.length_cons]
    omega
theorem sixes_le {n : Nat} (h : n ≤ 6) : sixes n ≤ 131072 := by
  have h1 : n = 0 ∨ n = 1 ∨ n = 2 ∨ n = 3 ∨ n = 4 ∨ n = 5 ∨ n = 6 := by omega
  rcases h1 with rfl | rfl | rfl | rfl | rfl | rfl | rfl <;> decide
theorem shows_cost {f t : Qy} (hf : Shaped f) (ht : Shaped t) : costP f (frzT (varsQ t) t.atoms) ≤ 131072 := by
  unfold costP
  refine Nat.le_trans (cost_six _ _ fun l hl => ?_) (sixes_le (by simpa [lvsFrom] using hf.six))
  unfold lvsFrom at hl
  obtain ⟨a, -, rfl⟩ := List.mem_map.1 hl
  show (rowsOfP (frzT (varsQ t) t.atoms) a.rel).length ≤ 6
  rw [rowsOfP_frz]
  exact Nat.le_trans (rowsOf_len _ _ _) ht.six

theorem iceT_val (vs : List ByteArray) (t : Tm) : iceT vs t = valT (iceV vs) t := rfl
theorem shows_own {q : Qy} (hq : Shaped q) : q.head.map (iceV (varsQ q)) ∈ ansP q (frzT (varsQ q) q.atoms) :=
  (mem_ans hq).2 ⟨iceV (varsQ q), fun a ha => by rw [rowsOfP_frz]; exact mem_rowsOf.2 ⟨a, ha, rfl, rfl⟩, rfl⟩

/-- what a frozen value stands for -/
def thaw (vs : List ByteArray) (v : V) : Tm := if v.k = 3 then ⟨vs.getD v.i.toNat .empty, zeroV⟩ else ⟨.empty, v⟩
theorem thaw_var {vs : List ByteArray} {y : ByteArray} (h : y ∈ vs) : thaw vs (iceV vs y) = ⟨y, zeroV⟩ := by
  obtain ⟨k, h1, h2⟩ := at_mem h
  unfold thaw iceV
  simp only [if_true, h1, Int.toNat_natCast, List.getD_eq_getElem?_getD, h2, Option.getD_some]
theorem noVar_eq {t : Tm} (h : noVar t = true) : t = ⟨.empty, t.c⟩ := by
  obtain ⟨v, c⟩ := t
  have h1 : v.toList.isEmpty = true := h
  rw [ByteArray.toList_eq] at h1
  obtain ⟨d⟩ := v
  have h2 : d.toList = [] := List.isEmpty_iff.1 h1
  have h3 : d = #[] := by simpa using h2
  subst h3
  rfl
theorem valid_k {v : V} (h : validV v = true) : v.k ≠ 3 := by
  intro e
  unfold validV at h
  rw [e] at h
  simp at h
theorem thaw_ice {q : Qy} (hq : Shaped q) {a : Atm} (ha : a ∈ q.atoms) {u : Tm} (hu : u ∈ a.terms) : thaw (varsQ q) (iceT (varsQ q) u) = u := by
  have h1 := (hq.atoms a ha).2.2 u hu
  cases hn : noVar u with
  | true =>
    have h2 := valid_k (h1.1 hn)
    unfold iceT thaw
    rw [if_pos hn, if_neg h2]
    exact (noVar_eq hn).symm
  | false =>
    unfold iceT
    rw [if_neg (by rw [hn]; decide), thaw_var (mem_vars.2 ⟨a, ha, u, hu, hn, rfl⟩)]
    have h3 := (h1.2 hn).2
    obtain ⟨v, c⟩ := u
    simp only at h3
    rw [h3]
theorem shows_iff {f t : Qy} (hf : Shaped f) (ht : Shaped t) (hl : f.head.length = t.head.length) : t.head.map (iceV (varsQ t)) ∈ ansP f (frzT (varsQ t) t.atoms) ↔ Lies f t := by
  constructor
  · intro h
    obtain ⟨σ, h1, h2⟩ := (mem_ans hf).1 h
    refine ⟨fun x => thaw (varsQ t) (σ x), fun i x y hx hy => ?_, fun a ha => ?_⟩
    · have e := congrArg (fun l => l[i]?) h2
      simp only [List.getElem?_map, hx, hy, Option.map_some, Option.some.injEq] at e
      show thaw (varsQ t) (σ x) = _
      rw [← e]
      exact thaw_var (mem_vars.2 (ht.safe y (List.mem_of_getElem? hy)))
    · have h3 := h1 a ha
      rw [rowsOfP_frz] at h3
      obtain ⟨b, hb, hr, he⟩ := mem_rowsOf.1 h3
      refine ⟨b, hb, hr.symm, ?_⟩
      have hlen : b.terms.length = a.terms.length := by
        have := congrArg List.length he
        simpa [iceR] using this
      apply List.ext_getElem?
      intro i
      rw [List.getElem?_map]
      cases hu : b.terms[i]? with
      | none =>
        have := List.getElem?_eq_none_iff.1 hu
        rw [List.getElem?_eq_none_iff.2 (by omega)]; rfl
      | some u =>
        have hi := (List.getElem?_eq_some_iff.1 hu).1
        obtain ⟨s, hs⟩ : ∃ s, a.terms[i]? = some s := ⟨_, List.getElem?_eq_getElem (by omega)⟩
        rw [hs]
        simp only [Option.map_some, Option.some.injEq]
        have e := congrArg (fun l => l[i]?) he
        simp only [iceR, List.getElem?_map, hu, hs, Option.map_some, Option.some.injEq] at e
        have hti := thaw_ice ht hb (List.mem_of_getElem? hu)
        unfold app
        cases hn : noVar s with
        | true =>
          rw [if_pos rfl]
          have hv : valT σ s = s.c := by unfold valT; rw [if_pos hn]
          rw [hv] at e
          rw [e] at hti
          have h9 := valid_k (((hf.atoms a ha).2.2 s (List.mem_of_getElem? hs)).1 hn)
          unfold thaw at hti
          rw [if_neg h9] at hti
          rw [← hti]
          exact (noVar_eq hn).symm
        | false =>
          rw [if_neg (by decide)]
          have hv : valT σ s = σ s.v := by unfold valT; rw [if_neg (by rw [hn]; decide)]
          rw [hv] at e
          show u = thaw (varsQ t) (σ s.v)
          rw [← e]
          exact hti.symm
  · intro h
    have h1 := shows_own ht
    exact lies_ans hf ht hl h _ _ h1
theorem shows_law {f t : Qy} (h : (findR f t).2.2 = 0) : (frzR t).2.2 = 0 ∧ holdsP t (frzR t).1 (frzR t).2.1 = true ∧ (collectP t (frzR t).1).2.2 = 0 ∧ holdsP f (frzR t).1 (frzR t).2.1 = (findR f t).2.1 ∧ (collectP f (frzR t).1).2.2 = 0 := by
  rw [findR_err] at h
  obtain ⟨hf, ht, hl⟩ := shapesP_iff.1 h
  have e1 : frzR t = (frzT (varsQ t) t.atoms, t.head.map (iceV (varsQ t)), 0) := if_pos (shapeQ_iff.2 ht)
  have e2 : ∀ {q : Qy}, Shaped q → collectP q (frzT (varsQ t) t.atoms) = (ansP q (frzT (varsQ t) t.atoms), costP q (frzT (varsQ t) t.atoms), 0) := fun {q} hq => by
    unfold collectP
    rw [if_pos (shapeQ_iff.2 hq), if_pos (shows_cost hq ht)]
  rw [e1]
  refine ⟨rfl, ?_, ?_, ?_, ?_⟩
  · unfold holdsP
    rw [e2 ht]
    exact hasR_iff'.2 (shows_own ht)
  · rw [e2 ht]
  · unfold holdsP
    rw [e2 hf, Bool.eq_iff_iff, hasR_iff', shows_iff hf ht hl, findR_yes]
    exact ⟨fun h1 => ⟨h, h1⟩, fun h1 => h1.2⟩
  · rw [e2 hf]
end Go.Proofs.Ytpfjkjmimmklcaa
