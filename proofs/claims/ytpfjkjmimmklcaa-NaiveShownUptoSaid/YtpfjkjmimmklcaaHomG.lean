/-
  The core, as plain data.
  What Find says of two queries, in plain words; what a core is: equal to its query, and of one length with the cores of all equal queries.
  The plain form of a query, as plain data: a renaming of its variables.
  A frozen query, as plain data: what the program makes step by step, and what the document defines.
  Lists of rows, and tables: are they the same; does a row stand in a list.
-/
import Derived.Test.YtpfjkjmimmklcaaFindG
import Derived.Test.YtpfjkjmimmklcaaPlainA
import Derived.Test.YtpfjkjmimmklcaaNaiP
import Derived.Test.YtpfjkjmimmklcaaRowsG
import Derived.Test.YtpfjkjmimmklcaaRefB
namespace Go.Proofs.Ytpfjkjmimmklcaa
open Go.RowKit

/-- the query without its i-th atom -/
def withoutQ (q : Qy) (i : Nat) : Qy := ⟨q.name, q.head, q.atoms.take i ++ q.atoms.drop (i + 1)⟩
/-- it can be left out -/
def outB (q : Qy) (i : Nat) : Bool := decide (shapeQ (withoutQ q i) = 0) && (findR q (withoutQ q i)).2.1
def firstOut (q : Qy) (i : Nat) : Nat → Option Nat
  | 0 => none
  | k + 1 => if outB q i then some i else firstOut q (i + 1) k
def coreP : Nat → Qy → Qy
  | 0, q => q
  | k + 1, q => match firstOut q 0 q.atoms.length with
    | some i => coreP k (withoutQ q i)
    | none => q
def coreR (q : Qy) : Qy × Int := if shapeQ q ≠ 0 then (⟨.empty, [], []⟩, shapeQ q) else (coreP q.atoms.length q, 0)
theorem firstOut_lt (q : Qy) : ∀ (k i j : Nat), firstOut q i k = some j → i ≤ j ∧ j < i + k
  | 0, i, j, h => by cases h
  | k + 1, i, j, h => by
    simp only [firstOut] at h
    split at h
    · injection h with h; omega
    · have := firstOut_lt q k (i + 1) j h; omega
theorem withoutQ_len {q : Qy} {i : Nat} (h : i < q.atoms.length) : (withoutQ q i).atoms.length + 1 = q.atoms.length := by
  simp only [withoutQ, List.length_append, List.length_take, List.length_drop]; omega
end Go.Proofs.Ytpfjkjmimmklcaa

namespace Go.Proofs.Ytpfjkjmimmklcaa

theorem nodup_of_dbl {l : List ByteArray} (h : dblB l = false) : l.Nodup := by
  have h1 : dblI l 0 l < 0 := by
    unfold dblB at h
    have := of_decide_eq_false h
    omega
  have h2 := (dblI_neg l l 0 rfl).1 h1
  unfold List.Nodup
  rw [List.pairwise_iff_getElem]
  intro i j hi hj hij e
  have h3 := h2 j l[j] (Nat.zero_le _) (List.getElem?_eq_getElem hj)
  have h4 : memB (l.take j) l[j] = true := by
    rw [memB_iff, ← e, List.mem_take_iff_getElem]
    exact ⟨i, by omega, rfl⟩
  rw [h4] at h3; cases h3
theorem dbl_of_nodup {l : List ByteArray} (h : l.Nodup) : dblB l = false := by
  unfold dblB
  rw [decide_eq_false_iff_not]
  have : dblI l 0 l < 0 := (dblI_neg l l 0 rfl).2 fun j x _ hx => by
    cases hm : memB (l.take j) x with
    | false => rfl
    | true =>
      rw [memB_iff, List.mem_take_iff_getElem] at hm
      obtain ⟨i, hi, e⟩ := hm
      obtain ⟨hj, e2⟩ := List.getElem?_eq_some_iff.1 hx
      unfold List.Nodup at h
      rw [List.pairwise_iff_getElem] at h
      exact absurd (e.trans e2.symm) (h i j (by omega) hj (by omega))
  omega

theorem name_some {s : ByteArray} (h : nameB s = true) : s.toList.isEmpty = false := by
  rw [ByteArray.toList_eq]
  unfold nameB headB at h
  cases hl : s.data.toList with
  | nil => rw [hl] at h; simp at h
  | cons a r => rfl

theorem mem_addTs (x : ByteArray) : ∀ (ts : List Tm) (acc : List ByteArray), x ∈ addTs acc ts ↔ x ∈ acc ∨ ∃ t ∈ ts, noVar t = false ∧ t.v = x
  | [], acc => by simp [addTs]
  | t :: ts, acc => by
    have e : addTs acc (t :: ts) = addTs (addT acc t) ts := rfl
    rw [e, mem_addTs x ts]
    have h1 : x ∈ addT acc t ↔ x ∈ acc ∨ (noVar t = false ∧ t.v = x) := by
      unfold addT
      by_cases hn : noVar t = true
      · simp [hn]
      · have hn' : noVar t = false := by simpa using hn
        simp only [hn', Bool.false_eq_true, if_false, true_and]
        by_cases hm : memB acc t.v = true
        · simp only [hm, if_true]
          exact ⟨.inl, fun h => h.elim id fun e => e ▸ memB_iff.1 hm⟩
        · simp only [hm, Bool.false_eq_true, if_false, List.mem_append, List.mem_singleton]
          exact ⟨fun h => h.imp id Eq.symm, fun h => h.imp id Eq.symm⟩
    rw [h1]
    simp only [List.mem_cons, exists_eq_or_imp, or_assoc]
theorem mem_vars {q : Qy} {x : ByteArray} : x ∈ varsQ q ↔ ∃ a ∈ q.atoms, ∃ t ∈ a.terms, noVar t = false ∧ t.v = x := by
  rw [varsQ_flat, mem_addTs]
  simp only [List.not_mem_nil, false_or, List.mem_flatMap]
  exact ⟨fun ⟨t, ⟨a, h1, h2⟩, h3⟩ => ⟨a, h1, t, h2, h3⟩, fun ⟨a, h1, t, h2, h3⟩ => ⟨t, ⟨a, h1, h2⟩, h3⟩⟩

/-- what a query of the right shape is -/
structure Shaped (q : Qy) : Prop where
  name : nameB q.name = true
  head : ∀ h ∈ q.head, nameB h = true
  atoms : ∀ a ∈ q.atoms, nameB a.rel = true ∧ a.terms.length ≤ 5 ∧ ∀ t ∈ a.terms, (noVar t = true → validV t.c = true) ∧ (noVar t = false → nameB t.v = true ∧ t.c = zeroV)
  some : 1 ≤ q.atoms.length
  six : q.atoms.length ≤ 6
  nodup : q.head.Nodup
  safe : ∀ h ∈ q.head, ∃ a ∈ q.atoms, ∃ t ∈ a.terms, noVar t = false ∧ t.v = h
theorem shapeQ_iff {q : Qy} : shapeQ q = 0 ↔ Shaped q := by
  constructor
  · intro h
    obtain ⟨h1, h2, h3, h4, h5, h6⟩ := shapeQ_ok h
    simp only [badNameQ, Bool.not_eq_false', Bool.and_eq_true, List.all_eq_true] at h1
    simp only [List.any_eq_false] at h2 h4
    simp only [unsafeB, List.any_eq_false, Bool.not_eq_true, Bool.not_eq_false'] at h6
    refine ⟨h1.1.1, h1.1.2, fun a ha => ?_, h3.1, h3.2, nodup_of_dbl h5, fun x hx => mem_vars.1 (memB_iff.1 (h6 x hx))⟩
    have n1 := h1.2 a ha
    simp only [nameA, Bool.and_eq_true, List.all_eq_true] at n1
    have n2 := h2 a ha
    simp only [badA, Bool.not_eq_true, List.any_eq_false] at n2
    have n4 := h4 a ha
    simp only [wideA, decide_eq_true_eq] at n4
    refine ⟨n1.1, by omega, fun t ht => ?_⟩
    have m1 := n1.2 t ht
    have m2 := n2 t ht
    simp only [nameT, Bool.or_eq_true] at m1
    unfold badT at m2
    refine ⟨fun hn => ?_, fun hn => ?_⟩
    · simpa [hn] using m2
    · simp only [hn, Bool.false_eq_true, if_false, Bool.not_eq_false', sameV_iff] at m2
      rw [hn] at m1
      exact ⟨by simpa using m1, m2⟩
  · intro h
    have c1 : badNameQ q = false := by
      simp only [badNameQ, Bool.not_eq_false', Bool.and_eq_true, List.all_eq_true]
      refine ⟨⟨h.name, h.head⟩, fun a ha => ?_⟩
      simp only [nameA, Bool.and_eq_true, List.all_eq_true]
      refine ⟨(h.atoms a ha).1, fun t ht => ?_⟩
      have := (h.atoms a ha).2.2 t ht
      unfold nameT
      cases hn : noVar t with
      | true => rfl
      | false => simpa using (this.2 hn).1
    have c2 : q.atoms.any badA = false := by
      simp only [List.any_eq_false, badA, Bool.not_eq_true]
      intro a ha t ht
      have := (h.atoms a ha).2.2 t ht
      unfold badT
      cases hn : noVar t with
      | true => simpa using this.1 hn
      | false => simpa [sameV_iff] using (this.2 hn).2
    have c4 : q.atoms.any wideA = false := by
      simp only [List.any_eq_false, wideA, decide_eq_true_eq]
      intro a ha
      have := (h.atoms a ha).2.1
      omega
    have c6 : unsafeB q = false := by
      simp only [unsafeB, List.any_eq_false, Bool.not_eq_true, Bool.not_eq_false']
      intro x hx
      exact memB_iff.2 (mem_vars.2 (h.safe x hx))
    have c3 : ¬ (q.atoms.length = 0 ∨ 6 < q.atoms.length) := by have := h.some; have := h.six; omega
    unfold shapeQ
    simp only [c1, c2, c4, c6, dbl_of_nodup h.nodup, if_neg c3, Bool.false_eq_true, if_false]
theorem Shaped.clean {q : Qy} (h : Shaped q) : cleanQ q := fun a ha t ht hn => (((h.atoms a ha).2.2 t ht).2 hn).2
theorem Shaped.heads {q : Qy} (h : Shaped q) : ∀ x ∈ q.head, x.toList.isEmpty = false := fun x hx => name_some (h.head x hx)

theorem shapesP_iff {f t : Qy} : shapesP f t = 0 ↔ Shaped f ∧ Shaped t ∧ f.head.length = t.head.length := by
  constructor
  · intro h
    obtain ⟨h1, h2, h3⟩ := shapesP_zero h
    exact ⟨shapeQ_iff.1 h1, shapeQ_iff.1 h2, h3⟩
  · rintro ⟨h1, h2, h3⟩
    simp [shapesP, shapeQ_iff.2 h1, shapeQ_iff.2 h2, h3]
theorem findR_err (f t : Qy) : (findR f t).2.2 = shapesP f t := by
  unfold findR
  split
  · rfl
  · rename_i h
    have h' : shapesP f t = 0 := Decidable.of_not_not h
    rw [h']
    split <;> rfl
theorem findR_yes {f t : Qy} : (findR f t).2.1 = true ↔ shapesP f t = 0 ∧ Lies f t := by
  unfold findR
  split
  · rename_i h
    simp [h]
  · rename_i h
    have h' : shapesP f t = 0 := Decidable.of_not_not h
    rw [← findP_iff (shapesP_iff.1 h').1.nodup]
    cases hf : findP f t <;> simp [h']

/-- a part of a query that has all of its head's variables -/
theorem Shaped.part {q p : Qy} (h : Shaped q) (hn : p.name = q.name) (hh : p.head = q.head) (hs : ∀ a ∈ p.atoms, a ∈ q.atoms) (h1 : 1 ≤ p.atoms.length) (h6 : p.atoms.length ≤ 6)
    (hv : ∀ x ∈ q.head, ∃ a ∈ p.atoms, ∃ t ∈ a.terms, noVar t = false ∧ t.v = x) : Shaped p :=
  ⟨hn ▸ h.name, hh ▸ h.head, fun a ha => h.atoms a (hs a ha), h1, h6, hh ▸ h.nodup, hh ▸ hv⟩
theorem withoutQ_sub (q : Qy) (i : Nat) : ∀ a ∈ (withoutQ q i).atoms, a ∈ q.atoms := fun a ha => by
  simp only [withoutQ, List.mem_append] at ha
  exact ha.elim List.mem_of_mem_take List.mem_of_mem_drop
theorem outB_iff {q : Qy} (hq : Shaped q) {i : Nat} : outB q i = true ↔ Shaped (withoutQ q i) ∧ Lies q (withoutQ q i) := by
  unfold outB
  rw [Bool.and_eq_true, decide_eq_true_iff, findR_yes, shapeQ_iff]
  constructor
  · rintro ⟨h1, _, h2⟩; exact ⟨h1, h2⟩
  · rintro ⟨h1, h2⟩; exact ⟨h1, shapesP_iff.2 ⟨hq, h1, rfl⟩, h2⟩
theorem firstOut_some {q : Qy} : ∀ {k i j : Nat}, firstOut q i k = some j → outB q j = true
  | 0, i, j, h => by cases h
  | k + 1, i, j, h => by
    simp only [firstOut] at h
    split at h
    · injection h with h; subst h; assumption
    · exact firstOut_some h
theorem firstOut_none {q : Qy} : ∀ {k i : Nat}, firstOut q i k = none → ∀ j, i ≤ j → j < i + k → outB q j = false
  | 0, i, _, j, h1, h2 => by omega
  | k + 1, i, h, j, h1, h2 => by
    simp only [firstOut] at h
    split at h
    · cases h
    · rename_i hn
      by_cases e : j = i
      · subst e; simpa using hn
      · exact firstOut_none h j (by omega) (by omega)

/-- what the core is -/
structure IsCore (q c : Qy) : Prop where
  shaped : Shaped c
  name : c.name = q.name
  head : c.head = q.head
  sub : ∀ a ∈ c.atoms, a ∈ q.atoms
  len : c.atoms.length ≤ q.atoms.length
  onto : Lies q c
theorem Lies.refl {q : Qy} (h : Shaped q) : Lies q q := Lies.sub h.clean rfl fun _ h => h
theorem coreP_spec : ∀ (k : Nat) (q : Qy), Shaped q → IsCore q (coreP k q)
  | 0, q, h => ⟨h, rfl, rfl, fun _ h => h, Nat.le_refl _, .refl h⟩
  | k + 1, q, h => by
    unfold coreP
    cases hf : firstOut q 0 q.atoms.length with
    | none => exact ⟨h, rfl, rfl, fun _ h => h, Nat.le_refl _, .refl h⟩
    | some i =>
      obtain ⟨h1, h2⟩ := (outB_iff h).1 (firstOut_some hf)
      have hc := coreP_spec k (withoutQ q i) h1
      have hi := withoutQ_len (firstOut_lt q _ _ _ hf |>.2 |> (by simpa using ·) : i < q.atoms.length)
      exact ⟨hc.shaped, hc.name, hc.head, fun a ha => withoutQ_sub q i a (hc.sub a ha), by have := hc.len; simp only at *; omega, Lies.trans h1.heads rfl h2 hc.onto⟩
theorem coreP_fix : ∀ (k : Nat) (q : Qy), q.atoms.length ≤ k → ∀ i, i < (coreP k q).atoms.length → outB (coreP k q) i = false
  | 0, q, h, i, hi => by
    have : q.atoms.length = 0 := by omega
    simp only [coreP] at hi
    omega
  | k + 1, q, h, i, hi => by
    unfold coreP at hi ⊢
    cases hf : firstOut q 0 q.atoms.length with
    | none =>
      simp only [hf] at hi
      exact firstOut_none hf i (Nat.zero_le _) (by omega)
    | some j =>
      simp only [hf] at hi
      have hj := withoutQ_len (firstOut_lt q _ _ _ hf |>.2 |> (by simpa using ·) : j < q.atoms.length)
      exact coreP_fix k _ (by omega) i hi

theorem nodup_sub_len {α : Type} [DecidableEq α] : ∀ (l m : List α), l.Nodup → (∀ x ∈ l, x ∈ m) → l.length ≤ m.length
  | [], m, _, _ => Nat.zero_le _
  | x :: l, m, hn, hs => by
    rw [List.nodup_cons] at hn
    have hx : x ∈ m := hs x (by simp)
    have := nodup_sub_len l (m.erase x) hn.2 fun y hy => by
      have hne : y ≠ x := fun e => hn.1 (e ▸ hy)
      exact (List.mem_erase_of_ne hne).2 (hs y (by simp [hy]))
    rw [List.length_erase_of_mem hx] at this
    have hp : 0 < m.length := List.length_pos_of_mem hx
    simp only [List.length_cons]
    omega
theorem mem_without {q : Qy} {i j : Nat} (hi : i < q.atoms.length) (hj : j < q.atoms.length) (h : i ≠ j) : q.atoms[i] ∈ (withoutQ q j).atoms := by
  simp only [withoutQ, List.mem_append]
  rcases Nat.lt_or_gt_of_ne h with h | h
  · left
    rw [List.mem_take_iff_getElem]
    exact ⟨i, by omega, rfl⟩
  · right
    rw [List.mem_drop_iff_getElem]
    exact ⟨i - (j + 1), by omega, by congr 1; omega⟩
theorem mem_or_without {q : Qy} {b : Atm} (h : b ∈ q.atoms) {i : Nat} (hi : i < q.atoms.length) : b = q.atoms[i] ∨ b ∈ (withoutQ q i).atoms := by
  obtain ⟨j, hj, e⟩ := List.getElem_of_mem h
  by_cases hij : j = i
  · subst hij; exact .inl e.symm
  · right; rw [← e]; exact mem_without hj hi hij
/-- what cannot lose an atom, upon which another lies and which lies upon it, is no longer -/
theorem core_le {c d : Qy} (hc : Shaped c) (hd : Shaped d) (hl : c.head.length = d.head.length) (h1 : Lies c d) (h2 : Lies d c) (hfix : ∀ i, i < c.atoms.length → outB c i = false) : c.atoms.length ≤ d.atoms.length := by
  obtain ⟨h, hh, ha⟩ := h1
  obtain ⟨g, gh, ga⟩ := h2
  have φh : headOn (fun x => app g (h x)) c.head c.head := fun i x z hx hz => by
    have hi : i < d.head.length := by rw [← hl]; exact (List.getElem?_eq_some_iff.1 hx).1
    have hy : d.head[i]? = some d.head[i] := List.getElem?_eq_getElem hi
    show app g (h x) = _
    rw [hh i x _ hx hy]
    have := hd.heads _ (List.getElem_mem hi)
    simp only [app, noVar, this, Bool.false_eq_true, if_false]
    exact gh i _ z hy hz
  have im : ∀ a ∈ c.atoms, ∃ b ∈ d.atoms, ∃ r ∈ c.atoms, onto g b r ∧ onto (fun x => app g (h x)) a r := fun a ham => by
    obtain ⟨b, hb, e1, e2⟩ := ha a ham
    obtain ⟨r, hr, e3, e4⟩ := ga b hb
    refine ⟨b, hb, r, hr, ⟨e3, e4⟩, e1.trans e3, ?_⟩
    rw [e4, e2, List.map_map]
    apply List.map_congr_left
    intro t _
    exact app_app h g t
  have key : ∀ i (hi : i < c.atoms.length), c.atoms[i] ∉ (withoutQ c i).atoms ∧ ∃ b ∈ d.atoms, onto g b c.atoms[i] := fun i hi => by
    apply Classical.byContradiction
    intro hno
    have hall : ∀ a ∈ c.atoms, ∃ r ∈ (withoutQ c i).atoms, onto (fun x => app g (h x)) a r := fun a ham => by
      obtain ⟨b, hb, r, hr, o1, o2⟩ := im a ham
      rcases mem_or_without hr hi with e | hw
      · subst e
        by_cases hm : c.atoms[i] ∈ (withoutQ c i).atoms
        · exact ⟨_, hm, o2⟩
        · exact absurd ⟨hm, b, hb, o1⟩ hno
      · exact ⟨r, hw, o2⟩
    have hL : Lies c (withoutQ c i) := ⟨_, φh, hall⟩
    have hlen := withoutQ_len hi
    have hS : Shaped (withoutQ c i) := by
      refine hc.part rfl rfl (withoutQ_sub c i) ?_ (by have := hc.six; omega) fun x hx => ?_
      · obtain ⟨r, hr, _⟩ := hall _ (List.getElem_mem hi)
        have := List.length_pos_of_mem hr
        omega
      · obtain ⟨a, ham, t, ht, hn, hv⟩ := hc.safe x hx
        obtain ⟨r, hr, _, e⟩ := hall a ham
        obtain ⟨k, hk, ek⟩ := List.getElem_of_mem hx
        have hx' : c.head[k]? = some x := by rw [List.getElem?_eq_getElem hk, ek]
        have e2 : app (fun x => app g (h x)) t = ⟨x, zeroV⟩ := by
          have e3 : app (fun x => app g (h x)) t = (fun x => app g (h x)) t.v := by
            unfold app; rw [hn]; rfl
          rw [e3, hv]
          exact φh k x x hx' hx'
        refine ⟨r, hr, ⟨x, zeroV⟩, ?_, hc.heads x hx, rfl⟩
        rw [e, List.mem_map]
        exact ⟨t, ht, e2⟩
    have := (outB_iff hc).2 ⟨hS, hL⟩
    rw [hfix i hi] at this
    cases this
  have hnd : c.atoms.Nodup := by
    unfold List.Nodup
    rw [List.pairwise_iff_getElem]
    intro i j hi hj hij e
    exact (key j hj).1 (e ▸ mem_without hi hj (by omega))
  haveI : DecidableEq Atm := fun a b => Classical.propDecidable _
  have := nodup_sub_len c.atoms (d.atoms.map fun b => ⟨b.rel, b.terms.map (app g)⟩) hnd fun a ham => by
    obtain ⟨i, hi, e⟩ := List.getElem_of_mem ham
    obtain ⟨_, b, hb, o1, o2⟩ := key i hi
    rw [List.mem_map]
    refine ⟨b, hb, ?_⟩
    rw [← e, o1, ← o2]
  simpa using this
/-- equal queries have cores of one length -/
theorem cores_len {q p : Qy} (hq : Shaped q) (hp : Shaped p) (hl : q.head.length = p.head.length) (h1 : Lies q p) (h2 : Lies p q) : (coreP q.atoms.length q).atoms.length = (coreP p.atoms.length p).atoms.length := by
  have c := coreP_spec q.atoms.length q hq
  have d := coreP_spec p.atoms.length p hp
  have c2 : Lies (coreP q.atoms.length q) q := Lies.sub c.shaped.clean c.head c.sub
  have d2 : Lies (coreP p.atoms.length p) p := Lies.sub d.shaped.clean d.head d.sub
  have cd : Lies (coreP q.atoms.length q) (coreP p.atoms.length p) := Lies.trans hp.heads (by rw [c.head, hl]) (Lies.trans hq.heads (by rw [c.head]) c2 h1) d.onto
  have dc : Lies (coreP p.atoms.length p) (coreP q.atoms.length q) := Lies.trans hq.heads (by rw [d.head, hl]) (Lies.trans hp.heads (by rw [d.head]) d2 h2) c.onto
  have e : (coreP q.atoms.length q).head.length = (coreP p.atoms.length p).head.length := by rw [c.head, d.head, hl]
  exact Nat.le_antisymm (core_le c.shaped d.shaped e cd dc (coreP_fix _ _ (Nat.le_refl _))) (core_le d.shaped c.shaped e.symm dc cd (coreP_fix _ _ (Nat.le_refl _)))
end Go.Proofs.Ytpfjkjmimmklcaa

namespace Go.Proofs.Ytpfjkjmimmklcaa

/-- n in decimal digits -/
def digL (n : Nat) : List UInt8 := if h : n < 10 then [UInt8.ofNat (48 + n)] else digL (n / 10) ++ [UInt8.ofNat (48 + n % 10)]
decreasing_by omega
def valL (l : List UInt8) : Nat := l.foldl (fun a c => a * 10 + (c.toNat - 48)) 0
theorem dig_nat {k : Nat} (h : k < 10) : (UInt8.ofNat (48 + k)).toNat = 48 + k := by
  rw [UInt8.toNat_ofNat']; omega
theorem valL_dig (n : Nat) : valL (digL n) = n := by
  induction n using Nat.strongRecOn with
  | _ n ih =>
    rw [digL]
    split
    · rename_i h
      simp only [valL, List.foldl_cons, List.foldl_nil, dig_nat h]
      omega
    · rename_i h
      have := ih (n / 10) (by omega)
      unfold valL at *
      rw [List.foldl_append, this]
      simp only [List.foldl_cons, List.foldl_nil, dig_nat (show n % 10 < 10 by omega)]
      omega
theorem digL_inj {n m : Nat} (h : digL n = digL m) : n = m := by
  rw [← valL_dig n, h, valL_dig]
theorem digL_digit (n : Nat) : ∀ c ∈ digL n, digitB c = true := by
  induction n using Nat.strongRecOn with
  | _ n ih =>
    rw [digL]
    split
    · rename_i h
      intro c hc
      obtain rfl := List.mem_singleton.1 hc
      unfold digitB
      rw [dig_nat h]
      simp only [Bool.and_eq_true, decide_eq_true_eq]; omega
    · rename_i h
      intro c hc
      rcases List.mem_append.1 hc with hc | hc
      · exact ih (n / 10) (by omega) c hc
      · obtain rfl := List.mem_singleton.1 hc
        unfold digitB
        rw [dig_nat (show n % 10 < 10 by omega)]
        simp only [Bool.and_eq_true, decide_eq_true_eq]; omega
theorem digL_len {n : Nat} (h : n < 100) : (digL n).length ≤ 2 := by
  rw [digL]
  split
  · simp
  · rw [digL, dif_pos (by omega)]
    simp
/-- a v, and the number -/
def vName (n : Nat) : ByteArray := ⟨(118 :: digL n).toArray⟩
theorem vName_inj {n m : Nat} (h : vName n = vName m) : n = m := by
  unfold vName at h
  injection h with h
  have h2 := congrArg Array.toList h
  simp only [List.cons.injEq, true_and] at h2
  exact digL_inj h2
theorem vName_name {n : Nat} (h : n < 100) : nameB (vName n) = true := by
  have hl := digL_len h
  unfold nameB vName
  simp only [Bool.and_eq_true, List.all_eq_true, decide_eq_true_eq]
  refine ⟨⟨(by decide : letterB 118 = true), fun c hc => ?_⟩, ?_⟩
  · rcases List.mem_cons.1 hc with rfl | hc
    · decide
    · unfold partB
      rw [digL_digit n c hc, Bool.or_true]
  · show (118 :: digL n).toArray.size ≤ 16
    simp only [List.size_toArray, List.length_cons]
    omega

/-- all variables that stand in terms, as often as they stand there -/
def varsL (ts : List Tm) : List ByteArray := (ts.filter fun t => !noVar t).map (·.v)
def oldQ (q : Qy) : List ByteArray := q.head ++ varsL (q.atoms.flatMap (·.terms))
def seenQ (q : Qy) : List ByteArray := (oldQ q).foldl addV []
def ren (q : Qy) (x : ByteArray) : ByteArray := vName (atN (seenQ q) x)
def renT (q : Qy) (t : Tm) : Tm := if noVar t then t else ⟨ren q t.v, t.c⟩
def renA (q : Qy) (a : Atm) : Atm := ⟨a.rel, a.terms.map (renT q)⟩
def plainQ (q : Qy) : Qy := ⟨q.name, q.head.map (ren q), q.atoms.map (renA q)⟩

theorem mem_seen : ∀ (l acc : List ByteArray) (x : ByteArray), x ∈ l.foldl addV acc ↔ x ∈ acc ∨ x ∈ l
  | [], acc, x => by simp
  | y :: l, acc, x => by
    rw [List.foldl_cons, mem_seen l]
    unfold addV
    by_cases h : memB acc y = true
    · simp only [h, if_true, List.mem_cons]
      constructor
      · rintro (h1 | h1)
        · exact .inl h1
        · exact .inr (.inr h1)
      · rintro (h1 | rfl | h1)
        · exact .inl h1
        · exact .inl (memB_iff.1 h)
        · exact .inr h1
    · simp only [h, Bool.false_eq_true, if_false, List.mem_append, List.mem_cons, List.not_mem_nil, or_false, or_assoc]
theorem seen_len : ∀ (l acc : List ByteArray), (l.foldl addV acc).length ≤ acc.length + l.length
  | [], acc => by simp
  | y :: l, acc => by
    rw [List.foldl_cons]
    have := seen_len l (addV acc y)
    have h2 : (addV acc y).length ≤ acc.length + 1 := by
      unfold addV
      split
      · omega
      · simp
    simp only [List.length_cons]
    omega
theorem ren_inj {q : Qy} {x y : ByteArray} (hx : x ∈ seenQ q) (hy : y ∈ seenQ q) (h : ren q x = ren q y) : x = y := by
  have h1 := vName_inj h
  have h2 := atN_get hx
  rw [h1, atN_get hy] at h2
  injection h2 with h2
  exact h2.symm
theorem flat_len {q : Qy} (h : Shaped q) : (q.atoms.flatMap (·.terms)).length ≤ 30 := by
  have h6 := h.six
  have : ∀ as_ : List Atm, (∀ a ∈ as_, a.terms.length ≤ 5) → (as_.flatMap (·.terms)).length ≤ as_.length * 5 := by
    intro as_
    induction as_ with
    | nil => intro _; simp
    | cons a r ih =>
      intro h
      have := ih fun x hx => h x (by simp [hx])
      have := h a (by simp)
      simp only [List.flatMap_cons, List.length_append, List.length_cons]
      omega
  have := this q.atoms fun a ha => (h.atoms a ha).2.1
  omega
theorem head_len {q : Qy} (h : Shaped q) : q.head.length ≤ 30 := by
  have h1 := nodup_sub_len q.head ((q.atoms.flatMap (·.terms)).map (·.v)) h.nodup fun x hx => by
    obtain ⟨a, ha, t, ht, _, e⟩ := h.safe x hx
    rw [List.mem_map]
    exact ⟨t, List.mem_flatMap.2 ⟨a, ha, ht⟩, e⟩
  have := flat_len h
  simp only [List.length_map] at h1
  omega
theorem old_len {q : Qy} (h : Shaped q) : (oldQ q).length ≤ 60 := by
  have h1 := head_len h
  have h2 := flat_len h
  have h3 := List.length_filter_le (fun t => !noVar t) (q.atoms.flatMap (·.terms))
  simp only [oldQ, varsL, List.length_append, List.length_map]
  omega
theorem seen_sixty {q : Qy} (h : Shaped q) : (seenQ q).length ≤ 60 := by
  have h1 := seen_len (oldQ q) []
  have h2 := old_len h
  simp only [List.length_nil] at h1
  unfold seenQ
  omega
theorem atN_lt {q : Qy} (h : Shaped q) (x : ByteArray) : atN (seenQ q) x < 100 := by
  have h1 := firstI_le (eqB x) (seenQ q) 0
  have h2 := seen_sixty h
  unfold atN
  omega
theorem ren_name {q : Qy} (h : Shaped q) (x : ByteArray) : nameB (ren q x) = true := vName_name (atN_lt h x)
theorem head_seen {q : Qy} {x : ByteArray} (h : x ∈ q.head) : x ∈ seenQ q := (mem_seen _ _ _).2 (.inr (List.mem_append_left _ h))
theorem term_seen {q : Qy} {a : Atm} {t : Tm} (ha : a ∈ q.atoms) (ht : t ∈ a.terms) (hn : noVar t = false) : t.v ∈ seenQ q :=
  (mem_seen _ _ _).2 (.inr (List.mem_append_right _ (List.mem_map.2 ⟨t, List.mem_filter.2 ⟨List.mem_flatMap.2 ⟨a, ha, ht⟩, by rw [hn]; rfl⟩, rfl⟩)))
theorem renT_var {q : Qy} (h : Shaped q) (t : Tm) : noVar (renT q t) = noVar t := by
  unfold renT
  by_cases hn : noVar t = true
  · simp [hn]
  · have hn' : noVar t = false := by simpa using hn
    rw [hn']
    simp only [Bool.false_eq_true, if_false]
    exact name_some (ren_name h t.v)

theorem plain_shaped {q : Qy} (h : Shaped q) : Shaped (plainQ q) := by
  refine ⟨h.name, fun x hx => ?_, fun a ha => ?_, ?_, ?_, ?_, fun x hx => ?_⟩
  · obtain ⟨y, _, rfl⟩ := List.mem_map.1 hx
    exact ren_name h y
  · obtain ⟨a', ha', rfl⟩ := List.mem_map.1 ha
    have h1 := h.atoms a' ha'
    refine ⟨h1.1, by simpa [renA] using h1.2.1, fun t ht => ?_⟩
    obtain ⟨t', ht', rfl⟩ := List.mem_map.1 ht
    have h2 := h1.2.2 t' ht'
    rw [renT_var h]
    unfold renT
    refine ⟨fun hn => ?_, fun hn => ?_⟩
    · rw [if_pos hn]; exact h2.1 hn
    · rw [if_neg (by simp [hn])]
      exact ⟨ren_name h _, (h2.2 hn).2⟩
  · simpa [plainQ] using h.some
  · simpa [plainQ] using h.six
  · show (q.head.map (ren q)).Nodup
    unfold List.Nodup
    rw [List.pairwise_iff_getElem]
    intro i j hi hj hij e
    simp only [List.length_map] at hi hj
    simp only [List.getElem_map] at e
    have e2 := ren_inj (head_seen (List.getElem_mem hi)) (head_seen (List.getElem_mem hj)) e
    have hn := h.nodup
    unfold List.Nodup at hn
    rw [List.pairwise_iff_getElem] at hn
    exact hn i j hi hj hij e2
  · obtain ⟨y, hy, rfl⟩ := List.mem_map.1 hx
    obtain ⟨a, ha, t, ht, hn, hv⟩ := h.safe y hy
    refine ⟨renA q a, List.mem_map.2 ⟨a, ha, rfl⟩, renT q t, List.mem_map.2 ⟨t, ht, rfl⟩, by rw [renT_var h]; exact hn, ?_⟩
    unfold renT
    rw [if_neg (by simp [hn]), hv]
theorem plain_on {q : Qy} (h : Shaped q) : Lies q (plainQ q) := by
  refine ⟨fun x => ⟨ren q x, zeroV⟩, fun i x y hx hy => ?_, fun a ha => ⟨renA q a, List.mem_map.2 ⟨a, ha, rfl⟩, rfl, ?_⟩⟩
  · have : (q.head.map (ren q))[i]? = some y := hy
    rw [List.getElem?_map, hx] at this
    simp only [Option.map_some, Option.some.injEq] at this
    show (⟨ren q x, zeroV⟩ : Tm) = _
    rw [this]
  · show a.terms.map (renT q) = _
    apply List.map_congr_left
    intro t ht
    unfold renT app
    by_cases hn : noVar t = true
    · simp [hn]
    · have hn' : noVar t = false := by simpa using hn
      simp only [hn', Bool.false_eq_true, if_false]
      rw [h.clean a ha t ht hn']
theorem plain_back {q : Qy} (h : Shaped q) : Lies (plainQ q) q := by
  have hinv : ∃ inv : ByteArray → ByteArray, ∀ x ∈ seenQ q, inv (ren q x) = x := by
    refine ⟨fun y => ((seenQ q).find? fun x => decide (ren q x = y)).getD y, fun x hx => ?_⟩
    cases hf : (seenQ q).find? fun z => decide (ren q z = ren q x) with
    | none =>
      rw [List.find?_eq_none] at hf
      exact absurd (hf x hx) (by simp)
    | some z =>
      have h1 := List.find?_some hf
      have h2 := List.mem_of_find?_eq_some hf
      show (((seenQ q).find? fun x' => decide (ren q x' = ren q x)).getD (ren q x)) = x
      rw [hf]
      exact ren_inj h2 hx (of_decide_eq_true h1)
  obtain ⟨inv, hinv⟩ := hinv
  refine ⟨fun x => ⟨inv x, zeroV⟩, fun i x y hx hy => ?_, fun a ha => ?_⟩
  · have : (q.head.map (ren q))[i]? = some x := hx
    rw [List.getElem?_map, hy] at this
    simp only [Option.map_some, Option.some.injEq] at this
    show (⟨inv x, zeroV⟩ : Tm) = _
    rw [← this, hinv y (head_seen (List.mem_of_getElem? hy))]
  · obtain ⟨a', ha', rfl⟩ := List.mem_map.1 ha
    refine ⟨a', ha', rfl, ?_⟩
    show a'.terms = (a'.terms.map (renT q)).map _
    rw [List.map_map]
    have key : ∀ t ∈ a'.terms, (app (fun x => (⟨inv x, zeroV⟩ : Tm)) ∘ renT q) t = id t := fun t ht => by
     show app _ (renT q t) = t
     unfold app
     rw [renT_var h]
     by_cases hn : noVar t = true
     · simp [hn, renT]
     · have hn' : noVar t = false := by simpa using hn
       simp only [hn', Bool.false_eq_true, if_false, renT]
       rw [hinv _ (term_seen ha' ht hn'), ← h.clean a' ha' t ht hn']
    rw [List.map_congr_left key, List.map_id]

/-- the query with one atom more -/
def moreQ (a : Qy) (x : Atm) : Qy := ⟨a.name, a.head, a.atoms ++ [x]⟩
theorem more_shaped {a b : Qy} {x : Atm} (ha : Shaped a) (hb : Shaped b) (hx : x ∈ b.atoms) (hl : a.atoms.length < 6) : Shaped (moreQ a x) := by
  refine ⟨ha.name, ha.head, fun y hy => ?_, by simp [moreQ], by simp only [moreQ, List.length_append, List.length_cons, List.length_nil]; omega, ha.nodup, fun y hy => ?_⟩
  · rcases List.mem_append.1 hy with hy | hy
    · exact ha.atoms y hy
    · obtain rfl := List.mem_singleton.1 hy
      exact hb.atoms y hx
  · obtain ⟨z, hz, h⟩ := ha.safe y hy
    exact ⟨z, List.mem_append_left _ hz, h⟩
theorem more_on {a : Qy} {x : Atm} (ha : Shaped a) : Lies a (moreQ a x) := Lies.sub ha.clean rfl fun _ h => List.mem_append_left _ h
end Go.Proofs.Ytpfjkjmimmklcaa

namespace Go.Proofs.Ytpfjkjmimmklcaa
open Go.RowKit

def iceV (vs : List ByteArray) (x : ByteArray) : V := ⟨3, firstI (eqB x) vs 0, .empty⟩
def iceT (vs : List ByteArray) (t : Tm) : V := if noVar t then t.c else iceV vs t.v
def iceR (vs : List ByteArray) (a : Atm) : List V := a.terms.map (iceT vs)
def hasR (rs : List (List V)) (r : List V) : Bool := rs.any fun s => sameR s r
def addR (rs : List (List V)) (r : List V) : List (List V) := if hasR rs r then rs else rs ++ [r]
def rowsOf (vs : List ByteArray) (as_ : List Atm) (rel : ByteArray) : List (List V) := (as_.filter fun a => decide (a.rel = rel)).foldl (fun rs a => addR rs (iceR vs a)) []
def relsOf (as_ : List Atm) : List ByteArray := (as_.map (·.rel)).foldl addV []
def frzT (vs : List ByteArray) (as_ : List Atm) : List Tbl := (relsOf as_).map fun rel => ⟨rel, rowsOf vs as_ rel⟩
def frzR (q : Qy) : List Tbl × List V × Int := if shapeQ q = 0 then (frzT (varsQ q) q.atoms, q.head.map (iceV (varsQ q)), 0) else ([], [], shapeQ q)

theorem relsOf_snoc (l : List Atm) (a : Atm) : relsOf (l ++ [a]) = addV (relsOf l) a.rel := by simp [relsOf]
theorem mem_rels {l : List Atm} {x : ByteArray} : x ∈ relsOf l ↔ ∃ a ∈ l, a.rel = x := by
  unfold relsOf
  rw [mem_seen]
  simp
theorem rowsOf_snoc (vs : List ByteArray) (l : List Atm) (a : Atm) (rel : ByteArray) : rowsOf vs (l ++ [a]) rel = if a.rel = rel then addR (rowsOf vs l rel) (iceR vs a) else rowsOf vs l rel := by
  unfold rowsOf
  by_cases h : a.rel = rel <;> simp [h]
theorem rowsOf_new {vs : List ByteArray} {l : List Atm} {x : ByteArray} (h : x ∉ relsOf l) : rowsOf vs l x = [] := by
  unfold rowsOf
  have : (l.filter fun a => decide (a.rel = x)) = [] := by
    rw [List.filter_eq_nil_iff]
    intro a ha he
    exact h (mem_rels.2 ⟨a, ha, of_decide_eq_true he⟩)
  rw [this]; rfl
theorem nodup_addV {l : List ByteArray} {x : ByteArray} (h : l.Nodup) : (addV l x).Nodup := by
  unfold addV
  split
  · exact h
  · rename_i hm
    rw [List.nodup_append]
    refine ⟨h, by simp, fun a ha b hb => ?_⟩
    obtain rfl := List.mem_singleton.1 hb
    rintro rfl
    exact hm (memB_iff.2 ha)
theorem nodup_fold : ∀ (xs l : List ByteArray), l.Nodup → (xs.foldl addV l).Nodup
  | [], _, h => h
  | _ :: xs, _, h => nodup_fold xs _ (nodup_addV h)
theorem rels_nodup (l : List Atm) : (relsOf l).Nodup := nodup_fold _ _ .nil
theorem map_set_at {α β : Type} {f f' : α → β} : ∀ {l : List α} {k : Nat} {x : α}, l.Nodup → l[k]? = some x → (∀ y, y ≠ x → f' y = f y) → l.map f' = (l.map f).set k (f' x)
  | [], k, x, _, h, _ => by simp at h
  | y :: l, 0, x, hn, h, hf => by
    obtain rfl : y = x := by simpa using h
    simp only [List.map_cons, List.set_cons_zero, List.cons.injEq, true_and]
    refine List.map_congr_left fun z hz => hf z fun e => ?_
    subst e
    exact (List.nodup_cons.1 hn).1 hz
  | y :: l, k + 1, x, hn, h, hf => by
    have hx : l[k]? = some x := by simpa using h
    simp only [List.map_cons, List.set_cons_succ, List.cons.injEq]
    refine ⟨hf y fun e => ?_, map_set_at (List.nodup_cons.1 hn).2 hx hf⟩
    subst e
    exact (List.nodup_cons.1 hn).1 (List.mem_of_getElem? hx)
/-- which table an atom's relation has -/
def relB (x : ByteArray) : Tbl → Bool := fun t => decide (t.rel = x)
theorem firstI_map {α β : Type} (p : β → Bool) (f : α → β) : ∀ (l : List α) (i : Nat), firstI p (l.map f) i = firstI (fun x => p (f x)) l i
  | [], _ => rfl
  | x :: l, i => by simp only [List.map_cons, firstI, firstI_map p f l]
theorem frz_at {vs : List ByteArray} {l : List Atm} {x : ByteArray} : firstI (relB x) (frzT vs l) 0 = firstI (eqB x) (relsOf l) 0 := firstI_map _ _ _ _
/-- an atom of a relation that is there -/
theorem frz_old {vs : List ByteArray} {l : List Atm} {a : Atm} (h : memB (relsOf l) a.rel = true) :
    ∃ k : Nat, firstI (relB a.rel) (frzT vs l) 0 = (k : Int) ∧ (frzT vs l)[k]? = some ⟨a.rel, rowsOf vs l a.rel⟩ ∧ frzT vs (l ++ [a]) = (frzT vs l).set k ⟨a.rel, addR (rowsOf vs l a.rel) (iceR vs a)⟩ := by
  obtain ⟨k, h1, h2⟩ := at_mem (memB_iff.1 h)
  refine ⟨k, by rw [frz_at, h1], by simp [frzT, h2], ?_⟩
  have e : relsOf (l ++ [a]) = relsOf l := by rw [relsOf_snoc]; exact if_pos h
  unfold frzT
  rw [e, map_set_at (f := fun rel => (⟨rel, rowsOf vs l rel⟩ : Tbl)) (rels_nodup l) h2 fun y hy => by rw [rowsOf_snoc, if_neg (Ne.symm hy)]]
  rw [rowsOf_snoc, if_pos rfl]
/-- an atom of a relation that is new -/
theorem frz_new {vs : List ByteArray} {l : List Atm} {a : Atm} (h : memB (relsOf l) a.rel = false) :
    firstI (relB a.rel) (frzT vs l) 0 = -1 ∧ frzT vs (l ++ [a]) = frzT vs l ++ [⟨a.rel, [iceR vs a]⟩] := by
  have hm : a.rel ∉ relsOf l := fun hx => by rw [memB_iff.2 hx] at h; cases h
  refine ⟨?_, ?_⟩
  · rw [frz_at]
    have h1 := (firstI_neg (eqB a.rel) (relsOf l) 0).2 h
    have h2 := firstI_le (eqB a.rel) (relsOf l) 0
    omega
  · have e : relsOf (l ++ [a]) = relsOf l ++ [a.rel] := by rw [relsOf_snoc]; exact if_neg (by rw [h]; decide)
    unfold frzT
    rw [e, List.map_append, List.map_cons, List.map_nil, rowsOf_snoc, if_pos rfl, rowsOf_new hm]
    congr 1
    refine List.map_congr_left fun y hy => ?_
    rw [rowsOf_snoc, if_neg (fun e : a.rel = y => hm (by rw [e]; exact hy))]
theorem frz_len (vs : List ByteArray) (l : List Atm) : (frzT vs l).length ≤ l.length := by
  unfold frzT relsOf
  have := seen_len (l.map (·.rel)) []
  simp at this ⊢
  exact this
theorem addR_len (rs : List (List V)) (r : List V) : (addR rs r).length ≤ rs.length + 1 := by
  unfold addR
  split
  · omega
  · simp
theorem rowsOf_len (vs : List ByteArray) (l : List Atm) (x : ByteArray) : (rowsOf vs l x).length ≤ l.length := by
  unfold rowsOf
  suffices h : ∀ (as_ : List Atm) (acc : List (List V)), (as_.foldl (fun rs a => addR rs (iceR vs a)) acc).length ≤ acc.length + as_.length by
    have := h (l.filter fun a => decide (a.rel = x)) []
    have h2 := List.length_filter_le (fun a : Atm => decide (a.rel = x)) l
    simp only [List.length_nil] at this
    omega
  intro as_
  induction as_ with
  | nil => intro acc; simp
  | cons a r ih =>
    intro acc
    have h1 := ih (addR acc (iceR vs a))
    have h2 := addR_len acc (iceR vs a)
    simp only [List.foldl_cons, List.length_cons]
    omega
/-- the document's: the tables of the first i atoms' relations, with all their rows -/
def refT (vs : List ByteArray) (as_ : List Atm) (i : Nat) : List Tbl := (relsOf (as_.take i)).map fun rel => ⟨rel, rowsOf vs as_ rel⟩
theorem refT_all (vs : List ByteArray) (as_ : List Atm) : refT vs as_ as_.length = frzT vs as_ := by simp [refT, frzT]
theorem refT_zero (vs : List ByteArray) (as_ : List Atm) : refT vs as_ 0 = [] := rfl
theorem refT_old {vs : List ByteArray} {as_ : List Atm} {i : Nat} {a : Atm} (h : as_[i]? = some a) (hm : memB (relsOf (as_.take i)) a.rel = true) : refT vs as_ (i + 1) = refT vs as_ i := by
  unfold refT
  rw [List.take_add_one, h, Option.toList_some, relsOf_snoc]
  unfold addV
  rw [if_pos hm]
theorem refT_new {vs : List ByteArray} {as_ : List Atm} {i : Nat} {a : Atm} (h : as_[i]? = some a) (hm : memB (relsOf (as_.take i)) a.rel = false) : refT vs as_ (i + 1) = refT vs as_ i ++ [⟨a.rel, rowsOf vs as_ a.rel⟩] := by
  unfold refT
  rw [List.take_add_one, h, Option.toList_some, relsOf_snoc]
  unfold addV
  rw [if_neg (by rw [hm]; decide), List.map_append]; rfl
theorem rows_skip {vs : List ByteArray} {as_ : List Atm} {j : Nat} {b : Atm} {x : ByteArray} (h : as_[j]? = some b) (hr : b.rel ≠ x) : rowsOf vs (as_.take (j + 1)) x = rowsOf vs (as_.take j) x := by
  rw [List.take_add_one, h, Option.toList_some, rowsOf_snoc, if_neg hr]
theorem rows_add {vs : List ByteArray} {as_ : List Atm} {j : Nat} {b : Atm} {x : ByteArray} (h : as_[j]? = some b) (hr : b.rel = x) : rowsOf vs (as_.take (j + 1)) x = addR (rowsOf vs (as_.take j) x) (iceR vs b) := by
  rw [List.take_add_one, h, Option.toList_some, rowsOf_snoc, if_pos hr]
theorem refT_len (vs : List ByteArray) (as_ : List Atm) (i : Nat) : (refT vs as_ i).length ≤ i := by
  unfold refT relsOf
  have := seen_len ((as_.take i).map (·.rel)) []
  simp at this ⊢
  omega
/-- has an atom ahead this relation? step by step -/
def knownB (as_ : List Atm) (x : ByteArray) (j : Nat) : Bool := memB (relsOf (as_.take j)) x
theorem known_step {as_ : List Atm} {x : ByteArray} {j : Nat} {b : Atm} (h : as_[j]? = some b) : knownB as_ x (j + 1) = (knownB as_ x j || decide (b.rel = x)) := by
  unfold knownB
  rw [Bool.eq_iff_iff, Bool.or_eq_true, memB_iff, memB_iff, decide_eq_true_iff, mem_rels, mem_rels, List.take_add_one, h, Option.toList_some]
  constructor
  · rintro ⟨a, ha, e⟩
    rcases List.mem_append.1 ha with ha | ha
    · exact .inl ⟨a, ha, e⟩
    · obtain rfl := List.mem_singleton.1 ha
      exact .inr e
  · rintro (⟨a, ha, e⟩ | e)
    · exact ⟨a, List.mem_append_left _ ha, e⟩
    · exact ⟨b, List.mem_append_right _ (List.mem_singleton.2 rfl), e⟩
def sameTb : List Tbl → List Tbl → Bool
  | [], [] => true
  | [], _ :: _ => false
  | _ :: _, [] => false
  | a :: l, b :: m => (decide (a.rel = b.rel) && sameRs a.rows b.rows) && sameTb l m
theorem sameTb_iff : ∀ {r s : List Tbl}, sameTb r s = true ↔ r = s
  | [], [] => by simp [sameTb]
  | [], _ :: _ => by simp [sameTb]
  | _ :: _, [] => by simp [sameTb]
  | ⟨x, a⟩ :: r, ⟨y, b⟩ :: s => by simp [sameTb, sameRs_iff, sameTb_iff]
theorem sameTb_len {r s : List Tbl} (h : r.length ≠ s.length) : sameTb r s = false := by
  cases he : sameTb r s with
  | false => rfl
  | true => exact absurd (congrArg List.length (sameTb_iff.1 he)) h
theorem sameTb_drop (r s : List Tbl) (k : Nat) (a b : Tbl) (ha : r[k]? = some a) (hb : s[k]? = some b) : sameTb (r.drop k) (s.drop k) = ((decide (a.rel = b.rel) && sameRs a.rows b.rows) && sameTb (r.drop (k + 1)) (s.drop (k + 1))) := by
  rw [List.getElem?_eq_some_iff] at ha hb
  obtain ⟨ha, ea⟩ := ha
  obtain ⟨hb, eb⟩ := hb
  rw [List.drop_eq_getElem_cons ha, List.drop_eq_getElem_cons hb, ea, eb]; rfl
end Go.Proofs.Ytpfjkjmimmklcaa

namespace Go.Proofs.Ytpfjkjmimmklcaa
open Go.RowKit

def RB : World → List Value → Tbl → Prop := fun w cs t => ∃ A n c, cs = [.string t.rel, .slice A n c] ∧ LAt RRow 1 w A n t.rows
theorem RB.stab : Stab RB := fun _ _ _ _ hw ⟨A, n, c, h1, h2⟩ => ⟨A, n, c, h1, h2.ext RRow.stab hw⟩
def VB : World → Value → Tbl → Prop := fun w v t => ∃ A n c, v = .agg #[.string t.rel, .slice A n c] ∧ LAt RRow 1 w A n t.rows
theorem VB.ext {w w' : World} {v : Value} {t : Tbl} (h : VB w v t) (hw : Ext w w') : VB w' v t := by
  obtain ⟨A, n, c, h1, h2⟩ := h
  exact ⟨A, n, c, h1, h2.ext RRow.stab hw⟩
theorem LAt.tab_ {w : World} {A : Option Addr} {n : Nat} {xs : List Tbl} (h : LAt RB 2 w A n xs) {i : Nat} (hi : i < n) :
    ∃ b off t A9 n9 c9, A = some ⟨b, off, none⟩ ∧ xs[i]? = some t ∧ b < w.heap.size ∧ w.cell? ⟨b, off + i * 2, none⟩ = some (.string t.rel) ∧ w.cell? ⟨b, off + i * 2 + 1, none⟩ = some (.slice A9 n9 c9) ∧ LAt RRow 1 w A9 n9 t.rows := by
  obtain ⟨b, off, r, cs, hA, hx, hb1, _, _, ⟨A9, n9, c9, rfl, hR⟩, hcell⟩ := h.get (by omega) hi
  exact ⟨b, off, r, A9, n9, c9, hA, hx, hb1, hcell 0 (by omega), hcell 1 (by omega), hR⟩

set_option maxRecDepth 100000 in
theorem place_any (xs : List (List V)) (r : List V) (A B : Option Addr) (n m c d : Nat) (w : World) (ha : LAt RRow 1 w A n xs) (hb : RowAt w B m r) (hn : n ≤ 140737488355328) (hr : ∀ s ∈ xs, s.length ≤ 140737488355328) :
    Calls Try.prog 49 #[.slice A n c, .slice B m d] w fun e w' => e = .returned (.int .i64 (firstI (fun s => sameR s r) xs 0)) ∧ Ext w w' := by
  have Ha := hide ha; have Hb := hide hb; have Hr := hide hr; clear ha hb hr
  go_enter Try.func49, Try.ntmps49
  go_wp2
  go_loopw [4, 5] (fun _ k w' => ∃ i : Nat, i ≤ n ∧ k = .int .i64 i ∧ Hid (firstI (fun s => sameR s r) xs 0 = firstI (fun s => sameR s r) (xs.drop i) i) ∧ Hid (Ext w w')) (fun _ k _ => n - (intOf k).toNat)
  case atStart => exact ⟨0, by omega, rfl, rfl, Ext.refl _⟩
  case round =>
    obtain ⟨i, hin, rfl, ho, hw⟩ := hrel
    by_cases h : i < n
    · obtain ⟨b, off, x, A1, n1, c1, rfl, hx, hb1, d0, hR1⟩ := (Ha.out.ext RRow.stab hw.out).row_ h
      have hd := hide (firstI_drop (fun s => sameR s r) xs i x hx)
      have hxl : n1 ≤ 140737488355328 := by have := Hr.out x (List.mem_of_getElem? hx); have := hR1.len; omega
      have HS := hide (same_any x r A1 B n1 m c1 d wr hR1 (Hb.out.ext hw.out) hxl)
      clear hx hR1 hb1
      go_wp2_with fail
      refine HS.out.mono ?_
      rintro e w1 ⟨rfl, h1⟩
      have E1 := hide (hw.out.trans h1); clear h1 d0
      cases hv : sameR x r with
      | true =>
        have Hv := hide hv; clear hv
        go_wp2_with fail
        go_ret
        exact ⟨ret_int (by rw [ho.out, hd.out]; simp [Hv.out]), E1.out⟩
      | false =>
        have Hv := hide hv; clear hv
        go_wp2_with fail
        go_roundw
        case rel => exact ⟨i + 1, by omega, by go_num, by rw [Hid, ho.out, hd.out]; simp [Hv.out], E1.out⟩
        case measure => simp [intOf]; omega
    · go_wp2_with fail
      go_ret
      exact ⟨ret_int (by rw [ho.out, List.drop_of_length_le (by have := Ha.out.len; omega)]; rfl), hw.out⟩

theorem has_any (xs : List (List V)) (r : List V) (A B : Option Addr) (n m c d : Nat) (w : World) (ha : LAt RRow 1 w A n xs) (hb : RowAt w B m r) (hn : n ≤ 140737488355328) (hr : ∀ s ∈ xs, s.length ≤ 140737488355328) :
    Calls Try.prog 26 #[.slice A n c, .slice B m d] w fun e w' => e = .returned (.bool (hasR xs r)) ∧ Ext w w' := by
  have H := hide (place_any xs r A B n m c d w ha hb hn hr); clear ha hb hr
  go_enter Try.func26, Try.ntmps26
  go_wp2_with fail
  refine H.out.mono ?_
  rintro e w1 ⟨rfl, h1⟩
  have E1 := hide h1; clear h1
  go_wp2_with fail
  go_ret
  exact ⟨ret_bool (firstI_any (fun s => sameR s r) xs 0), E1.out⟩
end Go.Proofs.Ytpfjkjmimmklcaa
