/-
  Lists in memory whose elements may hold slices of their own.
-/
import Derived.Test.YthjpcnceppmnmaaBase
namespace Go.Proofs.Ythjpcnceppmnmaa
open Go.RowKit

/-- the cells of a list's elements, one behind the other: s cells each -/
inductive Els {α : Type} (R : World → List Value → α → Prop) (s : Nat) (w : World) : List Value → List α → Prop
  | nil : Els R s w [] []
  | cons {cs : List Value} {x : α} {cells : List Value} {xs : List α} : cs.length = s → OneCells cs → R w cs x → Els R s w cells xs → Els R s w (cs ++ cells) (x :: xs)

/-- what an element reads as stays while nothing that was there is turned -/
def Stab {α : Type} (R : World → List Value → α → Prop) : Prop := ∀ w w' cs x, Ext w w' → R w cs x → R w' cs x

section
variable {α : Type} {R : World → List Value → α → Prop} {s : Nat} {w w' : World}

theorem Els.len {cells : List Value} {xs : List α} (h : Els R s w cells xs) : cells.length = xs.length * s := by
  induction h with
  | nil => simp
  | cons h1 _ _ _ ih => simp only [List.length_append, List.length_cons, h1, ih, Nat.add_mul]; omega
theorem Els.one {cells : List Value} {xs : List α} (h : Els R s w cells xs) : OneCells cells := by
  induction h with
  | nil => intro v hv; cases hv
  | cons _ h2 _ _ ih =>
    intro v hv
    rcases List.mem_append.1 hv with h | h
    · exact h2 v h
    · exact ih v h
theorem Els.ext {cells : List Value} {xs : List α} (h : Els R s w cells xs) (hR : Stab R) (hw : Ext w w') : Els R s w' cells xs := by
  induction h with
  | nil => exact .nil
  | cons h1 h2 h3 _ ih => exact .cons h1 h2 (hR _ _ _ _ hw h3) ih
theorem Els.mono {R' : World → List Value → α → Prop} {cells : List Value} {xs : List α} (h : Els R s w cells xs) (hR : ∀ cs x, R w cs x → R' w' cs x) : Els R' s w' cells xs := by
  induction h with
  | nil => exact .nil
  | cons h1 h2 h3 _ ih => exact .cons h1 h2 (hR _ _ h3) ih
theorem Els.append {cells cells' : List Value} {xs xs' : List α} (h : Els R s w cells xs) (h' : Els R s w cells' xs') : Els R s w (cells ++ cells') (xs ++ xs') := by
  induction h with
  | nil => exact h'
  | cons h1 h2 h3 _ ih => rw [List.append_assoc, List.cons_append]; exact .cons h1 h2 h3 ih
theorem Els.single {cs : List Value} {x : α} (h1 : cs.length = s) (h2 : OneCells cs) (h3 : R w cs x) : Els R s w cs [x] := by
  have := Els.cons h1 h2 h3 (Els.nil (R := R) (s := s) (w := w))
  rwa [List.append_nil] at this
theorem Els.snoc {cells cs : List Value} {xs : List α} {x : α} (h : Els R s w cells xs) (h1 : cs.length = s) (h2 : OneCells cs) (h3 : R w cs x) : Els R s w (cells ++ cs) (xs ++ [x]) :=
  h.append (.single h1 h2 h3)
theorem Els.get {cells : List Value} {xs : List α} (h : Els R s w cells xs) : ∀ {i : Nat} {x : α}, xs[i]? = some x → ∃ cs : List Value, cs.length = s ∧ OneCells cs ∧ R w cs x ∧ ∀ j, j < s → cells[i * s + j]? = cs[j]? := by
  induction h with
  | nil => intro i x h; simp at h
  | @cons cs y cells xs h1 h2 h3 _ ih =>
    intro i x hx
    cases i with
    | zero =>
      obtain rfl : y = x := by simpa using hx
      exact ⟨cs, h1, h2, h3, fun j hj => by rw [Nat.zero_mul, Nat.zero_add, List.getElem?_append_left (by omega)]⟩
    | succ i =>
      obtain ⟨cs', e1, e2, e3, e4⟩ := ih (by simpa using hx)
      refine ⟨cs', e1, e2, e3, fun j hj => ?_⟩
      rw [List.getElem?_append_right (by rw [h1, Nat.add_mul]; omega), h1, ← e4 j hj]
      congr 1
      rw [Nat.add_mul]; omega
theorem Els.drop {cells : List Value} {xs : List α} (h : Els R s w cells xs) : ∀ k, Els R s w (cells.drop (k * s)) (xs.drop k) := by
  induction h with
  | nil => intro k; simpa using Els.nil
  | @cons cs y cells xs h1 h2 h3 h4 ih =>
    intro k
    cases k with
    | zero => simpa using Els.cons h1 h2 h3 h4
    | succ k =>
      have e : (cs ++ cells).drop ((k + 1) * s) = cells.drop (k * s) := by
        rw [List.drop_append, h1, List.drop_of_length_le (by rw [h1, Nat.add_mul]; omega), List.nil_append]
        congr 1
        rw [Nat.add_mul]; omega
      rw [e]
      exact ih k
theorem Els.take {cells : List Value} {xs : List α} (h : Els R s w cells xs) : ∀ k, Els R s w (cells.take (k * s)) (xs.take k) := by
  induction h with
  | nil => intro k; simpa using Els.nil
  | @cons cs y cells xs h1 h2 h3 h4 ih =>
    intro k
    cases k with
    | zero => simpa using Els.nil
    | succ k =>
      have e : (cs ++ cells).take ((k + 1) * s) = cs ++ cells.take (k * s) := by
        rw [List.take_append, h1, List.take_of_length_le (by rw [h1, Nat.add_mul]; omega)]
        congr 2
        rw [Nat.add_mul]; omega
      rw [e]
      exact .cons h1 h2 h3 (ih k)

/-- n elements lie at A: the list xs -/
def LAt (R : World → List Value → α → Prop) (s : Nat) (w : World) (A : Option Addr) (n : Nat) (xs : List α) : Prop := n = xs.length ∧ ∃ cells, Els R s w cells xs ∧ Sl w A n s cells
theorem LAt.len {A : Option Addr} {n : Nat} {xs : List α} (h : LAt R s w A n xs) : n = xs.length := h.1
theorem LAt.ext {A : Option Addr} {n : Nat} {xs : List α} (h : LAt R s w A n xs) (hR : Stab R) (hw : Ext w w') : LAt R s w' A n xs := by
  obtain ⟨h1, cells, h2, h3⟩ := h
  exact ⟨h1, cells, h2.ext hR hw, h3.ext hw⟩
theorem LAt.nil (A : Option Addr) : LAt R s w A 0 [] := ⟨rfl, [], .nil, Sl.nil _ _ _⟩
theorem LAt.get (hs : 0 < s) {A : Option Addr} {n : Nat} {xs : List α} (h : LAt R s w A n xs) {i : Nat} (hi : i < n) : ∃ b off x cs, A = some ⟨b, off, none⟩ ∧ xs[i]? = some x ∧ b < w.heap.size ∧ cs.length = s ∧ OneCells cs ∧ R w cs x ∧
    ∀ j, j < s → w.cell? ⟨b, off + i * s + j, none⟩ = cs[j]? := by
  obtain ⟨h1, cells, h2, h3⟩ := h
  obtain ⟨b, off, hA, hc⟩ := h3.2 (by omega)
  have hl : i < xs.length := by omega
  have hg : xs[i]? = some xs[i] := List.getElem?_eq_getElem hl
  obtain ⟨cs, e1, e2, e3, e4⟩ := h2.get hg
  have hcell : ∀ j, j < s → w.cell? ⟨b, off + i * s + j, none⟩ = cs[j]? := fun j hj => by
    have hj' : j < cs.length := by omega
    have h5 : cs[j]? = some cs[j] := List.getElem?_eq_getElem hj'
    rw [h5, Nat.add_assoc]
    exact hc _ _ ((e4 j hj).trans h5)
  have h0 := hcell 0 hs
  have h5 : cs[0]? = some cs[0] := List.getElem?_eq_getElem (by omega)
  exact ⟨b, off, xs[i], cs, hA, hg, World.block_lt_of_cell? w _ (h0.trans h5), e1, e2, e3, hcell⟩
theorem LAt.own {base : Nat} {e : TypeId} {n c : Nat} {A : Option Addr} {xs : List α} {cells : List Value} (hl : n = xs.length) (he : Els R s w cells xs) (h : w.ownsRow base e s (.slice A n c) n cells) : LAt R s w A n xs :=
  ⟨hl, cells, he, Sl.own h⟩
theorem LAt.sl {A : Option Addr} {n : Nat} {xs : List α} (h : LAt R s w A n xs) : ∃ cells, Els R s w cells xs ∧ Sl w A n s cells := h.2
/-- a part of it: the elements from k on -/
theorem LAt.drop {b off n : Nat} {xs : List α} (h : LAt R s w (some ⟨b, off, none⟩) n xs) (k : Nat) (_hk : k ≤ n) : LAt R s w (some ⟨b, off + k * s, none⟩) (n - k) (xs.drop k) := by
  obtain ⟨h1, cells, h2, h3⟩ := h
  refine ⟨by simp; omega, cells.drop (k * s), h2.drop k, by rw [List.length_drop, h3.1, Nat.sub_mul], fun hn => ?_⟩
  obtain ⟨b', off', hA, hc⟩ := h3.2 (by omega)
  injection hA with hA
  injection hA with hb ho
  subst hb; subst ho
  refine ⟨b, off + k * s, rfl, fun j u hu => ?_⟩
  rw [List.getElem?_drop] at hu
  have := hc _ _ hu
  rwa [← Nat.add_assoc] at this
/-- the first k elements -/
theorem LAt.take {A : Option Addr} {n : Nat} {xs : List α} (h : LAt R s w A n xs) (k : Nat) (hk : k ≤ n) : LAt R s w A k (xs.take k) := by
  obtain ⟨h1, cells, h2, h3⟩ := h
  have hle : k * s ≤ n * s := Nat.mul_le_mul_right s hk
  refine ⟨by simp; omega, cells.take (k * s), h2.take k, by rw [List.length_take, h3.1]; omega, fun hn => ?_⟩
  obtain ⟨b, off, hA, hc⟩ := h3.2 (by omega)
  refine ⟨b, off, hA, fun j u hu => ?_⟩
  rw [List.getElem?_take] at hu
  split at hu
  · exact hc _ _ hu
  · cases hu
theorem LAt.mono {R' : World → List Value → α → Prop} {A : Option Addr} {n : Nat} {xs : List α} (h : LAt R s w A n xs) (hw : Ext w w') (hR : ∀ cs x, R w cs x → R' w' cs x) : LAt R' s w' A n xs := by
  obtain ⟨h1, cells, h2, h3⟩ := h
  exact ⟨h1, cells, h2.mono hR, h3.ext hw⟩
end

theorem lat_mk {α : Type} {R : World → List Value → α → Prop} {s : Nat} {w : World} {b : Nat} : ∀ (xs : List α) (off : Nat),
    (∀ (i : Nat) (y : α), xs[i]? = some y → ∃ cs : List Value, cs.length = s ∧ OneCells cs ∧ R w cs y ∧ ∀ j, j < s → w.cell? ⟨b, off + i * s + j, none⟩ = cs[j]?) →
    ∃ cells, Els R s w cells xs ∧ ∀ (j : Nat) (u : Value), cells[j]? = some u → w.cell? ⟨b, off + j, none⟩ = some u
  | [], off, _ => ⟨[], .nil, fun j u h => by simp at h⟩
  | x :: xs, off, h => by
    obtain ⟨cs, h1, h2, h3, h4⟩ := h 0 x rfl
    obtain ⟨cells, e1, e2⟩ := lat_mk xs (off + s) (fun i y hy => by
      obtain ⟨cs, h1, h2, h3, h4⟩ := h (i + 1) y (by simpa using hy)
      refine ⟨cs, h1, h2, h3, fun j hj => ?_⟩
      rw [← h4 j hj]
      congr 2
      rw [Nat.add_mul]; omega)
    refine ⟨cs ++ cells, .cons h1 h2 h3 e1, fun j u hu => ?_⟩
    rcases Nat.lt_or_ge j s with hj | hj
    · rw [List.getElem?_append_left (by omega)] at hu
      have := h4 j hj
      rw [Nat.zero_mul, Nat.add_zero] at this
      rw [this]; exact hu
    · rw [List.getElem?_append_right (by omega), h1] at hu
      have := e2 _ _ hu
      rw [← this]
      congr 2
      omega

/-- elements that are written out by their own cells -/
def RFlat {α : Type} (f : α → List Value) : World → List Value → α → Prop := fun _ cs x => cs = f x
theorem RFlat.stab {α : Type} (f : α → List Value) : Stab (RFlat f) := fun _ _ _ _ _ h => h
theorem Els.flat {α : Type} {f : α → List Value} {s : Nat} {w : World} (h1 : ∀ x, (f x).length = s) (h2 : ∀ x, OneCells (f x)) : ∀ xs : List α, Els (RFlat f) s w (xs.flatMap f) xs
  | [] => .nil
  | x :: xs => .cons (h1 x) (h2 x) rfl (Els.flat h1 h2 xs)
theorem Els.flat_eq {α : Type} {f : α → List Value} {s : Nat} {w : World} {cells : List Value} {xs : List α} (h : Els (RFlat f) s w cells xs) : cells = xs.flatMap f := by
  induction h with
  | nil => rfl
  | cons _ _ h3 _ ih => rw [List.flatMap_cons, ih, h3]

/-- texts -/
def RS : World → List Value → ByteArray → Prop := RFlat fun t => [.string t]
theorem RS.stab : Stab RS := RFlat.stab _
/-- numbers -/
def RI : World → List Value → Int → Prop := RFlat fun x => [.int .i64 x]
theorem RI.stab : Stab RI := RFlat.stab _
/-- rows -/
def RRow : World → List Value → List V → Prop := fun w cs r => ∃ A n c, cs = [.slice A n c] ∧ RowAt w A n r
theorem RRow.stab : Stab RRow := fun _ _ _ _ hw ⟨A, n, c, h1, h2⟩ => ⟨A, n, c, h1, h2.ext hw⟩

/-- a term: a variable's name (or none), a constant -/
structure Tm where
  v : ByteArray
  c : V
def Tm.cells (t : Tm) : List Value := [.string t.v, .int .i64 t.c.k, .int .i64 t.c.i, .string t.c.t]
def Tm.val (t : Tm) : Value := .agg #[.string t.v, .int .i64 t.c.k, .int .i64 t.c.i, .string t.c.t]
def RT : World → List Value → Tm → Prop := RFlat Tm.cells
theorem RT.stab : Stab RT := RFlat.stab _
theorem tm_len (t : Tm) : t.cells.length = 4 := rfl
theorem tm_one (t : Tm) : OneCells t.cells := fun v h => by
  simp only [Tm.cells, List.mem_cons, List.not_mem_nil, or_false] at h
  rcases h with rfl | rfl | rfl | rfl <;> rfl

/-- an atom: a relation's name, terms -/
structure Atm where
  rel : ByteArray
  terms : List Tm
def RA : World → List Value → Atm → Prop := fun w cs a => ∃ A n c, cs = [.string a.rel, .slice A n c] ∧ LAt RT 4 w A n a.terms
theorem RA.stab : Stab RA := fun _ _ _ _ hw ⟨A, n, c, h1, h2⟩ => ⟨A, n, c, h1, h2.ext RT.stab hw⟩

/-- a query -/
structure Qy where
  name : ByteArray
  head : List ByteArray
  atoms : List Atm
/-- where a query's lists lie -/
structure QLoc where
  A : Option Addr
  n : Nat
  c : Nat
  B : Option Addr
  m : Nat
  d : Nat
def qval (nm : ByteArray) (L : QLoc) : Value := .agg #[.string nm, .slice L.A L.n L.c, .slice L.B L.m L.d]
structure QAt (w : World) (L : QLoc) (q : Qy) : Prop where
  head : LAt RS 1 w L.A L.n q.head
  atoms : LAt RA 2 w L.B L.m q.atoms
  cap : L.n ≤ L.c
theorem QAt.ext {w w' : World} {L : QLoc} {q : Qy} (h : QAt w L q) (hw : Ext w w') : QAt w' L q := ⟨h.head.ext RS.stab hw, h.atoms.ext RA.stab hw, h.cap⟩

def wfV (v : V) : Prop := (-9223372036854775808 ≤ v.k ∧ v.k ≤ 9223372036854775807) ∧ (-9223372036854775808 ≤ v.i ∧ v.i ≤ 9223372036854775807)
/-- nothing in it is great -/
structure smallA (M : Nat) (a : Atm) : Prop where
  rel : a.rel.size ≤ M
  len : a.terms.length ≤ M
  terms : ∀ t ∈ a.terms, t.v.size ≤ M ∧ t.c.t.size ≤ M ∧ wfV t.c
theorem smallA.mono {M M' : Nat} {a : Atm} (h : smallA M a) (hM : M ≤ M') : smallA M' a :=
  ⟨Nat.le_trans h.rel hM, Nat.le_trans h.len hM, fun t ht => ⟨Nat.le_trans (h.terms t ht).1 hM, Nat.le_trans (h.terms t ht).2.1 hM, (h.terms t ht).2.2⟩⟩
structure smallM (M : Nat) (q : Qy) : Prop where
  name : q.name.size ≤ M
  headL : q.head.length ≤ M
  heads : ∀ h ∈ q.head, h.size ≤ M
  atomsL : q.atoms.length ≤ M
  atoms : ∀ a ∈ q.atoms, smallA M a
end Go.Proofs.Ythjpcnceppmnmaa
