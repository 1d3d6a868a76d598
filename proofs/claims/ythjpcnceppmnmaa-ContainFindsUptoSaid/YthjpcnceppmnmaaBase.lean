/-
  Values and rows as plain data, and how they lie in memory.
-/
import Derived.Test.YthjpcnceppmnmaaProg
import Derived.Test.YthjpcnceppmnmaaMem
import Derived.WalkKit
import Derived.Lib.Bytealg
import Derived.WalkLawsBesides
import Derived.WalkSpells
import Derived.OwnWalk
import Derived.Outline
namespace Go.Proofs.Ythjpcnceppmnmaa
open Go.RowKit

theorem hide {p : Prop} (h : p) : Hid p := h

/-- a value: its kind, its number, its text -/
structure V where
  k : Int
  i : Int
  t : ByteArray
def V.val (v : V) : Value := .agg #[.int .i64 v.k, .int .i64 v.i, .string v.t]

def V.cells (v : V) : List Value := [.int .i64 v.k, .int .i64 v.i, .string v.t]
def cellsR : List V → List Value
  | [] => []
  | v :: r => v.cells ++ cellsR r
theorem cellsR_len : ∀ r : List V, (cellsR r).length = r.length * 3
  | [] => rfl
  | v :: r => by simp only [cellsR, List.length_append, cellsR_len r, V.cells, List.length_cons, List.length_nil]; omega
theorem cellsR_get : ∀ (r : List V) (i : Nat) (v : V) (j : Nat), r[i]? = some v → j < 3 → (cellsR r)[i * 3 + j]? = v.cells[j]?
  | [], i, v, j, h, _ => by simp at h
  | x :: r, 0, v, j, h, hj => by
    obtain rfl : x = v := by simpa using h
    simp only [cellsR, Nat.zero_mul, Nat.zero_add]
    rw [List.getElem?_append_left (by simp [V.cells]; omega)]
  | x :: r, i + 1, v, j, h, hj => by
    simp only [cellsR]
    rw [List.getElem?_append_right (by simp [V.cells]; omega)]
    rw [show (i + 1) * 3 + j - x.cells.length = i * 3 + j by simp [V.cells]; omega]
    exact cellsR_get r i v j (by simpa using h) hj
theorem cellsR_one : ∀ r : List V, OneCells (cellsR r)
  | [] => fun v h => by simp [cellsR] at h
  | x :: r => fun v h => by
    simp only [cellsR, V.cells, List.cons_append, List.nil_append, List.mem_cons] at h
    rcases h with rfl | rfl | rfl | h
    · rfl
    · rfl
    · rfl
    · exact cellsR_one r v h
theorem cellsR_append : ∀ r s : List V, cellsR (r ++ s) = cellsR r ++ cellsR s
  | [], _ => rfl
  | x :: r, s => by simp [cellsR, cellsR_append r s]

/-- n values lie at A: the row r -/
def RowAt (w : World) (A : Option Addr) (n : Nat) (r : List V) : Prop := n = r.length ∧ Sl w A n 3 (cellsR r)
theorem RowAt.len {w : World} {A : Option Addr} {n : Nat} {r : List V} (h : RowAt w A n r) : n = r.length := h.1
theorem RowAt.ext {w w' : World} {A : Option Addr} {n : Nat} {r : List V} (h : RowAt w A n r) (hw : Ext w w') : RowAt w' A n r := ⟨h.1, h.2.ext hw⟩
theorem RowAt.get {w : World} {A : Option Addr} {n : Nat} {r : List V} (h : RowAt w A n r) {i : Nat} (hi : i < n) : ∃ b off v, A = some ⟨b, off, none⟩ ∧ r[i]? = some v ∧ b < w.heap.size ∧
    w.cell? ⟨b, off + i * 3, none⟩ = some (.int .i64 v.k) ∧ w.cell? ⟨b, off + i * 3 + 1, none⟩ = some (.int .i64 v.i) ∧ w.cell? ⟨b, off + i * 3 + 2, none⟩ = some (.string v.t) := by
  obtain ⟨b, off, hA, hc⟩ := h.2.2 (by omega)
  have hl : i < r.length := by have := h.1; omega
  have hg : r[i]? = some r[i] := List.getElem?_eq_getElem hl
  have h0 := hc (i * 3) (.int .i64 r[i].k) (by have := cellsR_get r i _ 0 hg (by omega); simpa [V.cells] using this)
  have h1 := hc (i * 3 + 1) (.int .i64 r[i].i) (by have := cellsR_get r i _ 1 hg (by omega); simpa [V.cells] using this)
  have h2 := hc (i * 3 + 2) (.string r[i].t) (by have := cellsR_get r i _ 2 hg (by omega); simpa [V.cells] using this)
  exact ⟨b, off, r[i], hA, hg, World.block_lt_of_cell? w _ h0, h0, by rw [Nat.add_assoc]; exact h1, by rw [Nat.add_assoc]; exact h2⟩
theorem RowAt.nil (w : World) (A : Option Addr) : RowAt w A 0 [] := ⟨rfl, Sl.nil _ _ _⟩
theorem RowAt.own {w : World} {base : Nat} {e : TypeId} {n c : Nat} {A : Option Addr} {r : List V} (h : w.ownsRow base e 3 (.slice A n c) n (cellsR r)) : RowAt w A n r := by
  have hs := Sl.own h
  refine ⟨?_, hs⟩
  have := hs.1
  rw [cellsR_len] at this
  omega

def sameV (a b : V) : Bool := a.k == b.k && (a.i == b.i && decide (a.t = b.t))
def sameR : List V → List V → Bool
  | [], [] => true
  | [], _ :: _ => false
  | _ :: _, [] => false
  | a :: l, b :: m => sameV a b && sameR l m
theorem sameV_iff {a b : V} : sameV a b = true ↔ a = b := by
  obtain ⟨k, i, t⟩ := a
  obtain ⟨k', i', t'⟩ := b
  simp [sameV]
theorem sameR_iff : ∀ {r s : List V}, sameR r s = true ↔ r = s
  | [], [] => by simp [sameR]
  | [], _ :: _ => by simp [sameR]
  | _ :: _, [] => by simp [sameR]
  | a :: r, b :: s => by simp [sameR, sameV_iff, sameR_iff]
theorem sameR_len {r s : List V} (h : r.length ≠ s.length) : sameR r s = false := by
  cases he : sameR r s with
  | false => rfl
  | true => exact absurd (congrArg List.length (sameR_iff.1 he)) h
theorem sameR_drop (r s : List V) (k : Nat) (a b : V) (ha : r[k]? = some a) (hb : s[k]? = some b) : sameR (r.drop k) (s.drop k) = (sameV a b && sameR (r.drop (k + 1)) (s.drop (k + 1))) := by
  rw [List.getElem?_eq_some_iff] at ha hb
  obtain ⟨ha, ea⟩ := ha
  obtain ⟨hb, eb⟩ := hb
  rw [List.drop_eq_getElem_cons ha, List.drop_eq_getElem_cons hb, ea, eb]; rfl

/-- the numbers are numbers of 64 bits -/
def wfR (r : List V) : Prop := ∀ v ∈ r, (-9223372036854775808 ≤ v.k ∧ v.k ≤ 9223372036854775807) ∧ (-9223372036854775808 ≤ v.i ∧ v.i ≤ 9223372036854775807)

def cmpI (a b : Int) : Int := if a < b then -1 else if b < a then 1 else 0
def cmpB (a b : ByteArray) : Int := Lib.compareBytes a.data.toList b.data.toList
def orI : List Int → Int
  | [] => 0
  | x :: l => if x = 0 then orI l else x
def cmpV (a b : V) : Int := orI [cmpI a.k b.k, cmpI a.i b.i, cmpB a.t b.t]
def cmpR : List V → List V → Int
  | [], [] => 0
  | [], _ :: _ => -1
  | _ :: _, [] => 1
  | a :: l, b :: m => if cmpV a b = 0 then cmpR l m else cmpV a b

/-- the cells cs lie at the head of block b -/
def CellsAt (w : World) (b : Nat) (cs : List Value) : Prop := ∀ (i : Nat) (u : Value), cs[i]? = some u → w.cell? ⟨b, i, none⟩ = some u
theorem CellsAt.new (w : World) (cs : List Value) (t : TypeId) (fr : Nat × Nat) : CellsAt (w.alloc (.cells cs.toArray t fr)) w.heap.size cs := fun i u h => by
  rw [cell_of_row _ _ i cs.toArray t fr (heap_alloc_new w _)]
  simpa using h
theorem CellsAt.ext {w w' : World} {b : Nat} {cs : List Value} (h : CellsAt w b cs) (hw : Ext w w') : CellsAt w' b cs := fun i u hu => hw.cell (h i u hu)

theorem RowAt.lit (w : World) (r : List V) (t : TypeId) : RowAt (w.alloc (.cells (cellsR r).toArray t)) (some ⟨w.heap.size, 0, none⟩) r.length r :=
  ⟨rfl, cellsR_len r, fun _ => ⟨w.heap.size, 0, rfl, fun j u hu => by rw [Nat.zero_add]; exact CellsAt.new w (cellsR r) t (0, 0) j u hu⟩⟩

theorem cell_ext {w0 : World} {p : Addr} {v : Value} (h : w0.cell? p = some v) : ∀ w, Ext w0 w → w.cell? p = some v := fun _ hw => hw.cell h
theorem sameCall {P : Program} {f : FuncId} {args : Array Value} {w : World} {v : Value} (h : Calls P f args w fun e w' => e = .returned v ∧ w = w') : Calls P f args w fun e w'' => e = .returned v ∧ Ext w w'' :=
  h.mono fun _ _ ⟨he, hw⟩ => ⟨he, hw ▸ Ext.refl _⟩
theorem knownCall {P : Program} {f : FuncId} {args : Array Value} {w : World} {v : Value} (h : Calls P f args w fun e w' => e = .returned v ∧ Ext w w') : Calls P f args w fun e w'' => ∃ u, e = .returned u ∧ Ext w w'' ∧ u = v :=
  h.mono fun _ _ ⟨he, hw⟩ => ⟨v, he, hw, rfl⟩

theorem ret_int {k : IntKind} {a b : Int} (h : a = b) : Ending.returned (.int k a) = .returned (.int k b) := by rw [h]
theorem ret_bool {a b : Bool} (h : a = b) : Ending.returned (.bool a) = .returned (.bool b) := by rw [h]
end Go.Proofs.Ythjpcnceppmnmaa
