/-
  RowMemory: which blocks a thing hangs on; what writes into some blocks alone.
-/
import Derived.Test.YtifloafhpeeepaaGreatGaD
import Derived.Laws.Rows
namespace Go.Proofs.YtifloafhpeeepaaGreat
open Go.RowKit

/-- the blocks from lo to hi stand as they did -/
def Agr (lo hi : Nat) (w w' : World) : Prop := w.heap.size ≤ w'.heap.size ∧ ∀ k, lo ≤ k → k < hi → w'.heap[k]? = w.heap[k]?
/-- what holds here hangs on the blocks from lo to hi alone -/
def In (lo hi : Nat) (P : World → Prop) (w : World) : Prop := hi ≤ w.heap.size ∧ ∀ w', Agr lo hi w w' → P w'
/-- only the blocks from lo to hi are written, and new ones -/
structure Wr (lo hi : Nat) (w w' : World) : Prop where
  os : w'.os = w.os
  tape : w'.tape = w.tape
  output : w'.output = w.output
  size : w.heap.size ≤ w'.heap.size
  block : ∀ k, k < w.heap.size → (k < lo ∨ hi ≤ k) → w'.heap[k]? = w.heap[k]?

section
variable {lo hi a b : Nat} {P : World → Prop} {w w' w'' : World}
theorem Agr.refl (lo hi : Nat) (w : World) : Agr lo hi w w := ⟨Nat.le_refl _, fun _ _ _ => rfl⟩
theorem In.here (h : In lo hi P w) : P w := h.2 w (Agr.refl _ _ _)
theorem In.agr (h : In lo hi P w) (k : Agr lo hi w w') : In lo hi P w' :=
  ⟨Nat.le_trans h.1 k.1, fun w2 x => h.2 w2 ⟨Nat.le_trans k.1 x.1, fun _ h1 h2 => (x.2 _ h1 h2).trans (k.2 _ h1 h2)⟩⟩
theorem In.ext (h : In lo hi P w) (k : Ext w w') : In lo hi P w' := h.agr ⟨k.size, fun _ _ h2 => k.block (Nat.lt_of_lt_of_le h2 h.1)⟩
theorem In.wr (h : In a b P w) (k : Wr lo hi w w') (hd : b ≤ lo ∨ hi ≤ a) : In a b P w' :=
  h.agr ⟨k.size, fun g h1 h2 => k.block g (Nat.lt_of_lt_of_le h2 h.1) (by omega)⟩
theorem Wr.refl (lo hi : Nat) (w : World) : Wr lo hi w w := ⟨rfl, rfl, rfl, Nat.le_refl _, fun _ _ _ => rfl⟩
theorem Wr.ext (h : Wr lo hi w w') (k : Ext w' w'') : Wr lo hi w w'' :=
  ⟨k.os.trans h.os, k.tape.trans h.tape, k.output.trans h.output, Nat.le_trans h.size k.size, fun g h1 h2 => (k.block (Nat.lt_of_lt_of_le h1 h.size)).trans (h.block g h1 h2)⟩
theorem Wr.trans (h : Wr lo hi w w') (k : Wr lo hi w' w'') : Wr lo hi w w'' :=
  ⟨k.os.trans h.os, k.tape.trans h.tape, k.output.trans h.output, Nat.le_trans h.size k.size, fun g h1 h2 => (k.block g (Nat.lt_of_lt_of_le h1 h.size) h2).trans (h.block g h1 h2)⟩
theorem Wr.out (h : Wr lo hi w w') {w0 : World} (h0 : Ext w0 w) (hl : w0.heap.size ≤ lo) : Ext w0 w' :=
  Below.trans h0 ⟨h.os, h.tape, h.output, h.size, fun k hk => h.block k (Nat.lt_of_lt_of_le hk h0.size) (.inl (Nat.lt_of_lt_of_le hk hl))⟩
theorem Wr.setCell (h : Wr lo hi w w') {p : Addr} (hp : lo ≤ p.block ∧ p.block < hi) (u : Value) : Wr lo hi w (w'.setCell p u) :=
  ⟨h.os, h.tape, h.output, by simpa using h.size, fun g h1 h2 => (Below.heap_setCell w' p u g (by omega)).trans (h.block g h1 h2)⟩

theorem agr_cell (k : Agr lo hi w w') {p : Addr} {v : Value} (h : w.cell? p = some v) (h1 : lo ≤ p.block) (h2 : p.block < hi) : w'.cell? p = some v :=
  (World.cell?_of_block (w := w) (k.2 p.block h1 h2)).trans h
theorem Sl.agr {A : Option Addr} {n s : Nat} {xs : List Value} (h : Sl w A n s xs) (k : Agr 0 w.heap.size w w') : Sl w' A n s xs :=
  ⟨h.1, fun hn => let ⟨b, off, hA, hc⟩ := h.2 hn; ⟨b, off, hA, fun j u hu => agr_cell k (hc j u hu) (Nat.zero_le _) (World.block_lt_of_cell? w _ (hc j u hu))⟩⟩
theorem own_agr {base : Nat} {e : TypeId} {s n : Nat} {v : Value} {xs : List Value} (ho : w.ownsRow base e s v n xs) (k : Agr base w.heap.size w w') : w'.ownsRow base e s v n xs := by
  refine ⟨ho.1, ?_⟩
  rcases ho.2 with h1 | ⟨g, cap, cur, rfl, h2, h3, h4⟩
  · exact .inl h1
  · exact .inr ⟨g, cap, cur, rfl, h2, (k.2 g h2 (Blk.lt h3)).trans h3, h4⟩
/-- what came in: a row, numbers -/
theorem In.sl {A : Option Addr} {n s : Nat} {xs : List Value} (h : Sl w A n s xs) : In 0 w.heap.size (fun w => Sl w A n s xs) w := ⟨Nat.le_refl _, fun _ k => h.agr k⟩
theorem In.row {A : Option Addr} {n : Nat} {r : List V} (h : RowAt w A n r) : In 0 w.heap.size (fun w => RowAt w A n r) w := ⟨Nat.le_refl _, fun _ k => ⟨h.1, Sl.agr h.2 k⟩⟩
theorem In.rows {A : Option Addr} {n : Nat} {rs : List (List V)} (h : LAt RRow 1 w A n rs) : In 0 w.heap.size (fun w => LAt RRow 1 w A n rs) w :=
  ⟨Nat.le_refl _, fun w2 k => by
    obtain ⟨h1, cells, h2, h3⟩ := h
    exact ⟨h1, cells, h2.mono fun cs x ⟨A, n, c, e, hr⟩ => ⟨A, n, c, e, hr.1, Sl.agr hr.2 k⟩, Sl.agr h3 k⟩⟩
/-- what a call has made: the blocks lie below hi -/
def Own (base hi : Nat) (e : TypeId) (s : Nat) (v : Value) (n : Nat) (xs : List Value) (w : World) : Prop := w.ownsRow base e s v n xs ∧ ∀ g, v.ownBlock = some g → g < hi
theorem own_lt {base : Nat} {e : TypeId} {s n : Nat} {v : Value} {xs : List Value} (h : w.ownsRow base e s v n xs) : ∀ g, v.ownBlock = some g → g < w.heap.size := fun g hg => by
  rcases h.2 with ⟨rfl, _⟩ | ⟨g', cap, cur, rfl, _, h3, _⟩
  · simp [Value.ownBlock] at hg
  · simp only [Value.ownBlock, Option.some.injEq] at hg
    subst hg
    exact Blk.lt h3
theorem In.own {base : Nat} {e : TypeId} {s n : Nat} {v : Value} {xs : List Value} (h : w.ownsRow base e s v n xs) : In base w.heap.size (Own base w.heap.size e s v n xs) w := ⟨Nat.le_refl _, fun _ k => ⟨own_agr h k, own_lt h⟩⟩
def RMineB (base hi : Nat) : World → List Value → List V → Prop := fun w cs r => ∃ A n c, cs = [.slice A n c] ∧ Own base hi 43 3 (.slice A n c) n (cellsR r) w
def RowsOwn (base hi : Nat) (A : Option Addr) (n c : Nat) (rs : List (List V)) (w : World) : Prop := n = rs.length ∧ ∃ cells, Own base hi 30 1 (.slice A n c) n cells w ∧ Els (RMineB base hi) 1 w cells rs
theorem RowsOwn.lat {base hi : Nat} {A : Option Addr} {n c : Nat} {rs : List (List V)} (h : RowsOwn base hi A n c rs w) : LAt RRow 1 w A n rs := by
  obtain ⟨h1, cells, h2, h3⟩ := h
  exact mine_lat h1 h2.1 (h3.mono fun _ _ ⟨A, n, c, e, hr⟩ => ⟨A, n, c, e, hr.1⟩)

/-- a row that may be written over: its block stays a row of as many cells -/
theorem own_set {base g : Nat} {e : TypeId} {s n : Nat} {v : Value} {xs : List Value} (h : w.ownsRow base e s v n xs) (j : Nat) (u : Value) : ∃ xs', (w.setCell ⟨g, j, none⟩ u).ownsRow base e s v n xs' := by
  rcases h.2 with h1 | ⟨g', cap, cur, rfl, h2, h3, h4, h5, h6, h7⟩
  · exact ⟨xs, h.1, .inl h1⟩
  · by_cases hg : g' = g
    · subst hg
      refine ⟨(cur.setIfInBounds j u).toList.take (n * s), ?_, .inr ⟨g', cap, _, rfl, h2, Blk.set_ h3 j u, h4, h5, by rw [Array.size_setIfInBounds]; exact h6, rfl⟩⟩
      have hm := Nat.mul_le_mul_right s h4
      rw [List.length_take, Array.length_toList, Array.size_setIfInBounds]; omega
    · exact ⟨xs, h.1, .inr ⟨g', cap, cur, rfl, h2, Blk.far h3 (p := ⟨g, j, none⟩) hg u, h4, h5, h6, h7⟩⟩
theorem own_set3 {base g : Nat} {e : TypeId} {s n : Nat} {v : Value} {xs : List Value} (h : w.ownsRow base e s v n xs) (j0 j1 j2 : Nat) (u0 u1 u2 : Value) :
    ∃ xs', (((w.setCell ⟨g, j0, none⟩ u0).setCell ⟨g, j1, none⟩ u1).setCell ⟨g, j2, none⟩ u2).ownsRow base e s v n xs' := by
  obtain ⟨_, h⟩ := own_set (g := g) h j0 u0
  obtain ⟨_, h⟩ := own_set (g := g) h j1 u1
  exact own_set (g := g) h j2 u2
theorem Own.set3 {base hi g : Nat} {e : TypeId} {s n : Nat} {v : Value} {xs : List Value} (h : Own base hi e s v n xs w) (j0 j1 j2 : Nat) (u0 u1 u2 : Value) :
    ∃ xs', Own base hi e s v n xs' (((w.setCell ⟨g, j0, none⟩ u0).setCell ⟨g, j1, none⟩ u1).setCell ⟨g, j2, none⟩ u2) :=
  let ⟨xs', h'⟩ := own_set3 (g := g) h.1 j0 j1 j2 u0 u1 u2; ⟨xs', h', h.2⟩
/-- one cell of a row whose elements are of one cell -/
theorem own_cell1 {base n c : Nat} {e : TypeId} {A : Option Addr} {xs : List Value} (h : w.ownsRow base e 1 (.slice A n c) n xs) {i : Nat} (hi : i < n) {u : Value} (hu : xs[i]? = some u) :
    ∃ g, A = some ⟨g, 0, none⟩ ∧ base ≤ g ∧ (Value.slice A n c).ownBlock = some g ∧ w.cell? ⟨g, i, none⟩ = some u ∧ w.frozen? ⟨g, i, none⟩ = false := by
  rcases h.2 with ⟨h1, h2⟩ | ⟨g, cap, cur, hv, h2, h3, h4, h5, h6, h7⟩
  · omega
  · injection hv with hA _ hc
    subst hA
    have hb : Blk w g e cur := h3
    refine ⟨g, rfl, h2, rfl, ?_, hb.frozen _⟩
    rw [hb.cell]
    rw [← h7, List.getElem?_take] at hu
    split at hu
    · rw [← hu]; simp
    · cases hu
theorem own_set1 {base g n c : Nat} {e : TypeId} {xs : List Value} (h : w.ownsRow base e 1 (.slice (some ⟨g, 0, none⟩) n c) n xs) (i : Nat) (u : Value) : (w.setCell ⟨g, i, none⟩ u).ownsRow base e 1 (.slice (some ⟨g, 0, none⟩) n c) n (xs.set i u) := by
  refine ⟨by rw [List.length_set]; exact h.1, ?_⟩
  rcases h.2 with ⟨h1, h2⟩ | ⟨g', cap, cur, hv, h2, h3, h4, h5, h6, h7⟩
  · cases h1
  · injection hv with hA _ hc
    injection hA with hA; injection hA with hA
    subst hA
    refine .inr ⟨g, cap, cur.setIfInBounds i u, by rw [hc], h2, Blk.set_ h3 i u, h4, h5, by rw [Array.size_setIfInBounds]; exact h6, ?_⟩
    rw [Array.toList_setIfInBounds, List.take_set, h7]
theorem Wr.set3 (h : Wr lo hi w w') {g : Nat} (h1 : lo ≤ g) (h2 : g < hi) (j0 j1 j2 : Nat) (u0 u1 u2 : Value) : Wr lo hi w (((w'.setCell ⟨g, j0, none⟩ u0).setCell ⟨g, j1, none⟩ u1).setCell ⟨g, j2, none⟩ u2) :=
  ((h.setCell (p := ⟨g, j0, none⟩) ⟨h1, h2⟩ u0).setCell (p := ⟨g, j1, none⟩) ⟨h1, h2⟩ u1).setCell (p := ⟨g, j2, none⟩) ⟨h1, h2⟩ u2
theorem own_far {base : Nat} {e : TypeId} {s n : Nat} {v : Value} {xs : List Value} (h : w.ownsRow base e s v n xs) {p : Addr} (hp : v.ownBlock ≠ some p.block) (u : Value) : (w.setCell p u).ownsRow base e s v n xs := by
  refine ⟨h.1, ?_⟩
  rcases h.2 with h1 | ⟨g, cap, cur, rfl, h2, h3, h4⟩
  · exact .inl h1
  · exact .inr ⟨g, cap, cur, rfl, h2, Blk.far h3 (p := p) (fun e => hp (by simp [Value.ownBlock, e])) u, h4⟩
theorem own_types {base base' s s' n n' g : Nat} {e t : TypeId} {v v' : Value} {xs xs' : List Value} (h : w.ownsRow base e s v n xs) (h' : w.ownsRow base' t s' v' n' xs') (hne : e ≠ t) (hg : v'.ownBlock = some g) : v.ownBlock ≠ some g := by
  rcases h'.2 with ⟨rfl, _⟩ | ⟨g', cap, cur, rfl, _, h3, _⟩
  · simp [Value.ownBlock] at hg
  · simp only [Value.ownBlock, Option.some.injEq] at hg
    subst hg
    exact fun e => own_ne_blk h h3 hne e.symm
/-- rows that may be written over: the list's cells, each row of the call's own -/
def RowsW (base hi : Nat) (A : Option Addr) (n c : Nat) (cells : List Value) (w : World) : Prop :=
  Own base hi 30 1 (.slice A n c) n cells w ∧ ∀ v ∈ cells, ∃ A9 n9 c9 xs, v = .slice A9 n9 c9 ∧ n9 ≤ 1048576 ∧ Own base hi 43 3 v n9 xs w
theorem RowsW.get {base hi : Nat} {A : Option Addr} {n c : Nat} {cells : List Value} (h : RowsW base hi A n c cells w) {i : Nat} (hi' : i < n) :
    ∃ g A9 n9 c9 xs, A = some ⟨g, 0, none⟩ ∧ base ≤ g ∧ g < hi ∧ cells[i]? = some (.slice A9 n9 c9) ∧ w.cell? ⟨g, i, none⟩ = some (.slice A9 n9 c9) ∧ w.frozen? ⟨g, i, none⟩ = false ∧ n9 ≤ 1048576 ∧ Own base hi 43 3 (.slice A9 n9 c9) n9 xs w := by
  have hl : cells.length = n := by have := h.1.1.1; omega
  have hx : cells[i]? = some cells[i] := List.getElem?_eq_getElem (by omega)
  obtain ⟨A9, n9, c9, xs, e, h9, ho⟩ := h.2 cells[i] (List.getElem_mem _)
  rw [e] at hx ho
  obtain ⟨g, hA, hb, hg, q, f⟩ := own_cell1 h.1.1 hi' hx
  exact ⟨g, A9, n9, c9, xs, hA, hb, h.1.2 g hg, hx, q, f, h9, ho⟩
/-- a write into one of the rows -/
theorem RowsW.row {base hi : Nat} {A : Option Addr} {n c : Nat} {cells : List Value} (h : RowsW base hi A n c cells w) {v9 : Value} {n9 g : Nat} {xs : List Value} (ho : w.ownsRow base 43 3 v9 n9 xs) (hg : v9.ownBlock = some g) (j : Nat) (u : Value) : RowsW base hi A n c cells (w.setCell ⟨g, j, none⟩ u) := by
  refine ⟨⟨own_far h.1.1 (own_types h.1.1 ho (by decide) hg) u, h.1.2⟩, fun v hv => ?_⟩
  obtain ⟨A9, n9, c9, xs, e, h9, ho⟩ := h.2 v hv
  obtain ⟨xs', h'⟩ := own_set (g := g) ho.1 j u
  exact ⟨A9, n9, c9, xs', e, h9, h', ho.2⟩
/-- a row that is let go of -/
theorem RowsW.drop {base hi g : Nat} {n c : Nat} {cells : List Value} (h : RowsW base hi (some ⟨g, 0, none⟩) n c cells w) (i : Nat) : RowsW base hi (some ⟨g, 0, none⟩) n c (cells.set i (.slice none 0 0)) (w.setCell ⟨g, i, none⟩ (.slice none 0 0)) := by
  refine ⟨⟨own_set1 h.1.1 i _, h.1.2⟩, fun v hv => ?_⟩
  rcases List.mem_or_eq_of_mem_set hv with hv | rfl
  · obtain ⟨A9, n9, c9, xs, e, h9, ho⟩ := h.2 v hv
    exact ⟨A9, n9, c9, xs, e, h9, own_far (p := ⟨g, i, none⟩) ho.1 (own_types ho.1 h.1.1 (by decide) rfl) _, ho.2⟩
  · exact ⟨none, 0, 0, [], rfl, by omega, World.ownsRow_nil _ _ _ _, fun g hg => by simp [Value.ownBlock] at hg⟩
theorem RowsW.ext {base hi : Nat} {A : Option Addr} {n c : Nat} {cells : List Value} (h : RowsW base hi A n c cells w) (k : Ext w w') : RowsW base hi A n c cells w' := by
  have ka : Agr base w.heap.size w w' := ⟨k.size, fun g _ h2 => k.block h2⟩
  refine ⟨⟨own_agr h.1.1 ka, h.1.2⟩, fun v hv => ?_⟩
  obtain ⟨A9, n9, c9, xs, e, h9, ho⟩ := h.2 v hv
  exact ⟨A9, n9, c9, xs, e, h9, own_agr ho.1 ka, ho.2⟩
end

end Go.Proofs.YtifloafhpeeepaaGreat
