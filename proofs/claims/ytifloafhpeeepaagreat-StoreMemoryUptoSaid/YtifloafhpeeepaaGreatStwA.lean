/-
  StoreMemory: rows told that the law writes over: which block belongs to which row.
-/
import Derived.Test.YtifloafhpeeepaaGreatGbE
import Derived.Test.YtifloafhpeeepaaGreatMemK
namespace Go.Proofs.YtifloafhpeeepaaGreat
open Go.RowKit

section
variable {w0 w : World} {x : Nat} {S : SAbs} {N : Nat} {P : Nat → Prop}
theorem FP.rowsA (h : FP w0 w x S N P) :
    Calls Tryz.prog 12 #[.pointer (some ⟨x, 0, none⟩)] w fun e w' => ∃ A c M, e = .returned (.slice A S.rows.length c) ∧ MineA M w' A S.rows.length c S.rows ∧ FP w0 w' x S (N + 1) (And' P M w'.heap.size) ∧ Keeps P w w' ∧ w.heap.size ≤ M := by
  obtain ⟨B, h1, h2, h3, h4⟩ := h
  refine (rows_stA h1).mono ?_
  rintro e w' ⟨A, c, M, rfl, hm, hs⟩
  have h5 := FP.stepM h2 h3 h4 hs
  obtain ⟨B', k1, k2, k3, k4, k5, k6⟩ := hs
  exact ⟨A, c, M, rfl, hm, h5.1, h5.2, k5⟩
theorem FP.groupA (h : FP w0 w x S N P) (hN : N ≤ 8388608) {k : Nat} (hk : k < S.gs.length) {r : List V} {A : Option Addr} {n : Nat} (c : Nat) (ha : ArgR w A n r) :
    Calls Tryz.prog 13 #[.pointer (some ⟨x, 0, none⟩), .int .i64 k, .slice A n c] w fun e w' => ∃ A' c' M, e = .returned (.tuple #[.slice A' (grpS S k r).length c', .int .i64 0]) ∧ MineA M w' A' (grpS S k r).length c' (grpS S k r) ∧ FP w0 w' x S (N + 1) (And' P M w'.heap.size) ∧ Keeps P w w' ∧ w.heap.size ≤ M := by
  obtain ⟨B, h1, h2, h3, h4⟩ := h
  refine (group_stA h1 hN hk c ha).mono ?_
  rintro e w' ⟨A', c', rfl, M, hm, hs⟩
  have h5 := FP.stepM h2 h3 h4 hs
  obtain ⟨B', k1, k2, k3, k4, k5, k6⟩ := hs
  exact ⟨A', c', M, rfl, hm, h5.1, h5.2, k5⟩
end
theorem cellsR_set : ∀ (r : List V) (k : Nat) (m : V), k < r.length → cellsR (r.set k m) = (((cellsR r).set (k * 3) (.int .i64 m.k)).set (k * 3 + 1) (.int .i64 m.i)).set (k * 3 + 2) (.string m.t)
  | [], k, m, h => by simp at h
  | v :: r, 0, m, _ => by simp [cellsR, V.cells]
  | v :: r, k + 1, m, h => by
    have ih := cellsR_set r k m (by simpa using h)
    simp only [List.set_cons_succ, cellsR, V.cells, List.cons_append, List.nil_append]
    rw [show (k + 1) * 3 = k * 3 + 1 + 1 + 1 by omega, show k * 3 + 1 + 1 + 1 + 1 = k * 3 + 1 + 1 + 1 + 1 from rfl]
    rw [show k * 3 + 1 + 1 + 1 + 2 = k * 3 + 2 + 1 + 1 + 1 by omega]
    simp only [List.set_cons_succ]
    rw [ih]
theorem els_of {R : World → List Value → List V → Prop} {w : World} : ∀ {rows : List (List V)} {cells : List Value}, cells.length = rows.length → (∀ (j : Nat) (r : List V), rows[j]? = some r → ∃ v : Value, cells[j]? = some v ∧ OneCells [v] ∧ R w [v] r) → Els R 1 w cells rows
  | [], [], _, _ => .nil
  | [], _ :: _, h, _ => by simp at h
  | _ :: _, [], h, _ => by simp at h
  | r :: rows, v :: cells, h, hx => by
    obtain ⟨u, h1, h2, h3⟩ := hx 0 r rfl
    obtain rfl : v = u := by simpa using h1
    have ih := els_of (R := R) (w := w) (rows := rows) (cells := cells) (by simpa using h) fun j r hr => hx (j + 1) r hr
    exact Els.cons (cs := [v]) rfl h2 h3 ih
abbrev LabT := Nat → Option (Nat × Nat)
/-- told, and no row that is written over -/
abbrev Zs (P : Nat → Prop) (lab : LabT) : Nat → Prop := fun g => P g ∧ lab g = none
/-- a list whose rows are written over -/
def LstO (w : World) (P : Nat → Prop) (lab : LabT) (i : Nat) (A : Option Addr) (n c : Nat) (rows : List (List V)) : Prop :=
  n = rows.length ∧ ∃ cells, OwnH w (Zs P lab) 30 1 n (.slice A n c) cells ∧ ∀ j r, rows[j]? = some r → ∃ Ar cr, cells[j]? = some (.slice Ar r.length cr) ∧ OwnH w (fun g => P g ∧ lab g = some (i, j)) 43 3 r.length (.slice Ar r.length cr) (cellsR r)
section
variable {w w' : World} {P Q C : Nat → Prop} {lab lab' : LabT} {i : Nat} {A : Option Addr} {n c : Nat} {rows : List (List V)}
theorem LstO.nil : LstO w P lab i none 0 0 [] := ⟨rfl, [], OwnH.nil _ _ _ _, fun j r h => by simp at h⟩
theorem LstO.mono (h : LstO w P lab i A n c rows) (hq : ∀ g, P g → Q g ∧ lab' g = lab g) : LstO w Q lab' i A n c rows := by
  obtain ⟨h1, cells, h2, h3⟩ := h
  refine ⟨h1, cells, h2.mono fun g hg => ⟨(hq g hg.1).1, (hq g hg.1).2.trans hg.2⟩, fun j r hr => ?_⟩
  obtain ⟨Ar, cr, k1, k2⟩ := h3 j r hr
  exact ⟨Ar, cr, k1, k2.mono fun g hg => ⟨(hq g hg.1).1, (hq g hg.1).2.trans hg.2⟩⟩
theorem LstO.chg (h : LstO w P lab i A n c rows) (hw : Chg C w w') (hC : ∀ g, P g → C g → lab g ≠ none ∧ ∀ j, lab g ≠ some (i, j)) : LstO w' P lab i A n c rows := by
  obtain ⟨h1, cells, h2, h3⟩ := h
  refine ⟨h1, cells, h2.chg hw fun g hg hc => (hC g hg.1 hc).1 hg.2, fun j r hr => ?_⟩
  obtain ⟨Ar, cr, k1, k2⟩ := h3 j r hr
  exact ⟨Ar, cr, k1, k2.chg hw fun g hg hc => (hC g hg.1 hc).2 j hg.2⟩
theorem LstO.lat (h : LstO w P lab i A n c rows) : LAt RRow 1 w A n rows := by
  obtain ⟨h1, cells, h2, h3⟩ := h
  have hl : cells.length = n := by have := h2.own.1; omega
  refine LAt.own h1 (els_of (by omega) fun j r hr => ?_) h2.own
  obtain ⟨Ar, cr, k1, k2⟩ := h3 j r hr
  exact ⟨_, k1, fun v hv => by obtain rfl := List.mem_singleton.1 hv; rfl, Ar, _, cr, rfl, RowAt.own k2.own⟩
/-- one value of one row written over -/
theorem LstO.write (h : LstO w P lab i A n c rows) {j k : Nat} {r : List V} (hj : rows[j]? = some r) (hk : k < r.length) :
    ∃ lb rb cr u0 u1 u2, A = some ⟨lb, 0, none⟩ ∧ w.cell? ⟨lb, j, none⟩ = some (.slice (some ⟨rb, 0, none⟩) r.length cr) ∧ w.cell? ⟨rb, k * 3, none⟩ = some u0 ∧ w.cell? ⟨rb, k * 3 + 1, none⟩ = some u1 ∧ w.cell? ⟨rb, k * 3 + 2, none⟩ = some u2 ∧
      w.frozen? ⟨rb, k * 3, none⟩ = false ∧ w.frozen? ⟨rb, k * 3 + 1, none⟩ = false ∧ w.frozen? ⟨rb, k * 3 + 2, none⟩ = false ∧ P rb ∧ lab rb = some (i, j) ∧ lb ≠ rb ∧
      ∀ m : V, LstO (((w.setCell ⟨rb, k * 3, none⟩ (.int .i64 m.k)).setCell ⟨rb, k * 3 + 1, none⟩ (.int .i64 m.i)).setCell ⟨rb, k * 3 + 2, none⟩ (.string m.t)) P lab i A n c (rows.set j (r.set k m)) := by
  obtain ⟨h1, cells, h2, h3⟩ := h
  have hjl := (List.getElem?_eq_some_iff.1 hj).1
  obtain ⟨lb, rfl, hlb, -, hc, -⟩ := h2.at_ (by omega)
  obtain ⟨Ar, cr, k1, k2⟩ := h3 j r hj
  obtain ⟨rb, rfl, hb, -, hcr, hf⟩ := k2.at_ (by omega)
  have hcl := cellsR_len r
  refine ⟨lb, rb, cr, _, _, _, rfl, hc j _ k1, hcr (k * 3) _ (List.getElem?_eq_getElem (by omega)), hcr (k * 3 + 1) _ (List.getElem?_eq_getElem (by omega)), hcr (k * 3 + 2) _ (List.getElem?_eq_getElem (by omega)), hf _, hf _, hf _, hb.1, hb.2, fun e => (by have h9 := hb.2; rw [← e, hlb.2] at h9; cases h9), fun m => ?_⟩
  have hch := (((Chg.refl (fun g => g = rb) w).setCell (p := ⟨rb, k * 3, none⟩) (.inl rfl) (.int .i64 m.k)).setCell (p := ⟨rb, k * 3 + 1, none⟩) (.inl rfl) (.int .i64 m.i)).setCell (p := ⟨rb, k * 3 + 2, none⟩) (.inl rfl) (.string m.t)
  refine ⟨by rw [List.length_set]; exact h1, cells, h2.chg hch fun g hg e => ?_, fun j' r' hr' => ?_⟩
  · subst e
    have h9 := hg.2
    rw [hb.2] at h9
    cases h9
  · by_cases hjj : j' = j
    · subst hjj
      rw [List.getElem?_set_self hjl] at hr'
      obtain rfl : r.set k m = r' := Option.some.inj hr'
      rw [List.length_set]
      refine ⟨_, cr, k1, ?_⟩
      rw [cellsR_set r k m hk]
      exact ((k2.put (k * 3) (.int .i64 m.k)).put (k * 3 + 1) (.int .i64 m.i)).put (k * 3 + 2) (.string m.t)
    · rw [List.getElem?_set_ne (Ne.symm hjj)] at hr'
      obtain ⟨A2, c2, q1, q2⟩ := h3 j' r' hr'
      exact ⟨A2, c2, q1, q2.chg hch fun g hg e => by
        subst e
        have h9 := hg.2
        rw [hb.2] at h9
        injection h9 with h9; injection h9 with _ h9
        exact hjj h9.symm⟩
/-- a list just told -/
theorem LstO.of {M : Nat} (h : MineA M w A n c rows) (i : Nat) (lab : LabT) (hP : ∀ g, P g → g < M) (hl : ∀ g, w.heap.size ≤ g → lab g = none) :
    ∃ lab', (∀ g, g < M → lab' g = lab g) ∧ (∀ g, w.heap.size ≤ g → lab' g = none) ∧ LstO w (And' P M w.heap.size) lab' i A n c rows := by
  classical
  obtain ⟨cells, h1, h2, h3, h4⟩ := h
  have hel : ∀ j r, rows[j]? = some r → ∃ Ar cr, cells[j]? = some (Value.slice Ar r.length cr) ∧ w.ownsRow M 43 3 (.slice Ar r.length cr) r.length (cellsR r) := fun j r hr => by
    obtain ⟨cs, k1, -, ⟨A9, n9, c9, rfl, k2⟩, k3⟩ := h3.get hr
    have k4 := k3 0 (by omega)
    have hat := RowAt.own k2
    obtain rfl := hat.len
    exact ⟨A9, c9, by simpa using k4, k2⟩
  have hcl : cells.length = rows.length := by have := h2.1; omega
  have hown : ∀ v ∈ cells, ∃ n9 xs, w.ownsRow M 43 3 v n9 xs := fun v hv => by
    obtain ⟨j, hj, rfl⟩ := List.getElem_of_mem hv
    obtain ⟨Ar, cr, k1, k2⟩ := hel j rows[j] (List.getElem?_eq_getElem (by omega))
    rw [List.getElem?_eq_getElem hj] at k1
    rw [Option.some.inj k1]
    exact ⟨_, _, k2⟩
  refine ⟨fun g => if g < M then lab g else if h : ∃ (j : Nat) (v : Value), cells[j]? = some v ∧ v.ownBlock = some g then some (i, Classical.choose h) else none, fun g hg => if_pos hg, fun g hg => ?_, h1, cells, ⟨own_base0 h2 (Nat.zero_le _), fun g hg => ?_⟩, fun j r hr => ?_⟩
  · by_cases hgM : g < M
    · simp only [if_pos hgM]; exact hl g hg
    · simp only [if_neg hgM]
      rw [dif_neg]
      rintro ⟨j, v, k1, k2⟩
      obtain ⟨n9, xs, k3⟩ := hown v (List.mem_of_getElem? k1)
      have := (k3.lt g k2).2
      omega
  · have hlt := h2.lt g hg
    refine ⟨.inr hlt, ?_⟩
    simp only [if_neg (show ¬ g < M by omega)]
    rw [dif_neg]
    rintro ⟨j, v, k1, k2⟩
    obtain ⟨n9, xs, k3⟩ := hown v (List.mem_of_getElem? k1)
    exact own_types h2 k3 (by decide) k2 hg
  · obtain ⟨Ar, cr, k1, k2⟩ := hel j r hr
    refine ⟨Ar, cr, k1, own_base0 k2 (Nat.zero_le _), fun g hg => ?_⟩
    have hlt := k2.lt g hg
    refine ⟨.inr hlt, ?_⟩
    simp only [if_neg (show ¬ g < M by omega)]
    have hex : ∃ (j : Nat) (v : Value), cells[j]? = some v ∧ v.ownBlock = some g := ⟨j, _, k1, hg⟩
    rw [dif_pos hex]
    obtain ⟨v, q1, q2⟩ := Classical.choose_spec hex
    generalize Classical.choose hex = j2 at *
    have hjj : j2 = j := by
      obtain ⟨e1, e2⟩ := List.getElem?_eq_some_iff.1 k1
      obtain ⟨f1, f2⟩ := List.getElem?_eq_some_iff.1 q1
      unfold Apart at h4
      rw [List.pairwise_iff_getElem] at h4
      rcases Nat.lt_trichotomy j2 j with hh | hh | hh
      · exact absurd (by rw [e2]; exact hg) (h4 j2 j f1 e1 hh g (by rw [f2]; exact q2))
      · exact hh
      · exact absurd (by rw [f2]; exact q2) (h4 j j2 e1 f1 hh g (by rw [e2]; exact hg))
    rw [hjj]
end
/-- the law's four lists -/
structure Qd (w : World) (P : Nat → Prop) (lab : LabT) (ab : Nat) (L : List (List (List V))) : Prop where
  ex : ∃ vs : Array Value, Blk w ab 34 vs ∧ vs.size = 4 ∧ ∀ i rows, L[i]? = some rows → ∃ A c, vs[i]? = some (.slice A rows.length c) ∧ LstO w P lab i A rows.length c rows
  ab : P ab ∧ lab ab = some (9, 9)
  len : L.length = 4
section
variable {w w' : World} {P Q C : Nat → Prop} {lab lab' : LabT} {ab : Nat} {L : List (List (List V))}
theorem Qd.get (h : Qd w P lab ab L) {i : Nat} {rows : List (List V)} (hi : L[i]? = some rows) : ∃ A c, w.cell? ⟨ab, i, none⟩ = some (.slice A rows.length c) ∧ LstO w P lab i A rows.length c rows := by
  obtain ⟨vs, h1, h2, h3⟩ := h.ex
  obtain ⟨A, c, h4, h5⟩ := h3 i rows hi
  exact ⟨A, c, by rw [h1.cell]; exact h4, h5⟩
theorem Qd.keep (h : Qd w P lab ab L) (hw : Keeps P w w') (hq : ∀ g, P g → Q g ∧ lab' g = lab g) : Qd w' Q lab' ab L := by
  obtain ⟨vs, h1, h2, h3⟩ := h.ex
  refine ⟨⟨vs, hw.blk h1 fun hn => hn h.ab.1, h2, fun i rows hi => ?_⟩, ⟨(hq ab h.ab.1).1, (hq ab h.ab.1).2.trans h.ab.2⟩, h.len⟩
  obtain ⟨A, c, h4, h5⟩ := h3 i rows hi
  exact ⟨A, c, h4, (h5.chg hw fun g hg hn => absurd hg hn).mono hq⟩
theorem Qd.frozen (h : Qd w P lab ab L) (j : Nat) : w.frozen? ⟨ab, j, none⟩ = false := by
  obtain ⟨vs, h1, h2, h3⟩ := h.ex
  exact h1.frozen j
theorem Qd.put (h : Qd w P lab ab L) {i : Nat} (hi : i < 4) {A : Option Addr} {n c : Nat} {rows : List (List V)} (hn : n = rows.length) (hl : LstO w P lab i A n c rows) : Qd (w.setCell ⟨ab, i, none⟩ (.slice A n c)) P lab ab (L.set i rows) := by
  subst hn
  have hch := (Chg.refl (fun g => g = ab) w).setCell (p := ⟨ab, i, none⟩) (.inl rfl) (.slice A rows.length c)
  have hC : ∀ i', i' < 4 → ∀ g, P g → g = ab → lab g ≠ none ∧ ∀ j, lab g ≠ some (i', j) := fun i' hi' g _ e => by
    subst e
    rw [h.ab.2]
    exact ⟨by simp, fun j hj => by injection hj with hj; injection hj with hj _; omega⟩
  obtain ⟨vs, h1, h2, h3⟩ := h.ex
  refine ⟨⟨vs.setIfInBounds i (.slice A rows.length c), h1.set_ i _, by rw [Array.size_setIfInBounds]; exact h2, fun i' rows' hi' => ?_⟩, h.ab, by rw [List.length_set]; exact h.len⟩
  by_cases hii : i' = i
  · subst hii
    rw [List.getElem?_set_self (by have := h.len; omega)] at hi'
    obtain rfl := Option.some.inj hi'
    exact ⟨A, c, by rw [Array.getElem?_setIfInBounds_self_of_lt (by omega)], hl.chg hch (hC i' hi)⟩
  · rw [List.getElem?_set_ne (Ne.symm hii)] at hi'
    have hi4 : i' < 4 := by have := (List.getElem?_eq_some_iff.1 hi').1; have := h.len; omega
    obtain ⟨A', c', h4, h5⟩ := h3 i' rows' hi'
    exact ⟨A', c', by rw [Array.getElem?_setIfInBounds_ne (Ne.symm hii)]; exact h4, h5.chg hch (hC i' hi4)⟩
/-- one value of one row of one list written over -/
theorem Qd.write (h : Qd w P lab ab L) {i j k : Nat} {rows : List (List V)} {r : List V} (hi : L[i]? = some rows) (hj : rows[j]? = some r) (hk : k < r.length) :
    ∃ lb c rb cr u0 u1 u2, w.cell? ⟨ab, i, none⟩ = some (.slice (some ⟨lb, 0, none⟩) rows.length c) ∧ w.cell? ⟨lb, j, none⟩ = some (.slice (some ⟨rb, 0, none⟩) r.length cr) ∧ w.cell? ⟨rb, k * 3, none⟩ = some u0 ∧ w.cell? ⟨rb, k * 3 + 1, none⟩ = some u1 ∧ w.cell? ⟨rb, k * 3 + 2, none⟩ = some u2 ∧
      w.frozen? ⟨rb, k * 3, none⟩ = false ∧ w.frozen? ⟨rb, k * 3 + 1, none⟩ = false ∧ w.frozen? ⟨rb, k * 3 + 2, none⟩ = false ∧ P rb ∧ lab rb = some (i, j) ∧ (ab ≠ rb ∧ lb ≠ rb) ∧
      ∀ m : V, Qd (((w.setCell ⟨rb, k * 3, none⟩ (.int .i64 m.k)).setCell ⟨rb, k * 3 + 1, none⟩ (.int .i64 m.i)).setCell ⟨rb, k * 3 + 2, none⟩ (.string m.t)) P lab ab (L.set i (rows.set j (r.set k m))) := by
  obtain ⟨vs, h1, h2, h3⟩ := h.ex
  have hi4 : i < 4 := by have := (List.getElem?_eq_some_iff.1 hi).1; have := h.len; omega
  obtain ⟨A, c, h4, h5⟩ := h3 i rows hi
  obtain ⟨lb, rb, cr, u0, u1, u2, rfl, q1, q2, q3, q4, f1, f2, f3, hp, hlab, hlr, hm⟩ := h5.write hj hk
  have hab : ab ≠ rb := fun e => by
    have h9 := h.ab.2
    rw [e, hlab] at h9
    injection h9 with h9; injection h9 with h9 _
    omega
  refine ⟨lb, c, rb, cr, u0, u1, u2, by rw [h1.cell]; exact h4, q1, q2, q3, q4, f1, f2, f3, hp, hlab, ⟨hab, hlr⟩, fun m => ?_⟩
  have hch := (((Chg.refl (fun g => g = rb) w).setCell (p := ⟨rb, k * 3, none⟩) (.inl rfl) (.int .i64 m.k)).setCell (p := ⟨rb, k * 3 + 1, none⟩) (.inl rfl) (.int .i64 m.i)).setCell (p := ⟨rb, k * 3 + 2, none⟩) (.inl rfl) (.string m.t)
  refine ⟨⟨vs, hch.blk h1 hab, h2, fun i' rows' hi' => ?_⟩, h.ab, by rw [List.length_set]; exact h.len⟩
  by_cases hii : i' = i
  · subst hii
    rw [List.getElem?_set_self (by have := h.len; omega)] at hi'
    obtain rfl := Option.some.inj hi'
    refine ⟨_, c, by rw [List.length_set]; exact h4, ?_⟩
    rw [List.length_set]
    exact hm m
  · rw [List.getElem?_set_ne (Ne.symm hii)] at hi'
    obtain ⟨A', c', h6, h7⟩ := h3 i' rows' hi'
    exact ⟨A', c', h6, h7.chg hch fun g hg e => by
      subst e
      rw [hlab]
      exact ⟨by simp, fun j2 h9 => by injection h9 with h9; injection h9 with h9 _; exact hii h9.symm⟩⟩
end
end Go.Proofs.YtifloafhpeeepaaGreat
