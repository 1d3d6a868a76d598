/-
  Tables that a call makes for itself: their rows grow, one behind the other.
-/
import Derived.Test.YtpfjkjmimmklcaaHomG
import Derived.Test.YtpfjkjmimmklcaaApp2
namespace Go.Proofs.Ytpfjkjmimmklcaa
open Go.RowKit

theorem infoB : (Try.prog.info? 43).map (fun i => (i.zero, i.size, i.bytes)) = some (some (.agg #[.string .empty, .slice none 0 0]), 2, 40) := by kernel_rfl
theorem infoR : (Try.prog.info? 35).map (fun i => (i.zero, i.size, i.bytes)) = some (some (.slice none 0 0), 1, 24) := by kernel_rfl

/-- a row of the call's own -/
def ROwn (base : Nat) : World → List Value → List V → Prop := fun w cs r => ∃ A n c, cs = [.slice A n c] ∧ w.ownsRow base 58 3 (.slice A n c) n (cellsR r)
theorem ROwn.row {base : Nat} {w : World} {cs : List Value} {r : List V} (h : ROwn base w cs r) : RRow w cs r := by
  obtain ⟨A, n, c, h1, h2⟩ := h
  exact ⟨A, n, c, h1, RowAt.own h2⟩
theorem ROwn.stab (base : Nat) : Stab (ROwn base) := fun _ _ _ _ hw ⟨A, n, c, h1, h2⟩ => ⟨A, n, c, h1, own_ext h2 hw⟩
theorem ROwn.base {b b' : Nat} {w : World} {cs : List Value} {r : List V} (h : ROwn b' w cs r) (hb : b ≤ b') : ROwn b w cs r := by
  obtain ⟨A, n, c, h1, h2⟩ := h
  exact ⟨A, n, c, h1, own_base h2 hb⟩
/-- what is no row of values may turn -/
theorem ROwn.other {base b1 : Nat} {e1 : TypeId} {s1 n1 : Nat} {v1 : Value} {x1 : List Value} {w w' : World} {cs : List Value} {r : List V} (h : ROwn base w cs r) (h1 : w.ownsRow b1 e1 s1 v1 n1 x1) (hne : e1 ≠ 58) (hg : w.grownBy w' v1.ownBlock) : ROwn base w' cs r := by
  obtain ⟨A, n, c, h2, h3⟩ := h
  exact ⟨A, n, c, h2, own_other h3 h1 hne hg⟩

structure Pt where
  t : Tbl
  A : Option Addr
  c : Nat
  cells : List Value
def Pt.cs (p : Pt) : List Value := [.string p.t.rel, .slice p.A p.t.rows.length p.c]
theorem pt_one (p : Pt) : OneCells p.cs := fun v h => by
  simp only [Pt.cs, List.mem_cons, List.not_mem_nil, or_false] at h
  rcases h with rfl | rfl <;> rfl
/-- the rows of a table -/
structure PtOk (base : Nat) (w : World) (p : Pt) : Prop where
  own : w.ownsRow base 35 1 (.slice p.A p.t.rows.length p.c) p.t.rows.length p.cells
  els : Els (ROwn base) 1 w p.cells p.t.rows
theorem PtOk.ext {base : Nat} {w w' : World} {p : Pt} (h : PtOk base w p) (hw : Ext w w') : PtOk base w' p := ⟨own_ext h.own hw, h.els.ext (ROwn.stab base) hw⟩
theorem PtOk.lat {base : Nat} {w : World} {p : Pt} (h : PtOk base w p) : LAt RRow 1 w p.A p.t.rows.length p.t.rows := LAt.own rfl (h.els.mono fun _ _ hr => hr.row) h.own
theorem PtOk.other {base b1 : Nat} {e1 : TypeId} {s1 n1 : Nat} {v1 : Value} {x1 : List Value} {w w' : World} {p : Pt} (h : PtOk base w p) (h1 : w.ownsRow b1 e1 s1 v1 n1 x1) (hne : e1 ≠ 58) (hne2 : e1 ≠ 35) (hg : w.grownBy w' v1.ownBlock) : PtOk base w' p :=
  ⟨own_other h.own h1 hne2 hg, h.els.mono fun _ _ hr => hr.other h1 hne hg⟩

structure FInv (W w : World) (A : Option Addr) (n c : Nat) (ps : List Pt) : Prop where
  len : n = ps.length
  own : w.ownsRow W.heap.size 43 2 (.slice A n c) n (ps.flatMap Pt.cs)
  rows : ∀ p ∈ ps, PtOk W.heap.size w p
  apart : ps.Pairwise fun p q => Apart p.A q.A
  ext : Ext W w
theorem FInv.nil (W : World) : FInv W W none 0 0 [] := ⟨rfl, World.ownsRow_nil _ _ _ _, fun p h => (by cases h), .nil, Ext.refl _⟩
theorem FInv.go {W w w' : World} {A : Option Addr} {n c : Nat} {ps : List Pt} (h : FInv W w A n c ps) (hw : Ext w w') : FInv W w' A n c ps :=
  ⟨h.len, own_ext h.own hw, fun p hp => (h.rows p hp).ext hw, h.apart, h.ext.trans hw⟩
theorem els_pt {base : Nat} {w : World} : ∀ ps : List Pt, (∀ p ∈ ps, PtOk base w p) → Els RB 2 w (ps.flatMap Pt.cs) (ps.map (·.t))
  | [], _ => .nil
  | p :: ps, h => by
    rw [List.flatMap_cons]
    exact .cons rfl (pt_one p) ⟨_, _, _, rfl, (h p (List.mem_cons_self ..)).lat⟩ (els_pt ps fun x hx => h x (List.mem_cons_of_mem _ hx))
theorem FInv.lat {W w : World} {A : Option Addr} {n c : Nat} {ps : List Pt} (h : FInv W w A n c ps) : LAt RB 2 w A n (ps.map (·.t)) :=
  LAt.own (by rw [List.length_map]; exact h.len) (els_pt ps h.rows) h.own
theorem flat_pt_len (ps : List Pt) : (ps.flatMap Pt.cs).length = ps.length * 2 := by
  induction ps with
  | nil => rfl
  | cons p ps ih => rw [List.flatMap_cons, List.length_append, ih]; simp [Pt.cs]; omega
theorem flat_pt_get : ∀ {ps : List Pt} {k : Nat} {p : Pt} (_ : ps[k]? = some p), (ps.flatMap Pt.cs)[k * 2]? = some (.string p.t.rel) ∧ (ps.flatMap Pt.cs)[k * 2 + 1]? = some (.slice p.A p.t.rows.length p.c)
  | [], k, p, h => by simp at h
  | q :: ps, 0, p, h => by
    obtain rfl : q = p := by simpa using h
    simp [Pt.cs]
  | q :: ps, k + 1, p, h => by
    have ih := flat_pt_get (ps := ps) (k := k) (p := p) (by simpa using h)
    rw [List.flatMap_cons, show (k + 1) * 2 = k * 2 + 2 by omega, show k * 2 + 2 + 1 = k * 2 + 1 + 2 by omega]
    rw [List.getElem?_append_right (by simp [Pt.cs]), List.getElem?_append_right (by simp [Pt.cs] <;> omega)]
    simpa [Pt.cs] using ih
theorem flat_pt_set : ∀ {ps : List Pt} {k : Nat} {p p' : Pt} (_ : ps[k]? = some p) (_ : p'.t.rel = p.t.rel), (ps.flatMap Pt.cs).set (k * 2 + 1) (.slice p'.A p'.t.rows.length p'.c) = (ps.set k p').flatMap Pt.cs
  | [], k, p, _, h, _ => by simp at h
  | q :: ps, 0, p, p', h, hr => by
    obtain rfl : q = p := by simpa using h
    simp [Pt.cs, hr]
  | q :: ps, k + 1, p, p', h, hr => by
    have ih := flat_pt_set (ps := ps) (k := k) (p := p) (p' := p') (by simpa using h) hr
    rw [List.set_cons_succ, List.flatMap_cons, List.flatMap_cons, ← ih, List.set_append_right _ _ (by simp [Pt.cs]; omega)]
    simp [Pt.cs]
    congr 1
    omega
/-- one table more, without rows -/
theorem FInv.push {W w w' : World} {A A' : Option Addr} {n c c' : Nat} {ps : List Pt} {rel : ByteArray} (h : FInv W w A n c ps) (hg : w.grownBy w' (Value.slice A n c).ownBlock) (hw : Ext W w')
    (ho : w'.ownsRow W.heap.size 43 2 (.slice A' (n + 1) c') (n + 1) (ps.flatMap Pt.cs ++ [.string rel, .slice none 0 0])) : FInv W w' A' (n + 1) c' (ps ++ [⟨⟨rel, []⟩, none, 0, []⟩]) := by
  refine ⟨by rw [List.length_append, ← h.len]; rfl, by rw [List.flatMap_append]; exact ho, fun p hp => ?_, ?_, hw⟩
  · rcases List.mem_append.1 hp with hp | hp
    · exact (h.rows p hp).other h.own (by decide) (by decide) hg
    · obtain rfl := List.mem_singleton.1 hp
      exact ⟨World.ownsRow_nil _ _ _ _, .nil⟩
  · rw [List.pairwise_append]
    refine ⟨h.apart, List.pairwise_singleton _ _, fun p _ q hq => ?_⟩
    obtain rfl := List.mem_singleton.1 hq
    exact (Apart.none_left _).symm
theorem FInv.at_ {W w : World} {A : Option Addr} {n c : Nat} {ps : List Pt} (h : FInv W w A n c ps) {k : Nat} {p : Pt} (hp : ps[k]? = some p) :
    ∃ g, A = some ⟨g, 0, none⟩ ∧ W.heap.size ≤ g ∧ g < w.heap.size ∧ w.cell? ⟨g, k * 2, none⟩ = some (.string p.t.rel) ∧ w.cell? ⟨g, k * 2 + 1, none⟩ = some (.slice p.A p.t.rows.length p.c) ∧ w.frozen? ⟨g, k * 2 + 1, none⟩ = false := by
  obtain ⟨hl, _⟩ := List.getElem?_eq_some_iff.1 hp
  have h0 := h.own
  rcases h0.2 with ⟨_, h2⟩ | ⟨g, cap, cur, hv, h3, _⟩
  · have := h.len; omega
  · injection hv with hA _ hc
    subst hA; subst hc
    obtain ⟨e1, e2⟩ := flat_pt_get hp
    have hn := h.len
    exact ⟨g, rfl, h3, (h0.lt g rfl).2, (h0.cellAt _ (by omega)).trans e1, (h0.cellAt _ (by omega)).trans e2, h0.frozenAt _⟩
theorem own_turn {w : World} {base g : Nat} {e : TypeId} {size n : Nat} {v : Value} {xs : List Value} (h : w.ownsRow base e size v n xs) (hne : some g ≠ v.ownBlock) (j : Nat) (u : Value) : (w.setCell ⟨g, j, none⟩ u).ownsRow base e size v n xs :=
  h.kept (row := some g) ⟨rfl, rfl, rfl, by simp, fun k _ hk => Below.heap_setCell _ _ _ _ (fun e => hk (by rw [e]))⟩ (.inr (Ne.symm hne))
theorem apart_own {A B : Option Addr} {n c m d : Nat} (h : Apart A B) : (Value.slice B m d).ownBlock = none ∨ (Value.slice B m d).ownBlock ≠ (Value.slice A n c).ownBlock := by
  cases B with
  | none => exact .inl rfl
  | some b =>
    cases A with
    | none => exact .inr (by simp [Value.ownBlock])
    | some a => exact .inr (by simp only [Value.ownBlock, ne_eq, Option.some.injEq]; exact fun e => h a b rfl rfl e.symm)
/-- a row more in one of the tables -/
theorem FInv.add {W w w' : World} {g n c k : Nat} {ps : List Pt} {p : Pt} {A' Ar : Option Addr} {c' nr cr : Nat} {r : List V} (h : FInv W w (some ⟨g, 0, none⟩) n c ps) (hp : ps[k]? = some p)
    (hg : w.grownBy w' (Value.slice p.A p.t.rows.length p.c).ownBlock) (hw : Ext W w')
    (hl : (Value.slice A' (p.t.rows.length + 1) c').ownBlock = (Value.slice p.A p.t.rows.length p.c).ownBlock ∨ (Value.slice A' (p.t.rows.length + 1) c').ownBlock = some w.heap.size)
    (ho : w'.ownsRow W.heap.size 35 1 (.slice A' (p.t.rows.length + 1) c') (p.t.rows.length + 1) (p.cells ++ [.slice Ar nr cr]))
    (hr : w.ownsRow W.heap.size 58 3 (.slice Ar nr cr) nr (cellsR r)) :
    FInv W (w'.setCell ⟨g, k * 2 + 1, none⟩ (.slice A' (p.t.rows.length + 1) c')) (some ⟨g, 0, none⟩) n c (ps.set k ⟨⟨p.t.rel, p.t.rows ++ [r]⟩, A', c', p.cells ++ [.slice Ar nr cr]⟩) := by
  have hok := h.rows p (List.mem_of_getElem? hp)
  have hown := own_other h.own hok.own (by decide) hg
  have hgb : ∀ {e : TypeId} {s m : Nat} {v : Value} {xs : List Value}, w'.ownsRow W.heap.size e s v m xs → e ≠ 43 → some g ≠ v.ownBlock := fun h2 hne => by
    have := own_own hown h2 (Ne.symm hne) (k := g) rfl
    exact Ne.symm this
  obtain ⟨hkl, hke⟩ := List.getElem?_eq_some_iff.1 hp
  have hnew : PtOk W.heap.size (w'.setCell ⟨g, k * 2 + 1, none⟩ (.slice A' (p.t.rows.length + 1) c')) ⟨⟨p.t.rel, p.t.rows ++ [r]⟩, A', c', p.cells ++ [.slice Ar nr cr]⟩ := by
    refine ⟨?_, ?_⟩
    · have := own_turn ho (hgb ho (by decide)) (k * 2 + 1) (.slice A' (p.t.rows.length + 1) c')
      simpa using this
    · refine Els.snoc ?_ rfl (fun v hv => by obtain rfl := List.mem_singleton.1 hv; rfl) ⟨Ar, nr, cr, rfl, ?_⟩
      · refine hok.els.mono fun cs x hx => ?_
        obtain ⟨A1, n1, c1, e1, e2⟩ := hx.other hok.own (by decide) hg
        exact ⟨A1, n1, c1, e1, own_turn e2 (hgb e2 (by decide)) _ _⟩
      · have e2 := own_other hr hok.own (by decide) hg
        exact own_turn e2 (hgb e2 (by decide)) _ _
  refine ⟨by rw [List.length_set]; exact h.len, ?_, fun q hq => ?_, ?_, hw.setCell (p := ⟨g, k * 2 + 1, none⟩) (h.own.lt g rfl).1 _⟩
  · have := (hown.stored (k * 2 + 1) (.slice A' (p.t.rows.length + 1) c')).1
    have e := flat_pt_set (p' := ⟨⟨p.t.rel, p.t.rows ++ [r]⟩, A', c', p.cells ++ [.slice Ar nr cr]⟩) hp rfl
    simp only [List.length_append, List.length_cons, List.length_nil] at e
    rw [← e]
    exact this
  · obtain ⟨j, hj, rfl⟩ := List.getElem_of_mem hq
    by_cases hjk : k = j
    · subst hjk
      rw [List.getElem_set_self]
      exact hnew
    · rw [List.getElem_set_ne hjk]
      have hj' : j < ps.length := by simpa using hj
      have hq1 := h.rows ps[j] (List.getElem_mem hj')
      have hap : Apart p.A ps[j].A := by
        have hpw := h.apart
        rw [List.pairwise_iff_getElem] at hpw
        rcases Nat.lt_or_gt_of_ne hjk with hlt | hlt
        · have := hpw k j hkl hj' hlt
          rwa [hke] at this
        · have := (hpw j k hj' hkl hlt).symm
          rwa [hke] at this
      have o1 := hq1.own.kept hg (apart_own hap)
      refine ⟨own_turn o1 (hgb o1 (by decide)) _ _, hq1.els.mono fun cs x hx => ?_⟩
      obtain ⟨A1, n1, c1, e1, e2⟩ := hx.other hok.own (by decide) hg
      exact ⟨A1, n1, c1, e1, own_turn e2 (hgb e2 (by decide)) _ _⟩
  · rw [List.pairwise_iff_getElem]
    have hpw := h.apart
    rw [List.pairwise_iff_getElem] at hpw
    have hin : ∀ j (hj : j < ps.length), BlkIn w ps[j].A := fun j hj b hb => by
      have h1 := (h.rows ps[j] (List.getElem_mem hj)).own
      rw [hb] at h1
      exact (h1.lt b.block rfl).2
    intro i j hi hj hij
    have hi' : i < ps.length := by simpa using hi
    have hj' : j < ps.length := by simpa using hj
    by_cases h1 : k = i
    · subst h1
      rw [List.getElem_set_self, List.getElem_set_ne (by omega)]
      have := hpw k j hi' hj' hij
      rw [hke] at this
      exact this.grown (hin j hj') hl
    · by_cases h2 : k = j
      · subst h2
        rw [List.getElem_set_self, List.getElem_set_ne (by omega)]
        have := (hpw i k hi' hj' hij).symm
        rw [hke] at this
        exact (this.grown (hin i hi') hl).symm
      · rw [List.getElem_set_ne h1, List.getElem_set_ne h2]
        exact hpw i j hi' hj' hij
end Go.Proofs.Ytpfjkjmimmklcaa
