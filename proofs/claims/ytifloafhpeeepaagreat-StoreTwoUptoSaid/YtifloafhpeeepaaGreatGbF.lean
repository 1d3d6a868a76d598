/-
  How numbers among the arguments are opened.
  How a store's script among the arguments is opened.
  How lists of numbers, and lists of these, are opened.
-/
import Derived.Test.YtifloafhpeeepaaGreatGaN
import Derived.Test.YtifloafhpeeepaaGreatStuB
import Derived.Deep.Strs
import Derived.Test.YtifloafhpeeepaaGreatGbL
namespace Go.Proofs.YtifloafhpeeepaaGreat
open Go.RowKit Go.ChangeShapes Go.WideShapes Go.ChangeAt Go.Deep

section
variable {H : Type} {enc : TypeId × Value → H} {w : World} {base : Nat} {spare : Nat → Bool} {held : Bool}
set_option maxRecDepth 100000 in
theorem open_int {t : TypeId} {v : Value} {d : DataW H} {p : List MemPlace} {b0 : Nat} (ht : Tryz.prog.underlying t = some (.int .i64)) (hok : Value.okWide Tryz.prog w .any base t v) (h : DataW.Trod enc Tryz.prog w b0 spare held t v d p) :
    ∃ x : Int, v = .int .i64 x ∧ d = .lit (.int .i64 x) ∧ p = [] ∧ (Lit.int .i64 x).wf = true := by
  obtain ⟨x, rfl⟩ := okWide_int ht hok
  obtain ⟨f, h⟩ := h
  obtain ⟨k, hk, hd, wk⟩ := DataW.trod_int ht h
  simp only [Value.cells, List.cons.injEq, and_true, Value.int.injEq, true_and] at hk
  subst hk
  injection hd with h1 h2
  exact ⟨_, rfl, h1, h2, wk⟩
end
end Go.Proofs.YtifloafhpeeepaaGreat

namespace Go.Proofs.YtifloafhpeeepaaGreat
open Go.RowKit Go.ChangeShapes Go.WideShapes Go.ChangeAt Go.Deep
section
variable {H : Type} {enc : TypeId × Value → H} {w : World} {base : Nat} {spare : Nat → Bool} {held : Bool}
def ReadsO6 (w : World) (cs : List Value) (d : DataW H) (o : OpS) : Prop := ROp w cs o ∧ OneCells cs ∧ o.row.length ≤ Rows.uptoBulk d ∧ (∀ v ∈ o.row, v.t.size ≤ Rows.uptoBulk d) ∧ wfR o.row
set_option maxRecDepth 100000 in
theorem reads_o6 (n : Nat) (cs : List Value) (y : DataW H × List MemPlace) (h : DataW.trod enc Tryz.prog w base spare held n 62 cs = some y) : ∃ o : OpS, ReadsO6 w cs y.1 o := by
  obtain ⟨y0, y1, y2, m, rfl, hl, h0, h1, h2⟩ := trod_struct3 Tryz.underlying62 h
  have hc : Tryz.prog.cellsOf 62 = 3 := by kernel_rfl
  rw [hc] at hl
  match cs, hl with
  | [c0, c1, c2], _ =>
    have e0 : Tryz.prog.cellsOf 3 = 1 := by kernel_rfl
    have e1 : Tryz.prog.cellsOf 30 = 1 := by kernel_rfl
    simp only [e0, e1, List.drop_zero, List.drop_succ_cons, List.take_succ_cons, List.take_zero] at h0 h1 h2
    obtain ⟨k, hk, hd0, _⟩ := DataW.trod_int Tryz.underlying3 h0
    obtain ⟨q, hq, hd1, _⟩ := DataW.trod_int Tryz.underlying3 h1
    obtain ⟨A, n', c, r, hr, g1, _, g3, g4, g5⟩ := open_row Tryz.underlying30 h2
    simp only [List.cons.injEq, and_true] at hk hq hr
    subst hk; subst hq; subst hr
    have hlen := g1.len
    refine ⟨⟨k, q, r⟩, ⟨A, n', c, rfl, g1⟩, fun v hv => ?_, ?_, fun v hv => ?_, g5⟩
    · simp only [List.mem_cons, List.not_mem_nil, or_false] at hv
      rcases hv with rfl | rfl | rfl <;> rfl
    · show r.length ≤ _
      simp only [Rows.uptoBulk, Rows.uptoBulkAll]; omega
    · have := g4 v hv
      simp only [Rows.uptoBulk, Rows.uptoBulkAll]; omega
set_option maxRecDepth 100000 in
/-- a script that came in -/
theorem open_ops6 {t : TypeId} {fuel : Nat} {cs : List Value} {x : DataW H × List MemPlace} (ht : Tryz.prog.underlying t = some (.slice 62)) (h : DataW.trod enc Tryz.prog w base spare held fuel t cs = some x) :
    ∃ (A : Option Addr) (n c : Nat) (ops : List OpS), cs = [.slice A n c] ∧ LAt ROp 3 w A n ops ∧ n ≤ c ∧ n ≤ Rows.uptoBulk x.1 ∧ (∀ r ∈ ops, r.row.length ≤ Rows.uptoBulk x.1 ∧ ∀ v ∈ r.row, v.t.size ≤ Rows.uptoBulk x.1) ∧ ∀ r ∈ ops, wfR r.row := by
  obtain ⟨A, n, c, rows, D, rfl, hl, hD, hc, hd, hx⟩ := open_list (ReadsO6 w) (by omega) ht (size := 3) (by kernel_rfl) reads_o6 h
  have hmem : ∀ r ∈ rows, ∃ cs d, d ∈ D ∧ ReadsO6 w cs d r := fun r hr => by
    obtain ⟨i, hi, e⟩ := List.getElem_of_mem hr
    obtain ⟨b, off, _, hat⟩ := hx (by omega)
    obtain ⟨cs, d, h1, _, h3, _⟩ := hat i r (by rw [List.getElem?_eq_getElem hi, e])
    exact ⟨cs, d, List.mem_of_getElem? h1, h3⟩
  have hbulk : n ≤ Rows.uptoBulk x.1 ∧ ∀ d ∈ D, Rows.uptoBulk d ≤ Rows.uptoBulk x.1 := by
    rcases hd with ⟨h1, h2⟩ | ⟨sp, h1⟩
    · subst h2
      have h0 : n = 0 := hl
      have hD0 : D = [] := List.eq_nil_of_length_eq_zero (by omega)
      subst hD0
      exact ⟨by omega, fun d hd => by cases hd⟩
    · rw [h1, hD]
      refine ⟨bulk_slice, fun d hd => ?_⟩
      have := bulk_mem hd
      simp only [Rows.uptoBulk]; omega
  refine ⟨A, n, c, rows, rfl, ?_, hc, hbulk.1, fun r hr => ?_, fun r hr => ?_⟩
  · rcases Nat.eq_zero_or_pos n with h0 | h0
    · subst h0
      have : rows = [] := List.eq_nil_of_length_eq_zero hl.symm
      subst this
      exact LAt.nil _
    · obtain ⟨b, off, rfl, hat⟩ := hx h0
      obtain ⟨cells, e1, e2⟩ := lat_mk (R := ROp) (s := 3) (w := w) (b := b) rows off (fun i y hy => by
        obtain ⟨cs, d, _, h2, h3, h4⟩ := hat i y hy
        exact ⟨cs, h2, h3.2.1, h3.1, h4⟩)
      exact ⟨hl, cells, e1, by rw [e1.len, hl], fun _ => ⟨b, off, rfl, e2⟩⟩
  · obtain ⟨cs, d, hdD, _, _, h3, h4, _⟩ := hmem r hr
    have := hbulk.2 d hdD
    exact ⟨by omega, fun v hv => Nat.le_trans (h4 v hv) this⟩
  · obtain ⟨cs, d, hdD, _, _, _, _, h5⟩ := hmem r hr
    exact h5
end
end Go.Proofs.YtifloafhpeeepaaGreat

namespace Go.Proofs.YtifloafhpeeepaaGreat
open Go.RowKit Go.ChangeShapes Go.WideShapes Go.ChangeAt Go.Deep
section
variable {H : Type} {enc : TypeId × Value → H} {w : World} {base : Nat} {spare : Nat → Bool} {held : Bool}

def ReadsNs (w : World) (cs : List Value) (d : DataW H) (g : List Int) : Prop := ∃ A c, cs = [.slice A g.length c] ∧ NumAt w A g.length g ∧ g.length ≤ Rows.uptoBulk d
theorem reads_ns (n : Nat) (cs : List Value) (y : DataW H × List MemPlace) (h : DataW.trod enc Tryz.prog w base spare held n 27 cs = some y) : ∃ g : List Int, ReadsNs w cs y.1 g := by
  obtain ⟨A, k, c, g, rfl, h1, _, h3, _⟩ := open_ints' Tryz.underlying27 h
  obtain rfl := h1.len
  exact ⟨g, A, c, rfl, h1, h3⟩
set_option maxRecDepth 100000 in
/-- rows of numbers that came in -/
theorem open_nums {t : TypeId} {fuel : Nat} {cs : List Value} {x : DataW H × List MemPlace} (ht : Tryz.prog.underlying t = some (.slice 27)) (h : DataW.trod enc Tryz.prog w base spare held fuel t cs = some x) :
    ∃ (A : Option Addr) (n c : Nat) (gs : List (List Int)), cs = [.slice A n c] ∧ NumsAt w A n gs ∧ n ≤ c ∧ n ≤ Rows.uptoBulk x.1 ∧ ∀ g ∈ gs, g.length ≤ Rows.uptoBulk x.1 := by
  obtain ⟨A, n, c, gs, D, rfl, hl, hD, hc, hd, hx⟩ := open_list (ReadsNs w) (by omega) ht (size := 1) (by kernel_rfl) reads_ns h
  have hbulk : n ≤ Rows.uptoBulk x.1 ∧ ∀ d ∈ D, Rows.uptoBulk d ≤ Rows.uptoBulk x.1 := by
    rcases hd with ⟨h1, h2⟩ | ⟨sp, h1⟩
    · subst h2
      have h0 : n = 0 := hl
      have hD0 : D = [] := List.eq_nil_of_length_eq_zero (by omega)
      subst hD0
      exact ⟨by omega, fun d hd => by cases hd⟩
    · rw [h1, hD]
      refine ⟨bulk_slice, fun d hd => ?_⟩
      have := bulk_mem hd
      simp only [Rows.uptoBulk]; omega
  refine ⟨A, n, c, gs, rfl, ⟨hl, ?_⟩, hc, hbulk.1, fun g hg => ?_⟩
  · rcases Nat.eq_zero_or_pos n with h0 | h0
    · subst h0
      have : gs = [] := List.eq_nil_of_length_eq_zero hl.symm
      subst this
      exact ⟨[], Sl.nil _ _ _, fun k g hg => by simp at hg⟩
    · obtain ⟨b, off, hA, hat⟩ := hx h0
      refine ⟨(List.range n).map fun i => (w.cell? ⟨b, off + i, none⟩).getD .nilFunc, ⟨by simp, fun _ => ⟨b, off, hA, fun j u hu => ?_⟩⟩, fun k g hg => ?_⟩
      · have hj : j < n := by have := (List.getElem?_eq_some_iff.1 hu).1; simpa using this
        obtain ⟨cs', d, _, _, ⟨A1, c1, rfl, _⟩, hcell⟩ := hat j gs[j] (List.getElem?_eq_getElem (by omega))
        have h1 := hcell 0 (by omega)
        simp only [Nat.mul_one, Nat.add_zero, List.getElem?_cons_zero] at h1
        simp only [List.getElem?_map, List.getElem?_range hj, Option.map_some, Option.some.injEq] at hu
        rw [h1] at hu ⊢
        rw [← hu]; rfl
      · have hk : k < n := by have := (List.getElem?_eq_some_iff.1 hg).1; omega
        obtain ⟨cs', d, _, _, ⟨A1, c1, rfl, h2, _⟩, hcell⟩ := hat k g hg
        have h1 := hcell 0 (by omega)
        simp only [Nat.mul_one, Nat.add_zero, List.getElem?_cons_zero] at h1
        refine ⟨A1, c1, ?_, h2⟩
        rw [List.getElem?_map, List.getElem?_range hk, Option.map_some, h1]; rfl
  · obtain ⟨i, hi, e⟩ := List.getElem_of_mem hg
    obtain ⟨b, off, _, hat⟩ := hx (by omega)
    obtain ⟨cs, d, h1, _, ⟨_, _, _, _, h3⟩, _⟩ := hat i g (by rw [List.getElem?_eq_getElem hi, e])
    exact Nat.le_trans h3 (hbulk.2 d (List.mem_of_getElem? h1))
end
end Go.Proofs.YtifloafhpeeepaaGreat
