/-
  How lists of rows among the arguments are opened.
-/
import Derived.Test.YtifloafhpeeepaaClose2
import Derived.Test.YtifloafhpeeepaaGround
namespace Go.Proofs.Ytifloafhpeeepaa
open Go.RowKit Go.ChangeShapes Go.WideShapes Go.ChangeAt Go.Deep
section
variable {H : Type} {enc : TypeId × Value → H} {w : World} {base : Nat} {spare : Nat → Bool} {held : Bool}

def ReadsRw (w : World) (cs : List Value) (d : DataW H) (r : List V) : Prop := RRow w cs r ∧ OneCells cs ∧ r.length ≤ Rows.uptoBulk d ∧ (∀ v ∈ r, v.t.size ≤ Rows.uptoBulk d) ∧ wfR r
theorem reads_rw (n : Nat) (cs : List Value) (y : DataW H × List MemPlace) (h : DataW.trod enc Try.prog w base spare held n 36 cs = some y) : ∃ r : List V, ReadsRw w cs y.1 r := by
  obtain ⟨A, k, c, r, rfl, h1, _, h3, h4, h5⟩ := open_row Try.underlying36 h
  exact ⟨r, ⟨A, k, c, rfl, h1⟩, fun v hv => by obtain rfl := List.mem_singleton.1 hv; rfl, by have := h1.len; omega, h4, h5⟩
set_option maxRecDepth 100000 in
/-- rows that came in -/
theorem open_rows {t : TypeId} {fuel : Nat} {cs : List Value} {x : DataW H × List MemPlace} (ht : Try.prog.underlying t = some (.slice 36)) (h : DataW.trod enc Try.prog w base spare held fuel t cs = some x) :
    ∃ (A : Option Addr) (n c : Nat) (rows : List (List V)), cs = [.slice A n c] ∧ LAt RRow 1 w A n rows ∧ n ≤ c ∧ n ≤ Rows.uptoBulk x.1 ∧ (∀ r ∈ rows, r.length ≤ Rows.uptoBulk x.1 ∧ ∀ v ∈ r, v.t.size ≤ Rows.uptoBulk x.1) ∧ ∀ r ∈ rows, wfR r := by
  obtain ⟨A, n, c, rows, D, rfl, hl, hD, hc, hd, hx⟩ := open_list (ReadsRw w) (by omega) ht (size := 1) (by kernel_rfl) reads_rw h
  have hmem : ∀ r ∈ rows, ∃ cs d, d ∈ D ∧ ReadsRw w cs d r := fun r hr => by
    obtain ⟨i, hi, e⟩ := List.getElem_of_mem hr
    obtain ⟨b, off, _, hat⟩ := hx (by omega)
    obtain ⟨cs, d, h1, _, h3, _⟩ := hat i r (by rw [List.getElem?_eq_getElem hi, e])
    exact ⟨cs, d, List.mem_of_getElem? h1, h3⟩
  have hbulk : n ≤ Rows.uptoBulk x.1 ∧ ∀ d ∈ D, Rows.uptoBulk d ≤ Rows.uptoBulk x.1 := by
    rcases hd with ⟨h1, h2⟩ | ⟨sp, h1⟩
    · subst h2
      have h0 : n = 0 := hl
      have hD0 : D = [] := List.eq_nil_of_length_eq_zero (by omega)
      subst hD0
      exact ⟨by omega, fun d hd => by cases hd⟩
    · rw [h1, hD]
      refine ⟨bulk_slice, fun d hd => ?_⟩
      have := bulk_mem hd
      simp only [Rows.uptoBulk]; omega
  refine ⟨A, n, c, rows, rfl, ?_, hc, hbulk.1, fun r hr => ?_, fun r hr => ?_⟩
  · rcases Nat.eq_zero_or_pos n with h0 | h0
    · subst h0
      have : rows = [] := List.eq_nil_of_length_eq_zero hl.symm
      subst this
      exact LAt.nil _
    · obtain ⟨b, off, rfl, hat⟩ := hx h0
      obtain ⟨cells, e1, e2⟩ := lat_mk (R := RRow) (s := 1) (w := w) (b := b) rows off (fun i y hy => by
        obtain ⟨cs, d, _, h2, h3, h4⟩ := hat i y hy
        exact ⟨cs, h2, h3.2.1, h3.1, h4⟩)
      exact ⟨hl, cells, e1, by rw [e1.len, hl], fun _ => ⟨b, off, rfl, e2⟩⟩
  · obtain ⟨cs, d, hdD, _, _, h3, h4, _⟩ := hmem r hr
    have := hbulk.2 d hdD
    exact ⟨by omega, fun v hv => Nat.le_trans (h4 v hv) this⟩
  · obtain ⟨cs, d, hdD, _, _, _, _, h5⟩ := hmem r hr
    exact h5
end
end Go.Proofs.Ytifloafhpeeepaa
