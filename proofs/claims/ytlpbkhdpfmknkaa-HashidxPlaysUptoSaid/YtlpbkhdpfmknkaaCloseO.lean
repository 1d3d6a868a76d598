/-
  How a script among the arguments is opened.
-/
import Derived.Test.YtlpbkhdpfmknkaaCloseI
import Derived.Test.YtlpbkhdpfmknkaaPlayW
import Derived.Lib.SmallJoins
namespace Go.Proofs.Ytlpbkhdpfmknkaa
open Go.RowKit Go.ChangeShapes Go.WideShapes Go.ChangeAt Go.Deep
section
variable {H : Type} {enc : TypeId × Value → H} {w : World} {base : Nat} {spare : Nat → Bool} {held : Bool}
theorem lat_open {α : Type} {R : World → List Value → α → Prop} {Rr : List Value → DataW H → α → Prop} {s : Nat} {A : Option Addr} {n : Nat} {xs : List α} {D : List (DataW H)} (hn : n = xs.length)
    (hR : ∀ cs d x, Rr cs d x → R w cs x ∧ OneCells cs)
    (h : 0 < n → ∃ b off, A = some ⟨b, off, none⟩ ∧ ∀ (i : Nat) (y : α), xs[i]? = some y → ∃ cs' d, D[i]? = some d ∧ cs'.length = s ∧ Rr cs' d y ∧ ∀ j, j < s → w.cell? ⟨b, off + i * s + j, none⟩ = cs'[j]?) : LAt R s w A n xs := by
  rcases Nat.eq_zero_or_pos n with h0 | h0
  · subst h0
    have : xs = [] := List.eq_nil_of_length_eq_zero hn.symm
    subst this
    exact LAt.nil _
  · obtain ⟨b, off, rfl, hat⟩ := h h0
    obtain ⟨cells, e1, e2⟩ := lat_mk (R := R) (s := s) (w := w) (b := b) xs off (fun i y hy => by
      obtain ⟨cs, d, _, h2, h3, h4⟩ := hat i y hy
      obtain ⟨h5, h6⟩ := hR _ _ _ h3
      exact ⟨cs, h2, h6, h5, h4⟩)
    exact ⟨hn, cells, e1, by rw [e1.len, hn], fun _ => ⟨b, off, rfl, e2⟩⟩
def ReadsO (cs : List Value) (d : DataW H) (o : OpD) : Prop := cs = o.cells ∧ o.key.size ≤ Rows.uptoBulk d
set_option maxRecDepth 100000 in
theorem reads_op (n : Nat) (cs : List Value) (y : DataW H × List MemPlace) (h : DataW.trod enc Try.prog w base spare held n 45 cs = some y) : ∃ o : OpD, ReadsO cs y.1 o := by
  obtain ⟨y0, y1, y2, y3, m, rfl, hl, h0, h1, h2, h3⟩ := Go.Joins.trod_struct4 Try.underlying45 h
  have hc : Try.prog.cellsOf 45 = 4 := by kernel_rfl
  rw [hc] at hl
  match cs, hl with
  | [c0, c1, c2, c3], _ =>
    have e0 : Try.prog.cellsOf 3 = 1 := by kernel_rfl
    have e1 : Try.prog.cellsOf 4 = 1 := by kernel_rfl
    have e2 : Try.prog.cellsOf 9 = 1 := by kernel_rfl
    simp only [e0, e1, e2, List.drop_zero, List.drop_succ_cons, List.take_succ_cons, List.take_zero] at h0 h1 h2 h3
    obtain ⟨k, hk, hd0, _⟩ := DataW.trod_int Try.underlying3 h0
    obtain ⟨b, hb, rfl⟩ := DataW.trod_bool Try.underlying4 h1
    obtain ⟨s, hs, rfl, _⟩ := DataW.trod_string Try.underlying9 h2
    obtain ⟨v, hv, hd3, _⟩ := DataW.trod_int Try.underlying3 h3
    simp only [List.cons.injEq, and_true] at hk hb hs hv
    refine ⟨⟨k, b, s, v⟩, by rw [hk, hb, hs, hv]; rfl, ?_⟩
    have : s.data.toList.length = s.size := Array.length_toList
    simp only [Rows.uptoBulk, Rows.uptoBulkAll]; omega
theorem op_one (o : OpD) : OneCells o.cells := fun v h => by
  simp only [OpD.cells, List.mem_cons, List.not_mem_nil, or_false] at h
  rcases h with rfl | rfl | rfl | rfl <;> rfl
set_option maxRecDepth 100000 in
/-- a script that came in -/
theorem open_ops' {t : TypeId} {fuel : Nat} {cs : List Value} {x : DataW H × List MemPlace} (ht : Try.prog.underlying t = some (.slice 45)) (h : DataW.trod enc Try.prog w base spare held fuel t cs = some x) :
    ∃ (A : Option Addr) (n c : Nat) (xs : List OpD), cs = [.slice A n c] ∧ OpsAt w A n xs ∧ n ≤ c ∧ n ≤ Rows.uptoBulk x.1 ∧ ∀ o ∈ xs, o.key.size ≤ Rows.uptoBulk x.1 := by
  obtain ⟨A, n, c, r, D, rfl, hl, hD, hc, hd, hx⟩ := open_list ReadsO (by omega) ht (size := 4) (by kernel_rfl) reads_op h
  refine ⟨A, n, c, r, rfl, lat_open hl (fun cs d x hr => ⟨hr.1, by rw [hr.1]; exact op_one x⟩) hx, hc, ?_, fun v hv => ?_⟩
  · rcases hd with ⟨h1, h2⟩ | ⟨sp, h1⟩
    · subst h2; simp at hl; omega
    · rw [h1, hD]; exact bulk_slice
  · obtain ⟨i, hi, e⟩ := List.getElem_of_mem hv
    obtain ⟨b, off, _, hat⟩ := hx (by omega)
    obtain ⟨cs', d, hdi, _, hr, _⟩ := hat i v (by rw [List.getElem?_eq_getElem hi, e])
    rcases hd with ⟨h1, h2⟩ | ⟨sp, h1⟩
    · subst h2; cases hv
    · have h2 := bulk_mem (List.mem_of_getElem? hdi)
      have h3 := hr.2
      rw [h1]
      simp only [Rows.uptoBulk]
      omega
end
end Go.Proofs.Ytlpbkhdpfmknkaa
