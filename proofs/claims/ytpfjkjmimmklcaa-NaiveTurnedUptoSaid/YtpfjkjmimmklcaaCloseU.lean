/-
  Tables among the arguments: each table's rows are fewer than the bulk.
-/
import Derived.Test.YtpfjkjmimmklcaaCloseA
namespace Go.Proofs.Ytpfjkjmimmklcaa
open Go.RowKit Go.ChangeShapes Go.WideShapes Go.ChangeAt Go.Deep
section
variable {H : Type} {enc : TypeId × Value → H} {w : World} {base : Nat} {spare : Nat → Bool} {held : Bool}

def ReadsTu (w : World) (cs : List Value) (d : DataW H) (t : Tbl) : Prop := ReadsTb w cs d t ∧ t.rows.length + 1 ≤ Rows.uptoBulk d
set_option maxRecDepth 100000 in
theorem reads_tabu (n : Nat) (cs : List Value) (y : DataW H × List MemPlace) (h : DataW.trod enc Try.prog w base spare held n 43 cs = some y) : ∃ t : Tbl, ReadsTu w cs y.1 t := by
  obtain ⟨y0, y1, m, rfl, hl, h0, h1⟩ := trod_struct2 Try.underlying43 h
  have hc : Try.prog.cellsOf 43 = 2 := by kernel_rfl
  rw [hc] at hl
  match cs, hl with
  | [c0, c1], _ =>
    have e0 : Try.prog.cellsOf 9 = 1 := by kernel_rfl
    have e1 : Try.prog.cellsOf 27 = 1 := by kernel_rfl
    simp only [e0, e1, List.drop_zero, List.drop_succ_cons, List.take_succ_cons, List.take_zero] at h0 h1
    obtain ⟨s, hs, rfl, ws⟩ := DataW.trod_string Try.underlying9 h0
    obtain ⟨A, k, c, rows, he, hk, hkc, hb, h3, h4⟩ := open_rows Try.underlying27 h1
    simp only [List.cons.injEq, and_true] at hs he
    have hm : Rows.uptoBulk y1.1 ≤ Rows.uptoBulk (.agg [.lit (.string s.data.toList), y1.1]) := by simp only [Rows.uptoBulk, Rows.uptoBulkAll]; omega
    refine ⟨⟨s, rows⟩, ⟨⟨A, k, c, by rw [hs, he], hk⟩, ?_, ?_, ?_, ?_⟩, ?_⟩
    · intro v hv
      rw [hs, he] at hv
      simp only [List.mem_cons, List.not_mem_nil, or_false] at hv
      rcases hv with rfl | rfl <;> rfl
    · have : s.data.toList.length = s.size := Array.length_toList
      simp only [Rows.uptoBulk, Rows.uptoBulkAll]; omega
    · have := hk.len
      exact Nat.le_trans (by omega : rows.length ≤ Rows.uptoBulk y1.1) hm
    · intro r hr
      exact ⟨Nat.le_trans (h3 r hr).1 hm, fun v hv => Nat.le_trans ((h3 r hr).2 v hv) hm, h4 r hr⟩
    · have := hk.len
      simp only [Rows.uptoBulk, Rows.uptoBulkAll]
      omega

set_option maxRecDepth 100000 in
/-- tables that came in -/
theorem open_tabu {t : TypeId} {fuel : Nat} {cs : List Value} {x : DataW H × List MemPlace} (ht : Try.prog.underlying t = some (.slice 43)) (h : DataW.trod enc Try.prog w base spare held fuel t cs = some x) :
    ∃ (A : Option Addr) (n c : Nat) (data : List Tbl), cs = [.slice A n c] ∧ LAt RB 2 w A n data ∧ n ≤ c ∧ n ≤ Rows.uptoBulk x.1 ∧ (∀ t ∈ data, smallTb (Rows.uptoBulk x.1) t) ∧ ∀ t ∈ data, t.rows.length + 1 ≤ Rows.uptoBulk x.1 := by
  obtain ⟨A, n, c, data, D, rfl, hl, hD, hc, hd, hx⟩ := open_list (ReadsTu w) (by omega) ht (size := 2) (by kernel_rfl) reads_tabu h
  obtain ⟨b1, b2⟩ := bulk_list hd (hl.symm.trans hD)
  have hall := each_open hl hx
  refine ⟨A, n, c, data, rfl, lat_open hl (fun cs d x hr => ⟨hr.1.1, hr.1.2.1⟩) hx, hc, by omega, fun t ht => ?_, fun t ht => ?_⟩
  · obtain ⟨cs, d, hdD, ⟨_, _, h2⟩, _⟩ := hall t ht
    exact h2.mono (b2 d hdD)
  · obtain ⟨cs, d, hdD, _, h2⟩ := hall t ht
    exact Nat.le_trans h2 (b2 d hdD)
end
end Go.Proofs.Ytpfjkjmimmklcaa
