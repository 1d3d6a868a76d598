import Derived.Test.YtifloafhpeeepaaClose
import Derived.Test.YtifloafhpeeepaaGaG
namespace Go.Proofs.Ytifloafhpeeepaa
open Go.RowKit Go.ChangeShapes Go.WideShapes Go.ChangeAt Go.Deep
section
variable {H : Type} {enc : TypeId × Value → H} {w : World} {base : Nat} {spare : Nat → Bool} {held : Bool}

theorem int_range {x : Int} (h : (Lit.int .i64 x).wf = true) : -9223372036854775808 ≤ x ∧ x ≤ 9223372036854775807 := by
  simp only [Lit.wf, IntKind.min, IntKind.max, IntKind.signed, IntKind.bits, Bool.and_eq_true, decide_eq_true_eq] at h
  simpa using h

set_option maxRecDepth 100000 in
/-- numbers that came in -/
theorem open_ints' {t : TypeId} {fuel : Nat} {cs : List Value} {x : DataW H × List MemPlace} (ht : Try.prog.underlying t = some (.slice 3)) (h : DataW.trod enc Try.prog w base spare held fuel t cs = some x) :
    ∃ (A : Option Addr) (n c : Nat) (xs : List Int), cs = [.slice A n c] ∧ NumAt w A n xs ∧ n ≤ c ∧ n ≤ Rows.uptoBulk x.1 ∧ wfI xs := by
  obtain ⟨A, n, c, r, D, rfl, hl, hD, hc, hd, hx⟩ := open_list (fun cs (_ : DataW H) (v : Int) => cs = [.int .i64 v] ∧ (Lit.int .i64 v).wf = true) (by omega) ht (size := 1) (by kernel_rfl)
    (fun n cs y hy => by
      obtain ⟨k, hk, _, wk⟩ := DataW.trod_int Try.underlying3 hy
      exact ⟨k, hk, wk⟩) h
  refine ⟨A, n, c, r, rfl, ⟨hl, by rw [List.length_map]; omega, fun hn => ?_⟩, hc, ?_, fun v hv => ?_⟩
  · obtain ⟨b, off, hA, hat⟩ := hx hn
    refine ⟨b, off, hA, fun j u hu => ?_⟩
    simp only [List.getElem?_map, Option.map_eq_some_iff] at hu
    obtain ⟨v, hv, rfl⟩ := hu
    obtain ⟨cs', d, _, _, ⟨rfl, _⟩, hcell⟩ := hat j v hv
    have := hcell 0 (by omega)
    simpa using this
  · rcases hd with ⟨h1, h2⟩ | ⟨sp, h1⟩
    · subst h2; simp at hl; omega
    · rw [h1, hD]; exact bulk_slice
  · obtain ⟨i, hi, e⟩ := List.getElem_of_mem hv
    obtain ⟨b, off, _, hat⟩ := hx (by omega)
    obtain ⟨cs', d, _, _, hr, _⟩ := hat i v (by rw [List.getElem?_eq_getElem hi, e])
    exact int_range hr.2
end
end Go.Proofs.Ytifloafhpeeepaa
