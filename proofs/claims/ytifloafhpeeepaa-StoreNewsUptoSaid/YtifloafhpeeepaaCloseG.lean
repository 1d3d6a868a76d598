/-
  How lists of numbers, and lists of these, are opened.
-/
import Derived.Test.YtifloafhpeeepaaCloseI
import Derived.Test.YtifloafhpeeepaaStoJ
namespace Go.Proofs.Ytifloafhpeeepaa
open Go.RowKit Go.ChangeShapes Go.WideShapes Go.ChangeAt Go.Deep
section
variable {H : Type} {enc : TypeId × Value → H} {w : World} {base : Nat} {spare : Nat → Bool} {held : Bool}

set_option maxRecDepth 100000 in
/-- numbers that came in -/
theorem open_ints' {t : TypeId} {fuel : Nat} {cs : List Value} {x : DataW H × List MemPlace} (ht : Try.prog.underlying t = some (.slice 3)) (h : DataW.trod enc Try.prog w base spare held fuel t cs = some x) :
    ∃ (A : Option Addr) (n c : Nat) (xs : List Int), cs = [.slice A n c] ∧ NumAt w A n xs ∧ n ≤ c ∧ n ≤ Rows.uptoBulk x.1 := by
  obtain ⟨A, n, c, r, D, rfl, hl, hD, hc, hd, hx⟩ := open_list (fun cs (_ : DataW H) (v : Int) => cs = [.int .i64 v]) (by omega) ht (size := 1) (by kernel_rfl)
    (fun n cs y hy => by
      obtain ⟨k, hk, _, wk⟩ := DataW.trod_int Try.underlying3 hy
      exact ⟨k, hk⟩) h
  refine ⟨A, n, c, r, rfl, ⟨hl, by rw [List.length_map]; omega, fun hn => ?_⟩, hc, ?_⟩
  · obtain ⟨b, off, hA, hat⟩ := hx hn
    refine ⟨b, off, hA, fun j u hu => ?_⟩
    simp only [List.getElem?_map, Option.map_eq_some_iff] at hu
    obtain ⟨v, hv, rfl⟩ := hu
    obtain ⟨cs', d, _, _, rfl, hcell⟩ := hat j v hv
    have := hcell 0 (by omega)
    simpa using this
  · rcases hd with ⟨h1, h2⟩ | ⟨sp, h1⟩
    · subst h2; simp at hl; omega
    · rw [h1, hD]; exact bulk_slice
def ReadsNs (w : World) (cs : List Value) (d : DataW H) (g : List Int) : Prop := ∃ A c, cs = [.slice A g.length c] ∧ NumAt w A g.length g ∧ g.length ≤ Rows.uptoBulk d
theorem reads_ns (n : Nat) (cs : List Value) (y : DataW H × List MemPlace) (h : DataW.trod enc Try.prog w base spare held n 44 cs = some y) : ∃ g : List Int, ReadsNs w cs y.1 g := by
  obtain ⟨A, k, c, g, rfl, h1, _, h3⟩ := open_ints' Try.underlying44 h
  obtain rfl := h1.len
  exact ⟨g, A, c, rfl, h1, h3⟩
set_option maxRecDepth 100000 in
/-- rows of numbers that came in -/
theorem open_nums {t : TypeId} {fuel : Nat} {cs : List Value} {x : DataW H × List MemPlace} (ht : Try.prog.underlying t = some (.slice 44)) (h : DataW.trod enc Try.prog w base spare held fuel t cs = some x) :
    ∃ (A : Option Addr) (n c : Nat) (gs : List (List Int)), cs = [.slice A n c] ∧ NumsAt w A n gs ∧ n ≤ c ∧ n ≤ Rows.uptoBulk x.1 ∧ ∀ g ∈ gs, g.length ≤ Rows.uptoBulk x.1 := by
  obtain ⟨A, n, c, gs, D, rfl, hl, hD, hc, hd, hx⟩ := open_list (ReadsNs w) (by omega) ht (size := 1) (by kernel_rfl) reads_ns h
  have hbulk : n ≤ Rows.uptoBulk x.1 ∧ ∀ d ∈ D, Rows.uptoBulk d ≤ Rows.uptoBulk x.1 := by
    rcases hd with ⟨h1, h2⟩ | ⟨sp, h1⟩
    · subst h2
      have h0 : n = 0 := hl
      have hD0 : D = [] := List.eq_nil_of_length_eq_zero (by omega)
      subst hD0
      exact ⟨by omega, fun d hd => by cases hd⟩
    · rw [h1, hD]
      refine ⟨bulk_slice, fun d hd => ?_⟩
      have := bulk_mem hd
      simp only [Rows.uptoBulk]; omega
  refine ⟨A, n, c, gs, rfl, ⟨hl, ?_⟩, hc, hbulk.1, fun g hg => ?_⟩
  · rcases Nat.eq_zero_or_pos n with h0 | h0
    · subst h0
      have : gs = [] := List.eq_nil_of_length_eq_zero hl.symm
      subst this
      exact ⟨[], Sl.nil _ _ _, fun k g hg => by simp at hg⟩
    · obtain ⟨b, off, hA, hat⟩ := hx h0
      refine ⟨(List.range n).map fun i => (w.cell? ⟨b, off + i, none⟩).getD .nilFunc, ⟨by simp, fun _ => ⟨b, off, hA, fun j u hu => ?_⟩⟩, fun k g hg => ?_⟩
      · have hj : j < n := by have := (List.getElem?_eq_some_iff.1 hu).1; simpa using this
        obtain ⟨cs', d, _, _, ⟨A1, c1, rfl, _⟩, hcell⟩ := hat j gs[j] (List.getElem?_eq_getElem (by omega))
        have h1 := hcell 0 (by omega)
        simp only [Nat.mul_one, Nat.add_zero, List.getElem?_cons_zero] at h1
        simp only [List.getElem?_map, List.getElem?_range hj, Option.map_some, Option.some.injEq] at hu
        rw [h1] at hu ⊢
        rw [← hu]; rfl
      · have hk : k < n := by have := (List.getElem?_eq_some_iff.1 hg).1; omega
        obtain ⟨cs', d, _, _, ⟨A1, c1, rfl, h2, _⟩, hcell⟩ := hat k g hg
        have h1 := hcell 0 (by omega)
        simp only [Nat.mul_one, Nat.add_zero, List.getElem?_cons_zero] at h1
        refine ⟨A1, c1, ?_, h2⟩
        rw [List.getElem?_map, List.getElem?_range hk, Option.map_some, h1]; rfl
  · obtain ⟨i, hi, e⟩ := List.getElem_of_mem hg
    obtain ⟨b, off, _, hat⟩ := hx (by omega)
    obtain ⟨cs, d, h1, _, ⟨_, _, _, _, h3⟩, _⟩ := hat i g (by rw [List.getElem?_eq_getElem hi, e])
    exact Nat.le_trans h3 (hbulk.2 d (List.mem_of_getElem? h1))
end
end Go.Proofs.Ytifloafhpeeepaa
