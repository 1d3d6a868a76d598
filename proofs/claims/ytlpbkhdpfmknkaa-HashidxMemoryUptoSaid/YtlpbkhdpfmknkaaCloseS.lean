/-
  How texts among the arguments are opened.
-/
import Derived.Test.YtlpbkhdpfmknkaaCloseI
import Derived.Test.YtlpbkhdpfmknkaaHidX
namespace Go.Proofs.Ytlpbkhdpfmknkaa
open Go.RowKit Go.ChangeShapes Go.WideShapes Go.ChangeAt Go.Deep
section
variable {H : Type} {enc : TypeId × Value → H} {w : World} {base : Nat} {spare : Nat → Bool} {held : Bool}
def ReadsS (cs : List Value) (d : DataW H) (s : ByteArray) : Prop := cs = [.string s] ∧ s.size ≤ Rows.uptoBulk d
theorem reads_str (n : Nat) (cs : List Value) (y : DataW H × List MemPlace) (h : DataW.trod enc Try.prog w base spare held n 9 cs = some y) : ∃ s : ByteArray, ReadsS cs y.1 s := by
  obtain ⟨s, hs, rfl, _⟩ := DataW.trod_string Try.underlying9 h
  exact ⟨s, hs, by simp only [Rows.uptoBulk]; have : s.data.toList.length = s.size := Array.length_toList; omega⟩
set_option maxRecDepth 100000 in
/-- texts that came in -/
theorem open_texts' {t : TypeId} {fuel : Nat} {cs : List Value} {x : DataW H × List MemPlace} (ht : Try.prog.underlying t = some (.slice 9)) (h : DataW.trod enc Try.prog w base spare held fuel t cs = some x) :
    ∃ (A : Option Addr) (n c : Nat) (xs : List ByteArray), cs = [.slice A n c] ∧ TextsAt w A n xs ∧ n ≤ c ∧ n ≤ Rows.uptoBulk x.1 ∧ ∀ s ∈ xs, s.size ≤ Rows.uptoBulk x.1 := by
  obtain ⟨A, n, c, r, D, rfl, hl, hD, hc, hd, hx⟩ := open_list ReadsS (by omega) ht (size := 1) (by kernel_rfl) reads_str h
  refine ⟨A, n, c, r, rfl, ⟨by rw [List.length_map]; omega, fun hn => ?_⟩, hc, ?_, fun v hv => ?_⟩
  · obtain ⟨b, off, hA, hat⟩ := hx hn
    refine ⟨b, off, hA, fun j u hu => ?_⟩
    simp only [List.getElem?_map, Option.map_eq_some_iff] at hu
    obtain ⟨v, hv, rfl⟩ := hu
    obtain ⟨cs', d, _, _, ⟨rfl, _⟩, hcell⟩ := hat j v hv
    have := hcell 0 (by omega)
    simpa using this
  · rcases hd with ⟨h1, h2⟩ | ⟨sp, h1⟩
    · subst h2; simp at hl; omega
    · rw [h1, hD]; exact bulk_slice
  · obtain ⟨i, hi, e⟩ := List.getElem_of_mem hv
    obtain ⟨b, off, _, hat⟩ := hx (by omega)
    obtain ⟨cs', d, hdi, _, hr, _⟩ := hat i v (by rw [List.getElem?_eq_getElem hi, e])
    rcases hd with ⟨h1, h2⟩ | ⟨sp, h1⟩
    · subst h2; cases hv
    · have h2 := bulk_mem (List.mem_of_getElem? hdi)
      have h3 := hr.2
      rw [h1]
      simp only [Rows.uptoBulk]
      omega
end
end Go.Proofs.Ytlpbkhdpfmknkaa
