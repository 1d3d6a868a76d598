import Derived.Test.YtoahckibhmoikaaDoorClose2
import Derived.Test.YtoahckibhmoikaaDoorUnpOne
namespace Go.Proofs.YtoahckibhmoikaaDoor
open Go.RowKit Go.ChangeShapes Go.WideShapes Go.ChangeAt Go.Deep
section
variable {H : Type} {enc : TypeId × Value → H} {w : World} {base : Nat} {spare : Nat → Bool} {held : Bool}

theorem byte_range {x : Int} (h : (Lit.int .u8 x).wf = true) : 0 ≤ x ∧ x ≤ 255 := by
  simp only [Lit.wf, IntKind.min, IntKind.max, IntKind.signed, IntKind.bits, Bool.and_eq_true, decide_eq_true_eq] at h
  simpa using h

set_option maxRecDepth 100000 in
/-- bytes that came in -/
theorem open_bytes' {t : TypeId} {fuel : Nat} {cs : List Value} {x : DataW H × List MemPlace} (ht : Tryd.prog.underlying t = some (.slice 5)) (h : DataW.trod enc Tryd.prog w base spare held fuel t cs = some x) :
    ∃ (A : Option Addr) (n c : Nat) (xs : List UInt8), cs = [.slice A n c] ∧ BytesAt w A n xs ∧ n ≤ c ∧ n ≤ Rows.uptoBulk x.1 := by
  obtain ⟨A, n, c, r, D, rfl, hl, hD, hc, hd, hx⟩ := open_list (fun cs (_ : DataW H) (v : UInt8) => cs = [.int .u8 (v.toNat : Int)]) (by omega) ht (size := 1) (by kernel_rfl)
    (fun n cs y hy => by
      obtain ⟨k, hk, _, wk⟩ := DataW.trod_int Tryd.underlying5 hy
      have hr := byte_range wk
      refine ⟨UInt8.ofNat k.toNat, ?_⟩
      rw [hk, UInt8.toNat_ofNat']
      congr 2; omega) h
  refine ⟨A, n, c, r, rfl, ⟨by rw [bcells_len]; omega, fun hn => ?_⟩, hc, ?_⟩
  · obtain ⟨b, off, hA, hat⟩ := hx hn
    refine ⟨b, off, hA, fun j u hu => ?_⟩
    simp only [bcells, List.getElem?_map, Option.map_eq_some_iff] at hu
    obtain ⟨v, hv, rfl⟩ := hu
    obtain ⟨cs', d, _, _, rfl, hcell⟩ := hat j v hv
    have := hcell 0 (by omega)
    simpa using this
  · rcases hd with ⟨h1, h2⟩ | ⟨sp, h1⟩
    · subst h2; simp at hl; omega
    · rw [h1, hD]; exact bulk_slice
end
end Go.Proofs.YtoahckibhmoikaaDoor
