/-
  hashidx: Keys of an empty index; HashidxNews.
  bytes.Compare at two keys.
-/
import Derived.Test.YtifloafhpeeepaaGreatHidA
import Derived.Test.YtifloafhpeeepaaGreatSort
import Derived.Lib.Bytealg
import Derived.Lib.BytesEntry
namespace Go.Proofs.YtifloafhpeeepaaGreat
open Go.RowKit

theorem sort_nil (w : World) (fv : Value) : Calls Tryz.prog 90 #[.slice none 0 0, fv] w fun e w' => e = .returned (.tuple #[]) ∧ w' = w := by
  have h := AnyF.slices_SortFunc_none (P := Tryz.prog) (ρ := Tryz.sortRows_ren) { Tryz.sortRows with } none 0 fv w
  exact h
end Go.Proofs.YtifloafhpeeepaaGreat

namespace Go.Proofs.YtifloafhpeeepaaGreat
open Go.RowKit

theorem run_bytesOf {w : World} {A : Option Addr} {n : Nat} {k : List UInt8} (h : KeyAt w A n k) (c : Nat) : (Extern.Bytes.bytesOf (.slice A n c)).run Tryz.prog w = .ok ⟨k.toArray⟩ w := by
  cases A with
  | none =>
    have hn : n = 0 := by
      rcases Nat.eq_zero_or_pos n with h0 | h0
      · exact h0
      · obtain ⟨b, off, hA, _⟩ := h.2 h0; cases hA
    have := h.len
    obtain rfl : k = [] := List.eq_nil_of_length_eq_zero (by omega)
    rfl
  | some a =>
    have hl := h.len
    have hb : Lib.bytesOf (k.map fun b => (b.toNat : Int)) = k := by
      unfold Lib.bytesOf
      simp [List.map_map, Function.comp_def]
    have := Lib.run_loadBytesX (P := Tryz.prog) (w := w) (k.map fun b => (b.toNat : Int)) a .empty (fun j x hx => by
      simp only [List.getElem?_map, Option.map_eq_some_iff] at hx
      obtain ⟨y, hy, rfl⟩ := hx
      have hj : j < n := by rw [hl]; exact (List.getElem?_eq_some_iff.1 hy).1
      obtain ⟨b, off, hA, hc⟩ := h.2 (by omega)
      injection hA with hA
      subst hA
      rw [add_flat]
      exact hc j _ (by simp [bytC, hy]))
    rw [List.length_map, ← hl, hb] at this
    rw [Extern.Bytes.bytesOf, this]
    simp
theorem run_compareKeys {w : World} {A B : Option Addr} {n m : Nat} {k l : List UInt8} (ha : KeyAt w A n k) (hb : KeyAt w B m l) (c d : Nat) :
    (Extern.BytealgCompare.compare #[.slice A n c, .slice B m d]).run Tryz.prog w = .ok (.int .i64 (Lib.compareBytes k l)) w := by
  change Sem.run Tryz.prog (do pure (goInt (Extern.BytealgCompare.cmp (← Extern.Bytes.bytesOf (.slice A n c)) (← Extern.Bytes.bytesOf (.slice B m d))))) w = _
  simp only [Sem.run_bind, Sem.run_pure, run_bytesOf ha, run_bytesOf hb, Result.andThen]
  rw [Lib.cmp_eq]
  rfl
set_option maxRecDepth 100000 in
theorem cmp_keys {w : World} {A B : Option Addr} {n m : Nat} {k l : List UInt8} (ha : KeyAt w A n k) (hb : KeyAt w B m l) (c d : Nat) :
    Calls Tryz.prog 91 #[.slice A n c, .slice B m d] w fun e w' => e = .returned (.int .i64 (Lib.compareBytes k l)) ∧ w' = w := by
  have HC := hide (run_compareKeys ha hb c d)
  clear ha hb
  go_enter Tryz.func91, Tryz.ntmps91
  go_wp2
  rw [run_callFunc_extern Tryz.func117 (by kernel_rfl) (by kernel_rfl) (by kernel_rfl) (e := Extern.BytealgCompare.compare) (by kernel_rfl), HC.out]
  simp only [Result.andThen]
  rw [Oper.upon_value]
  go_wp2
  go_ret
  exact ⟨rfl, rfl⟩
end Go.Proofs.YtifloafhpeeepaaGreat
