/-
  Numbers in rows of a call's own, by the document: copied, compared.
-/
import Derived.Test.YtpfjkjmimmklcaaCon
namespace Go.Proofs.Ytpfjkjmimmklcaa
open Go.RowKit
/-- natural numbers lie there -/
def RN : World → List Value → Nat → Prop := RFlat fun (j : Nat) => [.int .i64 (j : Int)]
theorem RN.stab : Stab RN := RFlat.stab _
theorem rn_flat : ∀ im : List Nat, im.flatMap (fun (j : Nat) => [Value.int .i64 (j : Int)]) = intC im
  | [] => rfl
  | j :: im => by rw [List.flatMap_cons, rn_flat im]; rfl
theorem intC_els (w : World) (im : List Nat) : Els RN 1 w (intC im) im := by
  have := Els.flat (f := fun (j : Nat) => [Value.int .i64 (j : Int)]) (s := 1) (w := w) (fun _ => rfl) (fun x v h => by obtain rfl := List.mem_singleton.1 h; rfl) im
  rwa [rn_flat] at this
theorem LAt.num {w : World} {A : Option Addr} {n : Nat} {xs : List Nat} (h : LAt RN 1 w A n xs) {i : Nat} (hi : i < n) : ∃ b off x, A = some ⟨b, off, none⟩ ∧ xs[i]? = some x ∧ b < w.heap.size ∧ w.cell? ⟨b, off + i, none⟩ = some (.int .i64 (x : Int)) := by
  obtain ⟨b, off, x, cs, h1, h2, h3, h4, h5, h6, h7⟩ := h.get (by decide) hi
  have : cs = [.int .i64 (x : Int)] := h6
  subst this
  exact ⟨b, off, x, h1, h2, h3, by have := h7 0 (by decide); simpa using this⟩
theorem LAt.sln {w : World} {A : Option Addr} {n : Nat} {xs : List Nat} (h : LAt RN 1 w A n xs) : Sl w A n 1 (intC xs) := by
  obtain ⟨_, cells, h2, h3⟩ := h
  have : cells = intC xs := h2.flat_eq.trans (rn_flat xs)
  rw [← this]; exact h3
theorem own_num {w : World} {base n c : Nat} {A : Option Addr} {im : List Nat} (hl : n = im.length) (h : w.ownsRow base 3 1 (.slice A n c) n (intC im)) : LAt RN 1 w A n im := LAt.own hl (intC_els w im) h

theorem sizeI2 : (Try.prog.info? 3).map (·.size) = some 1 := by kernel_rfl
set_option maxRecDepth 100000 in
theorem ints_n (im : List Nat) (A : Option Addr) (n c : Nat) (w : World) (ha : LAt RN 1 w A n im) (hn : n ≤ 16777216) :
    Calls Try.prog 110 #[.slice A n c] w (RetOwn w 3 1 n (intC im)) := by
  obtain ⟨i0, hi0, hz0, hz1, hz2⟩ := info_parts infoI2
  have hmk := run_make_n (P := Try.prog) 100 3 i0 _ Try.underlying100 hi0 hz0 (by omega) .i64 .i64 n hn
  simp only [hz1] at hmk
  have Ha := hide ha.sln; clear ha hz1 hz2 hz0 hi0
  have hone := (intC_els w im).one
  have HO := hide hone; clear hone
  go_enter Try.func110, Try.ntmps110
  go_wp2_with (refine wpList_copy_sl rfl (.tmp 7) (.tmp 8) 100 100 rfl 3 1 Try.underlying100 sizeI2 A w.heap.size 0 n n n c rfl rfl _ 3 (heap_alloc_new w _) (intC im) (Ha.out.ext (Ext.alloc w _)) (Nat.le_refl _) (by rw [size_madeCells, Nat.zero_add, Ha.out.1]; omega) HO.out w (Ext.alloc w _) (Nat.le_refl _) ?_; intro w1 hg1 hE1 hs1)
  go_ret
  refine ⟨_, _, rfl, ?_, hE1.out⟩
  have hl := Ha.out.1
  have hg := hg1.out
  rw [splice_all (by rw [Array.length_toList, size_madeCells]; omega)] at hg
  refine ⟨hl, .inr ⟨w.heap.size, n, _, rfl, Nat.le_refl _, hg, Nat.le_refl _, by unfold maxLen; omega, by simpa using hl, ?_⟩⟩
  exact List.take_of_length_le (Nat.le_of_eq hl)

def eqN (a b : Nat) : Bool := decide (a = b)
theorem sameBy_eqN : ∀ (r s : List Nat), sameBy eqN r s = true ↔ r = s := fun _ _ => sameBy_iff (p := eqN) (fun a b => by simp [eqN])

end Go.Proofs.Ytpfjkjmimmklcaa
