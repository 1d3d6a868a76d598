/-
  store: Len of a store, the law's own number, awake.
-/
import Derived.Test.YtahdiiaadjdmcaaStoY
import Derived.Test.YtahdiiaadjdmcaaNgB
namespace Go.Proofs.Ytahdiiaadjdmcaa
open Go.RowKit

theorem lens_st {w : World} {B : Nat → Prop} {x : Nat} {S : SAbs} {N : Nat} (h : StI w B x S N) : Calls Try.prog 15 #[.pointer (some ⟨x, 0, none⟩)] w fun e w' => e = .returned (.int .i64 S.rows.length) ∧ Ext w w' := by
  obtain ⟨lab, v, D, P0, F0, h1, h2, h3, h4⟩ := h
  have h5 := len_st h1 h4.row
  rw [h3.x] at h5
  rw [h3.rows, List.length_map]
  exact h5
theorem new_good_st {w : World} {width most : Int} {A : Option Addr} {n : Nat} (c : Nat) {gs : List (List Int)} (hg : NumsAt w A n gs) (hn : n ≤ 1048576) (hl : ∀ g ∈ gs, g.length ≤ 1048576) (hz : goodS width most gs = 0) :
    Calls Try.prog 20 #[.int .i64 width, .int .i64 most, .slice A n c] w fun e w' => ∃ x B, e = .returned (.tuple #[.pointer (some ⟨x, 0, none⟩), .int .i64 0]) ∧ Ext w w' ∧ StI w' B x ⟨width.toNat, most.toNat, gs.map fun g => g.map Int.toNat, [], none⟩ 262144 ∧ (∀ b, B b → w.heap.size ≤ b) ∧ ∀ b, B b → b < w'.heap.size := by
  refine (store_new width most c hg hn hl).mono ?_
  rintro e w' ⟨h0, ⟨h1, -⟩ | ⟨-, x, lab, v, rfl, hm, hf, hd⟩⟩
  · exact absurd hz h1
  · obtain ⟨k1, k2, k3, k4⟩ := goodS_ok hz
    obtain ⟨B, hI, hB, hlt⟩ := (Fresh.sti hm hf (by omega) (by omega) (by rw [List.length_map]; exact k3) k4).lt
    exact ⟨x, B, rfl, h0, hI, fun b hb => hd b (hB b hb), hlt⟩
theorem new_bad_st {w : World} {width most : Int} {A : Option Addr} {n : Nat} (c : Nat) {gs : List (List Int)} (hg : NumsAt w A n gs) (hn : n ≤ 1048576) (hl : ∀ g ∈ gs, g.length ≤ 1048576) (hz : goodS width most gs ≠ 0) :
    Calls Try.prog 20 #[.int .i64 width, .int .i64 most, .slice A n c] w fun e w' => e = .returned (.tuple #[.pointer none, .int .i64 (goodS width most gs)]) ∧ Ext w w' := by
  refine (store_new width most c hg hn hl).mono ?_
  rintro e w' ⟨h0, ⟨-, h1⟩ | ⟨h1, -⟩⟩
  · exact ⟨h1, h0⟩
  · exact absurd h1 hz
end Go.Proofs.Ytahdiiaadjdmcaa
