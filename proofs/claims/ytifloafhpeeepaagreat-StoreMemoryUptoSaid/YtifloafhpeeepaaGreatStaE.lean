/-
  StoreFull: a store as a thing made since a call began; the law.
-/
import Derived.Test.YtifloafhpeeepaaGreatGaL
namespace Go.Proofs.YtifloafhpeeepaaGreat
open Go.RowKit

/-- a store that was made since w0; all its blocks are below L -/
def FI (w0 w : World) (x : Nat) (S : SAbs) (N L : Nat) : Prop := ∃ B, StI w B x S N ∧ (∀ b, B b → w0.heap.size ≤ b ∧ b < L) ∧ Ext w0 w ∧ L ≤ w.heap.size
theorem FI.ext {w0 w w' : World} {x : Nat} {S : SAbs} {N L : Nat} (h : FI w0 w x S N L) (hw : Ext w w') : FI w0 w' x S N L := by
  obtain ⟨B, h1, h2, h3, h4⟩ := h
  exact ⟨B, h1.ext hw, h2, h3.trans hw, Nat.le_trans h4 hw.size⟩
theorem FI.ext0 {w0 w : World} {x : Nat} {S : SAbs} {N L : Nat} (h : FI w0 w x S N L) : Ext w0 w := by
  obtain ⟨B, h1, h2, h3, h4⟩ := h
  exact h3
theorem FI.next {w0 w w' : World} {B : Nat → Prop} {x : Nat} {S' : SAbs} {N' L : Nat} (h2 : ∀ b, B b → w0.heap.size ≤ b ∧ b < L) (h3 : Ext w0 w) (h : StS w B x S' N' w') : FI w0 w' x S' N' w'.heap.size := by
  obtain ⟨B', k1, k2, k3, k4⟩ := h
  have h0 := h3.size
  exact ⟨B', k1, fun b hb => ⟨(k2 b hb).elim (fun h => (h2 b h).1) fun h => by omega, k3 b hb⟩, k4.ext h3 fun g hg => (h2 g hg).1, Nat.le_refl _⟩
theorem FI.len {w0 w : World} {x : Nat} {S : SAbs} {N L : Nat} (h : FI w0 w x S N L) : Calls Tryz.prog 26 #[.pointer (some ⟨x, 0, none⟩)] w fun e w' => e = .returned (.int .i64 S.rows.length) ∧ FI w0 w' x S N L := by
  have h0 := h
  obtain ⟨B, h1, h2, h3, h4⟩ := h
  refine (lens_st h1).mono ?_
  rintro e w' ⟨rfl, hx⟩
  exact ⟨rfl, h0.ext hx⟩
theorem FI.put {w0 w : World} {x : Nat} {S : SAbs} {N L : Nat} (h : FI w0 w x S N L) (hN : N + 1 ≤ 8388608) {r : List V} {A : Option Addr} {n : Nat} (c : Nat) (ha : ArgR w A n r) (hA : ∀ a, A = some a → L ≤ a.block) :
    Calls Tryz.prog 9 #[.pointer (some ⟨x, 0, none⟩), .slice A n c] w fun e w' => e = .returned (.tuple #[.bool (putS S r).2.1, .int .i64 (putS S r).2.2]) ∧ FI w0 w' x (putS S r).1 (N + 1) w'.heap.size := by
  obtain ⟨B, h1, h2, h3, h4⟩ := h
  refine (put_st h1 hN c ha (fun a ha hb => by have := hA a ha; have := (h2 _ hb).2; omega)).mono ?_
  rintro e w' ⟨rfl, hs⟩
  exact ⟨rfl, FI.next h2 h3 hs⟩
theorem FI.drop {w0 w : World} {x : Nat} {S : SAbs} {N L : Nat} (h : FI w0 w x S N L) (hN : N + 1 ≤ 8388608) {r : List V} {A : Option Addr} {n : Nat} (c : Nat) (ha : ArgR w A n r) (hA : ∀ a, A = some a → L ≤ a.block) :
    Calls Tryz.prog 30 #[.pointer (some ⟨x, 0, none⟩), .slice A n c] w fun e w' => e = .returned (.tuple #[.bool (dropS S r).2.1, .int .i64 (dropS S r).2.2]) ∧ FI w0 w' x (dropS S r).1 (N + 1) w'.heap.size := by
  obtain ⟨B, h1, h2, h3, h4⟩ := h
  refine (drop_st h1 hN c ha (fun a ha hb => by have := hA a ha; have := (h2 _ hb).2; omega)).mono ?_
  rintro e w' ⟨rfl, hs⟩
  exact ⟨rfl, FI.next h2 h3 hs⟩
theorem FI.has {w0 w : World} {x : Nat} {S : SAbs} {N L : Nat} (h : FI w0 w x S N L) (hN : N ≤ 8388608) {r : List V} {A : Option Addr} {n : Nat} (c : Nat) (ha : ArgR w A n r) :
    Calls Tryz.prog 65 #[.pointer (some ⟨x, 0, none⟩), .slice A n c] w fun e w' => e = .returned (.bool (inB S.rows r)) ∧ FI w0 w' x S (N + 1) w'.heap.size := by
  obtain ⟨B, h1, h2, h3, h4⟩ := h
  refine (has_st h1 hN c ha).mono ?_
  rintro e w' ⟨rfl, hs⟩
  exact ⟨rfl, FI.next h2 h3 hs⟩
theorem FI.rows {w0 w : World} {x : Nat} {S : SAbs} {N L : Nat} (h : FI w0 w x S N L) :
    Calls Tryz.prog 12 #[.pointer (some ⟨x, 0, none⟩)] w fun e w' => ∃ A c M, e = .returned (.slice A S.rows.length c) ∧ MineV M w' A S.rows.length c S.rows ∧ FI w0 w' x S (N + 1) M := by
  obtain ⟨B, h1, h2, h3, h4⟩ := h
  refine (rows_st h1).mono ?_
  rintro e w' ⟨A, c, M, rfl, hm, B', k1, k2, k3, k4, k5, k6⟩
  have h0 := h3.size
  exact ⟨A, c, M, rfl, hm, B', k1, fun b hb => ⟨(k2 b hb).elim (fun h => (h2 b h).1) fun h => by omega, k3 b hb⟩, k4.ext h3 fun g hg => (h2 g hg).1, k6⟩
theorem FI.fit {w0 w : World} {x : Nat} {S : SAbs} {N L : Nat} (h : FI w0 w x S N L) : S.rows.length ≤ S.most ∧ ∀ r ∈ S.rows, fitsR S.width r = true ∧ smallR r ∧ wfR r := by
  obtain ⟨B, ⟨lab, v, D, P0, F0, k1, k2, k3, k4⟩, -⟩ := h
  refine ⟨?_, fun r hr => ?_⟩
  · have h1 := (k1.part 2).ok.live
    have h2 := (k1.part 2).ok.len
    have h3 := k4.row.lv
    rw [k3.rows, k3.most, List.length_map]; omega
  · rw [k3.rows] at hr
    obtain ⟨p, hp, rfl⟩ := List.mem_map.1 hr
    rw [k3.width]
    exact k4.row.rows p hp
theorem LAt.rowS {w : World} {A : Option Addr} {n : Nat} {xs : List (List V)} (h : LAt RRow 1 w A n xs) {i : Nat} (hi : i < n) :
    ∃ b off r A9 c9, A = some ⟨b, off, none⟩ ∧ xs[i]? = some r ∧ w.cell? ⟨b, off + i, none⟩ = some (.slice A9 r.length c9) ∧ RowAt w A9 r.length r := by
  obtain ⟨b, off, r, cs, hA, hx, hb1, _, _, ⟨A9, n9, c9, rfl, hR⟩, hcell⟩ := h.get (by omega) hi
  have := hcell 0 (by omega)
  rw [Nat.mul_one, Nat.add_zero] at this
  obtain rfl := hR.len
  exact ⟨b, off, r, A9, c9, hA, hx, this, hR⟩
end Go.Proofs.YtifloafhpeeepaaGreat
