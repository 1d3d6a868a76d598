/-
  hashidx: New, Len, Probes, Get.
-/
import Derived.Test.YtlpbkhdpfmknkaaHidF
namespace Go.Proofs.Ytlpbkhdpfmknkaa
open Go.RowKit

/-- an index in the blocks B, with these entries -/
structure HIx (w : World) (B : Nat → Prop) (x most probes : Nat) (E : List (List UInt8 × Int)) : Prop where
  at_ : ∃ (tb : Nat) (T : List Pl) (Ks : List Value), IxAt w B x tb most E.length (goneN T) probes T Ks ∧ HGood T ∧ List.Perm (ents T) E ∧ 4 * (E.length + goneN T) ≤ 3 * T.length ∧ T.length ≤ 4 * most + 8 ∧ (∀ p ∈ T, p.key.length ≤ 4096) ∧ x ≠ tb
  most : E.length ≤ most ∧ most ≤ 1048576
  old : ∀ b, B b → b < w.heap.size

theorem infoPl : (Try.prog.info? 56).map (fun i => (i.zero, i.size, i.bytes)) = some (some (.agg #[.int .u8 0, .slice none 0 0, .int .i64 0]), 3, 40) := by kernel_rfl
theorem tabC_empty : ∀ n : Nat, tabC (List.replicate n ⟨0, [], 0⟩) (List.replicate n (.slice none 0 0)) = (List.replicate n [Value.int .u8 0, Value.slice none 0 0, Value.int .i64 0]).flatten
  | 0 => rfl
  | n + 1 => by
    simp only [List.replicate_succ, tabC, List.flatten_cons, tabC_empty n]
    rfl
theorem made_tab (n : Nat) : madeCells #[.int .u8 0, .slice none 0 0, .int .i64 0] (n * 3) = (tabC (List.replicate n ⟨0, [], 0⟩) (List.replicate n (.slice none 0 0))).toArray := by
  rw [tabC_empty]
  have h : ∀ m, (madeCells #[Value.int .u8 0, Value.slice none 0 0, Value.int .i64 0] (m * 3)).toList = (List.replicate m [Value.int .u8 0, Value.slice none 0 0, Value.int .i64 0]).flatten := by
    intro m
    induction m with
    | zero => simp [madeCells]
    | succ m ih =>
      rw [List.replicate_succ', List.flatten_append, ← ih]
      unfold madeCells
      simp only [Array.toList_map, Array.toList_range, Nat.succ_mul, List.range_succ, List.map_append, List.map_cons, List.map_nil]
      simp [List.append_assoc, Nat.add_mod]
  rw [← h n]
theorem TabAt.made {w : World} {tb n : Nat} (h : Blk w tb 56 (madeCells #[.int .u8 0, .slice none 0 0, .int .i64 0] (n * 3))) {B : Nat → Prop} (hB : B tb) : TabAt w B tb (List.replicate n ⟨0, [], 0⟩) (List.replicate n (.slice none 0 0)) := by
  refine ⟨by rw [← made_tab]; exact h, by simp, fun i p K h1 h2 => ?_, hB⟩
  rw [List.getElem?_replicate] at h1 h2
  split at h1
  · rename_i hi
    rw [if_pos hi] at h2
    injection h1 with h1
    injection h2 with h2
    subst h1; subst h2
    exact ⟨none, 0, 0, rfl, World.ownsRow_nil _ _ _ _, fun a ha => by cases ha⟩
  · cases h1

/-- what New gives back at a right limit -/
theorem new_good (most : Nat) (w : World) (h1 : 1 ≤ most) (h2 : most ≤ 1048576) :
    Calls Try.prog 8 #[.int .i64 (most : Int)] w fun e w' => ∃ x, e = .returned (.tuple #[.pointer (some ⟨x, 0, none⟩), .int .i64 0]) ∧ HIx w' (fun b => w.heap.size ≤ b ∧ b < w'.heap.size) x most 0 [] ∧ Ext w w' := by
  obtain ⟨i0, hi0, hz0, hz1, hz2⟩ := info_parts infoPl
  have hmk := fun (w : World) => run_make (P := Try.prog) (w := w) 49 56 i0 _ Try.underlying49 hi0 hz0 .i64 .i64 8 8 (by omega) (by omega) (by rw [hz2]; omega) (by omega)
  rw [hz1] at hmk
  have hm1 : ¬ (most : Int) < 1 := by omega
  have hm2 : ¬ (1048576 : Int) < (most : Int) := by omega
  clear hi0 hz0 hz1 hz2
  go_enter Try.func8, Try.ntmps8
  go_wp2_with fail
  go_ret2
  clear hmk hm1 hm2
  have hT := empty_good 8 (by omega)
  have hx := Blk.new (w.alloc (.cells (madeCells #[.int .u8 0, .slice none 0 0, .int .i64 0] 24) 56)) 51 (ixC most 0 0 0 w.heap.size 8)
  have ht := (Blk.new w 56 (madeCells #[.int .u8 0, .slice none 0 0, .int .i64 0] 24)).ext (Ext.alloc _ (.cells (ixC most 0 0 0 w.heap.size 8) 51))
  rw [World.size_alloc] at hx
  refine ⟨_, rfl, ⟨⟨w.heap.size, List.replicate 8 ⟨0, [], 0⟩, List.replicate 8 (.slice none 0 0), ⟨?_, TabAt.made (n := 8) ht ?_, ⟨3, by simp, by omega⟩, ?_⟩, hT.1, by rw [hT.2.1], ?_, ?_, ?_, by omega⟩, ⟨by simp, h2⟩, fun b h => h.2⟩, (Ext.alloc _ _).alloc' _⟩
  · rw [hT.2.2, List.length_replicate]; exact hx
  · exact ⟨Nat.le_refl _, by simp; omega⟩
  · exact ⟨by omega, by simp⟩
  · rw [hT.2.2]; simp
  · simp
  · intro p hp
    rw [(List.mem_replicate.1 hp).2]; simp
theorem new_bad (most : Int) (w : World) (h : most < 1 ∨ 1048576 < most) :
    Calls Try.prog 8 #[.int .i64 most] w fun e w' => e = .returned (.tuple #[.pointer none, .int .i64 50]) ∧ w' = w := by
  by_cases h1 : most < 1
  · clear h
    go_enter Try.func8, Try.ntmps8
    go_wp2_with fail
    go_ret2
    exact ⟨rfl, rfl⟩
  · have h2 : 1048576 < most := by omega
    clear h
    go_enter Try.func8, Try.ntmps8
    go_wp2_with fail
    go_ret2
    exact ⟨rfl, rfl⟩
theorem len_any {w : World} {B : Nat → Prop} {x most probes : Nat} {E : List (List UInt8 × Int)} (h : HIx w B x most probes E) :
    Calls Try.prog 10 #[.pointer (some ⟨x, 0, none⟩)] w fun e w' => e = .returned (.int .i64 E.length) ∧ w' = w := by
  obtain ⟨tb, T, Ks, hI, _⟩ := h.at_
  have a1 : w.cell? ⟨x, 1, none⟩ = some (.int .i64 E.length) := hI.blk.cell 1
  clear h hI
  go_enter Try.func10, Try.ntmps10
  go_wp2_with fail
  go_ret
  exact ⟨rfl, rfl⟩
theorem probes_any {w : World} {B : Nat → Prop} {x most probes : Nat} {E : List (List UInt8 × Int)} (h : HIx w B x most probes E) :
    Calls Try.prog 13 #[.pointer (some ⟨x, 0, none⟩)] w fun e w' => e = .returned (.int .i64 probes) ∧ w' = w := by
  obtain ⟨tb, T, Ks, hI, _⟩ := h.at_
  have a3 : w.cell? ⟨x, 3, none⟩ = some (.int .i64 probes) := hI.blk.cell 3
  clear h hI
  go_enter Try.func13, Try.ntmps13
  go_wp2_with fail
  go_ret
  exact ⟨rfl, rfl⟩
end Go.Proofs.Ytlpbkhdpfmknkaa
