/-
  hashidx: Clear.
-/
import Derived.Test.YtlpbkhdpfmknkaaRefD
namespace Go.Proofs.Ytlpbkhdpfmknkaa
open Go.RowKit

theorem zeroPl (w : World) : (zeroValue 56).run Try.prog w = .ok (.agg #[.int .u8 0, .slice none 0 0, .int .i64 0]) w := by kernel_rfl
theorem run_clear_tab (w : World) (ty : TypeId) (tb n c : Nat) (cur : Array Value) (hn : 0 < n) (hb : Blk w tb 56 cur) (hs : cur.size = n * 3) :
    (Builtin.clear_ #[49] ty #[.slice (some ⟨tb, 0, none⟩) n c]).run Try.prog w = .ok (.tuple #[]) (w.setRow tb (tabC (List.replicate n ⟨0, [], 0⟩) (List.replicate n (.slice none 0 0))).toArray) := by
  have hz := zeroPl
  have hcs : (Builtin.zeroCells (Value.agg #[.int .u8 0, .slice none 0 0, .int .i64 0]).cells n).toList = tabC (List.replicate n ⟨0, [], 0⟩) (List.replicate n (.slice none 0 0)) := by
    have h1 : Builtin.zeroCells (Value.agg #[.int .u8 0, .slice none 0 0, .int .i64 0]).cells n = madeCells #[.int .u8 0, .slice none 0 0, .int .i64 0] (n * 3) := rfl
    rw [h1, made_tab]
  have hl : (tabC (List.replicate n (⟨0, [], 0⟩ : Pl)) (List.replicate n (Value.slice none 0 0))).length = n * 3 := by rw [tabC_len (by simp)]; simp
  have h1 : OneCells (tabC (List.replicate n (⟨0, [], 0⟩ : Pl)) (List.replicate n (Value.slice none 0 0))) := fun v hv => by
    rw [tabC_empty] at hv
    obtain ⟨l, hl, hv⟩ := List.mem_flatten.1 hv
    rw [List.eq_of_mem_replicate hl] at hv
    simp only [List.mem_cons, List.not_mem_nil, or_false] at hv
    rcases hv with rfl | rfl | rfl <;> rfl
  have hst := run_storeCells_at Try.prog tb 0 56 (tabC (List.replicate n ⟨0, [], 0⟩) (List.replicate n (.slice none 0 0))) 0 cur w hb (by rw [hl]; omega) h1
  simp only [Nat.add_zero, List.take_zero, List.nil_append, Nat.zero_add, hl] at hst
  rw [List.drop_of_length_le (by rw [Array.length_toList]; omega), List.append_nil] at hst
  obtain ⟨m, rfl⟩ : ∃ m, n = m + 1 := ⟨n - 1, by omega⟩
  simp only [Builtin.clear_]
  simp [run_underlying Try.underlying49, hz, hcs, hst]
set_option maxRecDepth 100000 in
theorem hclear_any {w : World} {B : Nat → Prop} {x most probes : Nat} {E : List (List UInt8 × Int)} (h : HIx w B x most probes E) :
    Calls Try.prog 26 #[.pointer (some ⟨x, 0, none⟩)] w fun e w' => e = .returned (.tuple #[]) ∧ HIx w' B x most probes [] ∧ Chg B w w' := by
  obtain ⟨tb, T, Ks, hI, hG, hE, h1, h2, h3, hne⟩ := h.at_
  have a4 : w.cell? ⟨x, 4, none⟩ = some (.slice (some ⟨tb, 0, none⟩) T.length T.length) := hI.blk.cell 4
  have hT0 := hG.pos
  have hcl := fun ty => run_clear_tab w ty tb T.length T.length _ hT0 hI.tab.blk (by rw [List.size_toArray, tabC_len hI.tab.len])
  have hset : Blk (w.setRow tb (tabC (List.replicate T.length ⟨0, [], 0⟩) (List.replicate T.length (.slice none 0 0))).toArray) tb 56 (tabC (List.replicate T.length ⟨0, [], 0⟩) (List.replicate T.length (.slice none 0 0))).toArray := setRow_heap w tb _ _ _ _ hI.tab.blk
  have hc1 : Chg (fun g => g = tb) w (w.setRow tb (tabC (List.replicate T.length ⟨0, [], 0⟩) (List.replicate T.length (.slice none 0 0))).toArray) := ⟨rfl, rfl, rfl, by simp, fun k _ hk => setRow_other w tb k _ hk⟩
  have hbx : Blk (w.setRow tb (tabC (List.replicate T.length ⟨0, [], 0⟩) (List.replicate T.length (.slice none 0 0))).toArray) x 51 (ixC most E.length (goneN T) probes tb T.length) := hc1.blk hI.blk hne
  have HB := hide h.old
  have HM := hide h.most
  have HP := hide hI.pow
  have HT := hide h2
  have HIN := hide (And.intro hI.inB hI.tab.inB)
  have hEm := hide (empty_good T.length hT0)
  have HHX := hide (And.intro hc1 (And.intro hset hbx))
  have HNE := hide hne
  clear h hI hG hE h1 h2 h3 hne
  go_enter Try.func26, Try.ntmps26
  go_upto_region 1 with fail
  clear hcl
  generalize w.setRow tb (tabC (List.replicate T.length ⟨0, [], 0⟩) (List.replicate T.length (.slice none 0 0))).toArray = w1 at *
  have a1 : w1.cell? ⟨x, 1, none⟩ = some (.int .i64 E.length) := HHX.out.2.2.cell 1
  have f1 : w1.frozen? ⟨x, 1, none⟩ = false := HHX.out.2.2.frozen 1
  have a2 : w1.cell? ⟨x, 2, none⟩ = some (.int .i64 (goneN T)) := HHX.out.2.2.cell 2
  have f2 : w1.frozen? ⟨x, 2, none⟩ = false := HHX.out.2.2.frozen 2
  go_wp2_with fail
  go_end0
  have hb2 := (HHX.out.2.2.set_ 1 (.int .i64 0)).set_ 2 (.int .i64 0)
  have ht2 : Blk ((w1.setCell ⟨x, 1, none⟩ (.int .i64 0)).setCell ⟨x, 2, none⟩ (.int .i64 0)) tb 56 _ := (HHX.out.2.1.far (p := ⟨x, 1, none⟩) (Ne.symm HNE.out) _).far (p := ⟨x, 2, none⟩) (Ne.symm HNE.out) _
  have hc3 : Chg B w ((w1.setCell ⟨x, 1, none⟩ (.int .i64 0)).setCell ⟨x, 2, none⟩ (.int .i64 0)) := ((HHX.out.1.mono (C := B) fun g hg _ => by rw [hg]; exact HIN.out.2).setCell (p := ⟨x, 1, none⟩) (.inl HIN.out.1) _).setCell (p := ⟨x, 2, none⟩) (.inl HIN.out.1) _
  refine ⟨rfl, ⟨⟨tb, List.replicate T.length ⟨0, [], 0⟩, List.replicate T.length (.slice none 0 0), ⟨?_, ⟨ht2, by simp, fun i p K hp hK => ?_, HIN.out.2⟩, by rw [List.length_replicate]; exact HP.out, HIN.out.1⟩, hEm.out.1, by rw [hEm.out.2.1], by rw [hEm.out.2.2]; simp, by rw [List.length_replicate]; exact HT.out, fun p hp => by rw [(List.mem_replicate.1 hp).2]; simp, HNE.out⟩, ⟨Nat.zero_le _, HM.out.2⟩, fun b hb => Nat.lt_of_lt_of_le (HB.out b hb) hc3.size⟩, hc3⟩
  · rw [hEm.out.2.2, List.length_replicate]; exact hb2
  · rw [List.getElem?_replicate] at hp hK
    split at hp
    · rename_i hi
      rw [if_pos hi] at hK
      injection hp with hp
      injection hK with hK
      subst hp; subst hK
      exact OwnKey.nil _ _
    · cases hp
end Go.Proofs.Ytlpbkhdpfmknkaa
