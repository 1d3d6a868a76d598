/-
  hashidx: find.
  hashidx: New, Len, Probes, Get.
  hashidx: a field of the index is written; Get.
  hashidx: a place of the table is written; Delete.
  slices.Clone: the same cells in a row of its own.
-/
import Derived.Test.YtahdiiaadjdmcaaGaA
import Derived.Laws.BitsAllLaws
import Derived.IntWalk
import Derived.Deep.Cut
import Derived.WalkMore
import Derived.Lib.SliceRun
namespace Go.Proofs.Ytahdiiaadjdmcaa
open Go.RowKit

/-- a place, or -1 -/
def frV : Option Nat → Int
  | some i => (i : Int)
  | none => -1
/-- the index as find sees it -/
structure IxAt (w : World) (B : Nat → Prop) (x tb most size marks probes : Nat) (T : List Pl) (Ks : List Value) : Prop where
  blk : Blk w x 136 (ixC most size marks probes tb T.length)
  tab : TabAt w B tb T Ks
  pow : ∃ k, T.length = 2 ^ k ∧ k ≤ 40
  inB : B x

theorem i64_and_nat (a b : Nat) (ha : a < 9223372036854775808) (hb : b < 9223372036854775808) : bits .and .i64 (a : Int) (b : Int) = ((a &&& b : Nat) : Int) := by
  have hx : a &&& b ≤ a := Nat.and_le_left
  have h1 : (BitVec.ofInt 64 (a : Int)).toNat = a := by
    rw [BitVec.ofInt_natCast, BitVec.toNat_ofNat]; exact Nat.mod_eq_of_lt (by omega)
  have h2 : (BitVec.ofInt 64 (b : Int)).toNat = b := by
    rw [BitVec.ofInt_natCast, BitVec.toNat_ofNat]; exact Nat.mod_eq_of_lt (by omega)
  show IntKind.i64.wrap ((BitVec.ofInt 64 (a : Int) &&& BitVec.ofInt 64 (b : Int)).toNat : Int) = _
  rw [BitVec.toNat_and, h1, h2]; exact IntWalk.i64_in _ (by omega)
theorem and_pow {n k : Nat} (a : Nat) (h : n = 2 ^ k) : a &&& (n - 1) = a % n := by rw [h]; exact Nat.and_two_pow_sub_one_eq_mod _ _
theorem first_eq {n k : Nat} (h : Nat) (hp : n = 2 ^ k) (hk : k ≤ 40) (hh : h < 18446744073709551616) :
    IntKind.i64.wrap (bits BinOp.and IntKind.u64 (h : Int) (IntKind.u64.wrap (IntKind.i64.wrap ((n : Int) - 1)))) = ((h % n : Nat) : Int) := by
  have h1 : 0 < n := by rw [hp]; exact Nat.two_pow_pos k
  have h2 : n ≤ 1099511627776 := by rw [hp]; exact Nat.pow_le_pow_right (by omega) hk
  have h3 : h % n < n := Nat.mod_lt _ h1
  rw [show IntKind.i64.wrap ((n : Int) - 1) = ((n - 1 : Nat) : Int) by rw [IntWalk.i64_in _ (by omega)]; omega, IntKind.wrap_u64, show ((n - 1 : Nat) : Int) % 18446744073709551616 = ((n - 1 : Nat) : Int) by omega, u64_and_nat _ _ hh (by omega), and_pow h hp]
  exact IntWalk.i64_in _ (by omega)
theorem next_eq {n k : Nat} (i : Nat) (hp : n = 2 ^ k) (hk : k ≤ 40) (hi : i < n) :
    bits BinOp.and IntKind.i64 ((i : Int) + 1) ((n : Int) - 1) = (((i + 1) % n : Nat) : Int) := by
  have h2 : n ≤ 1099511627776 := by rw [hp]; exact Nat.pow_le_pow_right (by omega) hk
  rw [show ((n : Int) - 1) = ((n - 1 : Nat) : Int) by omega, show ((i : Int) + 1) = ((i + 1 : Nat) : Int) by omega, i64_and_nat _ _ (by omega) (by omega), and_pow _ hp]

set_option maxRecDepth 100000 in
theorem find_any (key : List UInt8) (A : Option Addr) (n c : Nat) (w : World) (B : Nat → Prop) (x tb most size marks probes : Nat) (T : List Pl) (Ks : List Value) (hI : IxAt w B x tb most size marks probes T Ks) (hk : KeyAt w A n key) (hst : ∀ p ∈ T, p.st ≤ 2) (hn : n ≤ 4611686018427387904) :
    Calls Try.prog 48 #[.pointer (some ⟨x, 0, none⟩), .slice A n c] w fun e w' => e = .returned (.tuple #[.int .i64 (frV (findP T key).1), .int .i64 (frV (findP T key).2)]) ∧ Ext w w' := by
  have a4 : w.cell? ⟨x, 4, none⟩ = some (.slice (some ⟨tb, 0, none⟩) T.length T.length) := hI.blk.cell 4
  have HH := hide (fun w1 (hw1 : Ext w w1) => hash_any key A n c w1 (hk.ext hw1) hn)
  obtain ⟨pw, hp1, hp2⟩ := hI.pow
  have hfe := first_eq (hashN key) hp1 hp2 (hashN_lt key)
  have hp0 : 0 < T.length := by rw [hp1]; exact Nat.two_pow_pos pw
  have hpl : T.length ≤ 1099511627776 := by rw [hp1]; exact Nat.pow_le_pow_right (by omega) hp2
  have hpos0 : hashN key % T.length = posP T key 0 := by unfold posP; rw [Nat.add_zero, Nat.mod_mod]
  rw [hpos0] at hfe
  have HNX := hide (fun (i : Nat) (hi : i < T.length) => next_eq i hp1 hp2 hi)
  have HI := hide hI; have HK := hide hk; have HST := hide hst; clear hI hk hst hp1 hp2 hpos0
  go_enter Try.func48, Try.ntmps48
  go_wp2_with fail
  go_step3
  go_upto_region 2 with fail
  have a4 := cell_ext a4
  refine wp_region_ext 12 (by kernel_rfl) (by kernel_rfl) (by kernel_rfl) ?_
  iterate 12
    refine wpE_k (by kernel_rfl) (by kernel_rfl) ?_
    apply Exists.intro
    refine ⟨fun w1 hw1 => ?_, fun K hK => ?_⟩
    · go_simp; first | done | rfl | exact ((HH.out w1 hw1).mono fun _ _ h => ⟨h.1, h.2 ▸ Ext.refl _⟩)
    go_simp; refine hK _ _ ?_; clear hK K
  refine wpE_nil ⟨rfl, by kernel_rfl, fun wq hwq => ?_⟩
  simp only [EndQ]
  refine wpList_nil ?_
  have HE0 := hide hwq; clear hwq a4
  have a4 : wq.cell? ⟨x, 4, none⟩ = some (.slice (some ⟨tb, 0, none⟩) T.length T.length) := (HI.out.blk.ext HE0.out).cell 4
  go_wp2_with fail
  go_step3
  go_wp2_with fail
  go_loopw [5, 6, 24] (fun s5 s6 s24 w' => ∃ (d : Nat) (fr : Option Nat), d ≤ T.length ∧ s24 = .int .i64 d ∧ s6 = .int .i64 (posP T key d : Nat) ∧ s5 = .int .i64 (frV fr) ∧ Hid (findP T key = scanP T key (T.length - d) (posP T key d) fr) ∧ Hid (Ext w w')) (fun _ _ s24 _ => T.length - (intOf s24).toNat)
  case atStart => exact ⟨0, none, by omega, rfl, rfl, rfl, rfl, HE0.out⟩
  case round =>
    obtain ⟨d, fr, hd, rfl, rfl, rfl, hf, hX⟩ := hrel
    have a4 : wr.cell? ⟨x, 4, none⟩ = some (.slice (some ⟨tb, 0, none⟩) T.length T.length) := (HI.out.blk.ext hX.out).cell 4
    by_cases h : d < T.length
    · obtain ⟨p, hp⟩ := posP_get key d hp0
      have hpb := posP_lt key d hp0
      have hst := HST.out p (List.mem_of_getElem? hp)
      obtain ⟨A5, n5, c5, b0, b1, _, hK5, _⟩ := (HI.out.tab.ext hX.out).at_ hp
      obtain ⟨st, pk, pn⟩ := p
      have hsc := hide (show scanP T key (T.length - d) (posP T key d) fr = if st = 0 then (none, fr.or (some (posP T key d))) else if st = 2 then scanP T key (T.length - (d + 1)) (posP T key (d + 1)) (fr.or (some (posP T key d))) else if pk = key then (some (posP T key d), some (posP T key d)) else scanP T key (T.length - (d + 1)) (posP T key (d + 1)) fr by
        rw [show T.length - d = (T.length - (d + 1)) + 1 by omega, scanP, hp, posP_succ])
      have hnx := HNX.out (posP T key d) hpb
      rw [← posP_succ] at hnx
      have HEQ := hide (eq_keys (w := wr) hK5 (HK.out.ext hX.out) c5 c)
      dsimp only at hst b0 hK5
      clear hp hK5
      generalize posP T key d = pd at *
      obtain rfl | rfl | rfl : st = 0 ∨ st = 1 ∨ st = 2 := by omega
      · have b0 : wr.cell? ⟨tb, pd * 3, none⟩ = some (.int .u8 0) := b0
        cases fr with
        | none =>
          simp only [frV]
          go_wp2_with fail
          go_ret2
          exact ⟨by rw [hf.out, hsc.out]; rfl, hX.out⟩
        | some f =>
          simp only [frV]
          have hf0 : ¬ (f : Int) < 0 := by omega
          go_wp2_with fail
          go_ret2
          exact ⟨by rw [hf.out, hsc.out]; rfl, hX.out⟩
      · have b0 : wr.cell? ⟨tb, pd * 3, none⟩ = some (.int .u8 1) := b0
        by_cases hk : pk = key
        · have HK2 := hide hk; clear hk
          go_wp2_with fail
          refine HEQ.out.mono ?_
          rintro e w1 ⟨rfl, rfl⟩
          rw [decide_eq_true HK2.out]
          go_wp2_with fail
          rw [Exit.noGoto_ret]
          go_ret2
          exact ⟨by rw [hf.out, hsc.out]; simp [HK2.out, frV], hX.out⟩
        · have HK2 := hide hk; clear hk
          go_wp2_with fail
          refine HEQ.out.mono ?_
          rintro e w1 ⟨rfl, rfl⟩
          rw [decide_eq_false HK2.out]
          go_wp2_with fail
          go_roundw
          case rel => exact ⟨d + 1, fr, by omega, by go_num, rfl, rfl, by rw [Hid, hf.out, hsc.out]; simp [HK2.out], hX.out⟩
          case measure => simp [intOf]; omega
      · have b0 : wr.cell? ⟨tb, pd * 3, none⟩ = some (.int .u8 2) := b0
        cases fr with
        | none =>
          simp only [frV]
          go_wp2_with fail
          go_roundw
          case rel => exact ⟨d + 1, some pd, by omega, by go_num, rfl, rfl, by rw [Hid, hf.out, hsc.out]; rfl, hX.out⟩
          case measure => simp [intOf]; omega
        | some f =>
          simp only [frV]
          have hf0 : ¬ (f : Int) < 0 := by omega
          go_wp2_with fail
          go_roundw
          case rel => exact ⟨d + 1, some f, by omega, by go_num, rfl, rfl, by rw [Hid, hf.out, hsc.out]; rfl, hX.out⟩
          case measure => simp [intOf]; omega
    · have hend : T.length - d = 0 := by omega
      go_wp2_with fail
      rw [Exit.noGoto_ret]
      go_ret2
      exact ⟨by rw [hf.out, hend]; rfl, hX.out⟩
end Go.Proofs.Ytahdiiaadjdmcaa

namespace Go.Proofs.Ytahdiiaadjdmcaa
open Go.RowKit

/-- an index in the blocks B, with these entries -/
structure HIx (w : World) (B : Nat → Prop) (x most probes : Nat) (E : List (List UInt8 × Int)) : Prop where
  at_ : ∃ (tb : Nat) (T : List Pl) (Ks : List Value), IxAt w B x tb most E.length (goneN T) probes T Ks ∧ HGood T ∧ List.Perm (ents T) E ∧ 4 * (E.length + goneN T) ≤ 3 * T.length ∧ T.length ≤ 4 * most + 8 ∧ (∀ p ∈ T, p.key.length ≤ 4096) ∧ x ≠ tb
  most : E.length ≤ most ∧ most ≤ 1048576
  old : ∀ b, B b → b < w.heap.size

theorem infoPl : (Try.prog.info? 145).map (fun i => (i.zero, i.size, i.bytes)) = some (some (.agg #[.int .u8 0, .slice none 0 0, .int .i64 0]), 3, 40) := by kernel_rfl
theorem tabC_empty : ∀ n : Nat, tabC (List.replicate n ⟨0, [], 0⟩) (List.replicate n (.slice none 0 0)) = (List.replicate n [Value.int .u8 0, Value.slice none 0 0, Value.int .i64 0]).flatten
  | 0 => rfl
  | n + 1 => by
    simp only [List.replicate_succ, tabC, List.flatten_cons, tabC_empty n]
    rfl
theorem made_tab (n : Nat) : madeCells #[.int .u8 0, .slice none 0 0, .int .i64 0] (n * 3) = (tabC (List.replicate n ⟨0, [], 0⟩) (List.replicate n (.slice none 0 0))).toArray := by
  rw [tabC_empty]
  have h : ∀ m, (madeCells #[Value.int .u8 0, Value.slice none 0 0, Value.int .i64 0] (m * 3)).toList = (List.replicate m [Value.int .u8 0, Value.slice none 0 0, Value.int .i64 0]).flatten := by
    intro m
    induction m with
    | zero => simp [madeCells]
    | succ m ih =>
      rw [List.replicate_succ', List.flatten_append, ← ih]
      unfold madeCells
      simp only [Array.toList_map, Array.toList_range, Nat.succ_mul, List.range_succ, List.map_append, List.map_cons, List.map_nil]
      simp [List.append_assoc, Nat.add_mod]
  rw [← h n]
theorem TabAt.made {w : World} {tb n : Nat} (h : Blk w tb 145 (madeCells #[.int .u8 0, .slice none 0 0, .int .i64 0] (n * 3))) {B : Nat → Prop} (hB : B tb) : TabAt w B tb (List.replicate n ⟨0, [], 0⟩) (List.replicate n (.slice none 0 0)) := by
  refine ⟨by rw [← made_tab]; exact h, by simp, fun i p K h1 h2 => ?_, hB⟩
  rw [List.getElem?_replicate] at h1 h2
  split at h1
  · rename_i hi
    rw [if_pos hi] at h2
    injection h1 with h1
    injection h2 with h2
    subst h1; subst h2
    exact ⟨none, 0, 0, rfl, World.ownsRow_nil _ _ _ _, fun a ha => by cases ha⟩
  · cases h1

/-- what New gives back at a right limit -/
theorem new_good (most : Nat) (w : World) (h1 : 1 ≤ most) (h2 : most ≤ 1048576) :
    Calls Try.prog 34 #[.int .i64 (most : Int)] w fun e w' => ∃ x, e = .returned (.tuple #[.pointer (some ⟨x, 0, none⟩), .int .i64 0]) ∧ HIx w' (fun b => w.heap.size ≤ b ∧ b < w'.heap.size) x most 0 [] ∧ Ext w w' := by
  obtain ⟨i0, hi0, hz0, hz1, hz2⟩ := info_parts infoPl
  have hmk := fun (w : World) => run_make (P := Try.prog) (w := w) 134 145 i0 _ Try.underlying134 hi0 hz0 .i64 .i64 8 8 (by omega) (by omega) (by rw [hz2]; omega) (by omega)
  rw [hz1] at hmk
  have hm1 : ¬ (most : Int) < 1 := by omega
  have hm2 : ¬ (1048576 : Int) < (most : Int) := by omega
  clear hi0 hz0 hz1 hz2
  go_enter Try.func34, Try.ntmps34
  go_wp2_with fail
  go_ret2
  clear hmk hm1 hm2
  have hT := empty_good 8 (by omega)
  have hx := Blk.new (w.alloc (.cells (madeCells #[.int .u8 0, .slice none 0 0, .int .i64 0] 24) 145)) 136 (ixC most 0 0 0 w.heap.size 8)
  have ht := (Blk.new w 145 (madeCells #[.int .u8 0, .slice none 0 0, .int .i64 0] 24)).ext (Ext.alloc _ (.cells (ixC most 0 0 0 w.heap.size 8) 136))
  rw [World.size_alloc] at hx
  refine ⟨_, rfl, ⟨⟨w.heap.size, List.replicate 8 ⟨0, [], 0⟩, List.replicate 8 (.slice none 0 0), ⟨?_, TabAt.made (n := 8) ht ?_, ⟨3, by simp, by omega⟩, ?_⟩, hT.1, by rw [hT.2.1], ?_, ?_, ?_, by omega⟩, ⟨by simp, h2⟩, fun b h => h.2⟩, (Ext.alloc _ _).alloc' _⟩
  · rw [hT.2.2, List.length_replicate]; exact hx
  · exact ⟨Nat.le_refl _, by simp; omega⟩
  · exact ⟨by omega, by simp⟩
  · rw [hT.2.2]; simp
  · simp
  · intro p hp
    rw [(List.mem_replicate.1 hp).2]; simp
theorem new_bad (most : Int) (w : World) (h : most < 1 ∨ 1048576 < most) :
    Calls Try.prog 34 #[.int .i64 most] w fun e w' => e = .returned (.tuple #[.pointer none, .int .i64 50]) ∧ w' = w := by
  by_cases h1 : most < 1
  · clear h
    go_enter Try.func34, Try.ntmps34
    go_wp2_with fail
    go_ret2
    exact ⟨rfl, rfl⟩
  · have h2 : 1048576 < most := by omega
    clear h
    go_enter Try.func34, Try.ntmps34
    go_wp2_with fail
    go_ret2
    exact ⟨rfl, rfl⟩
end Go.Proofs.Ytahdiiaadjdmcaa

namespace Go.Proofs.Ytahdiiaadjdmcaa
open Go.RowKit

theorem chg_one (w : World) (p : Addr) (u : Value) : Chg (fun g => g = p.block) w (w.setCell p u) := Chg.setCell (B := fun g => g = p.block) (Chg.refl _ w) (.inl rfl) u
theorem TabAt.setX {w : World} {B : Nat → Prop} {tb x : Nat} {T : List Pl} {Ks : List Value} {cs : Array Value} (h : TabAt w B tb T Ks) (hb : Blk w x 136 cs) (hne : x ≠ tb) (j : Nat) (u : Value) : TabAt (w.setCell ⟨x, j, none⟩ u) B tb T Ks :=
  ⟨h.blk.far (p := ⟨x, j, none⟩) (Ne.symm hne) u, h.len, fun i p K h1 h2 => (h.keys i p K h1 h2).keep (chg_one w _ u) fun A n c e a ha => (h.keys i p K h1 h2).ne hb (by decide) A n c e a ha, h.inB⟩
theorem IxAt.ext {w w' : World} {B : Nat → Prop} {x tb most size marks probes : Nat} {T : List Pl} {Ks : List Value} (h : IxAt w B x tb most size marks probes T Ks) (hw : Ext w w') : IxAt w' B x tb most size marks probes T Ks :=
  ⟨h.blk.ext hw, h.tab.ext hw, h.pow, h.inB⟩
theorem IxAt.setSize {w : World} {B : Nat → Prop} {x tb most size marks probes : Nat} {T : List Pl} {Ks : List Value} (h : IxAt w B x tb most size marks probes T Ks) (hne : x ≠ tb) (v : Nat) (u : Int) (hu : u = (v : Int)) : IxAt (w.setCell ⟨x, 1, none⟩ (.int .i64 u)) B x tb most v marks probes T Ks := by
  subst hu
  exact ⟨h.blk.set_ 1 _, h.tab.setX h.blk hne 1 _, h.pow, h.inB⟩
theorem IxAt.setMarks {w : World} {B : Nat → Prop} {x tb most size marks probes : Nat} {T : List Pl} {Ks : List Value} (h : IxAt w B x tb most size marks probes T Ks) (hne : x ≠ tb) (v : Nat) (u : Int) (hu : u = (v : Int)) : IxAt (w.setCell ⟨x, 2, none⟩ (.int .i64 u)) B x tb most size v probes T Ks := by
  subst hu
  exact ⟨h.blk.set_ 2 _, h.tab.setX h.blk hne 2 _, h.pow, h.inB⟩
theorem IxAt.setProbes {w : World} {B : Nat → Prop} {x tb most size marks probes : Nat} {T : List Pl} {Ks : List Value} (h : IxAt w B x tb most size marks probes T Ks) (hne : x ≠ tb) (v : Nat) (u : Int) (hu : u = (v : Int)) : IxAt (w.setCell ⟨x, 3, none⟩ (.int .i64 u)) B x tb most size marks v T Ks := by
  subst hu
  exact ⟨h.blk.set_ 3 _, h.tab.setX h.blk hne 3 _, h.pow, h.inB⟩
/-- a key that was handed in lies elsewhere -/
def Aside (B : Nat → Prop) (A : Option Addr) : Prop := ∀ a, A = some a → ¬ B a.block
theorem IxAt.probe {w : World} {B : Nat → Prop} {x tb most size marks probes : Nat} {T : List Pl} {Ks : List Value} (h : IxAt w B x tb most size marks probes T Ks) (hne : x ≠ tb) : IxAt (w.setCell ⟨x, 3, none⟩ (.int .i64 ((probes : Int) + 1))) B x tb most size marks (probes + 1) T Ks :=
  h.setProbes hne _ _ (by omega)

/-- what lies under a key -/
def LookAt (E : List (List UInt8 × Int)) (key : List UInt8) (r : Option Int) : Prop := (∀ v, r = some v → (key, v) ∈ E) ∧ (r = none → ∀ v, (key, v) ∉ E)
set_option maxRecDepth 100000 in
theorem get_any {w : World} {B : Nat → Prop} {x most probes : Nat} {E : List (List UInt8 × Int)} (h : HIx w B x most probes E) (hp : probes ≤ 4611686018427387904) (key : List UInt8) (A : Option Addr) (n c : Nat) (hk : KeyAt w A n key) (ha : Aside B A) (hn : n ≤ 4611686018427387904) :
    Calls Try.prog 41 #[.pointer (some ⟨x, 0, none⟩), .slice A n c] w fun e w' => ∃ r : Option Int, e = .returned (.tuple #[.int .i64 (r.getD 0), .bool r.isSome]) ∧ LookAt E key r ∧ HIx w' B x most (probes + 1) E ∧ Chg B w w' := by
  obtain ⟨tb, T, Ks, hI, hG, hE, h1, h2, h3, hne⟩ := h.at_
  have hkx : KeyAt (w.setCell ⟨x, 3, none⟩ (.int .i64 ((probes : Int) + 1))) A n key := (chg_one w _ _).key hk fun a he hx => ha a he (by rw [hx]; exact hI.inB)
  have HF := hide (find_any key A n c _ B x tb most _ _ _ T Ks (hI.probe hne) hkx hG.st hn)
  have HI := hide (hI.probe hne)
  have a3 : w.cell? ⟨x, 3, none⟩ = some (.int .i64 probes) := hI.blk.cell 3
  have f3 : w.frozen? ⟨x, 3, none⟩ = false := hI.blk.frozen 3
  have HC := hide (show Chg B w (w.setCell ⟨x, 3, none⟩ (.int .i64 ((probes : Int) + 1))) from (Chg.refl _ _).setCell (.inl hI.inB) _)
  have hm := h.most
  have HO := hide h.old
  have HE := hide hE
  rcases find_spec hG key with ⟨i, p, hf, hpi, hp1, hpk⟩ | ⟨f, hf, hfree, hno⟩
  · rw [hf] at HF
    have HR := hide (show LookAt E key (some p.num) from ⟨fun v hv => by injection hv with hv; subst hv; exact hE.mem_iff.1 (mem_ents.2 ⟨i, p, hpi, hp1, hpk, rfl⟩), fun hv => by cases hv⟩)
    have HP := hide hpi
    have hil : i < T.length := (List.getElem?_eq_some_iff.1 hpi).1
    have HW := hide (And.intro hG (And.intro h1 (And.intro h2 (And.intro h3 hne))))
    clear h hk hkx hI hE hf hpi hp1 hpk hG h1 h2 h3 ha hne
    go_enter Try.func41, Try.ntmps41
    go_wp2_with fail
    refine HF.out.mono ?_
    rintro e w1 ⟨rfl, x1⟩
    have X1 := hide x1
    obtain ⟨_, _, _, _, _, b2, _⟩ := (HI.out.ext x1).tab.at_ HP.out
    have a4 : w1.cell? ⟨x, 4, none⟩ = some (.slice (some ⟨tb, 0, none⟩) T.length T.length) := (HI.out.ext x1).blk.cell 4
    clear x1 a3 f3
    simp only [frV]
    go_wp2_with fail
    go_ret2
    have hC := HC.out.trans' (Chg.of X1.out)
    exact ⟨some p.num, rfl, HR.out, ⟨⟨tb, T, Ks, HI.out.ext X1.out, HW.out.1, HE.out, HW.out.2.1, HW.out.2.2.1, HW.out.2.2.2.1, HW.out.2.2.2.2⟩, hm, fun b hb => Nat.lt_of_lt_of_le (HO.out b hb) hC.size⟩, hC⟩
  · rw [hf] at HF
    have HR := hide (show LookAt E key none from ⟨fun v hv => (by cases hv), fun _ v hv => (mem_ents.1 (hE.mem_iff.2 hv)).elim fun i hi => hi.elim fun p hp => hno i p hp.1 hp.2.1 hp.2.2.1⟩)
    have HW := hide (And.intro hG (And.intro h1 (And.intro h2 (And.intro h3 hne))))
    clear h hk hkx hI hE hf hfree hno hG h1 h2 h3 ha hne
    go_enter Try.func41, Try.ntmps41
    go_wp2_with fail
    refine HF.out.mono ?_
    rintro e w1 ⟨rfl, x1⟩
    have X1 := hide x1
    clear x1 a3 f3
    simp only [frV]
    go_wp2_with fail
    go_ret2
    have hC := HC.out.trans' (Chg.of X1.out)
    exact ⟨none, rfl, HR.out, ⟨⟨tb, T, Ks, HI.out.ext X1.out, HW.out.1, HE.out, HW.out.2.1, HW.out.2.2.1, HW.out.2.2.2.1, HW.out.2.2.2.2⟩, hm, fun b hb => Nat.lt_of_lt_of_le (HO.out b hb) hC.size⟩, hC⟩
end Go.Proofs.Ytahdiiaadjdmcaa

namespace Go.Proofs.Ytahdiiaadjdmcaa
open Go.RowKit

theorem set_past {α : Type} : ∀ (l m : List α) (i : Nat) (v : α), (l ++ m).set (l.length + i) v = l ++ m.set i v
  | [], m, i, v => by simp
  | x :: l, m, i, v => by
    rw [List.cons_append, List.length_cons, show l.length + 1 + i = (l.length + i) + 1 by omega, List.set_cons_succ, set_past l m i v]; rfl
theorem tabC_set : ∀ (T : List Pl) (Ks : List Value) (i : Nat) (p : Pl) (K : Value), Ks.length = T.length → i < T.length →
    tabC (T.set i p) (Ks.set i K) = (((tabC T Ks).set (i * 3) (.int .u8 (p.st : Int))).set (i * 3 + 1) K).set (i * 3 + 2) (.int .i64 p.num)
  | [], _, _, _, _, _, h => by simp at h
  | _ :: _, [], _, _, _, h, _ => by simp at h
  | q :: T, L :: Ks, 0, p, K, _, _ => rfl
  | q :: T, L :: Ks, i + 1, p, K, h1, h2 => by
    simp only [List.set_cons_succ, tabC]
    rw [tabC_set T Ks i p K (by simpa using h1) (by simpa using h2)]
    have e : (plC q L).length = 3 := rfl
    rw [show (i + 1) * 3 = (plC q L).length + i * 3 by rw [e]; omega, show (plC q L).length + i * 3 + 1 = (plC q L).length + (i * 3 + 1) by omega, show (plC q L).length + i * 3 + 2 = (plC q L).length + (i * 3 + 2) by omega, set_past, set_past, set_past]
/-- three cells of a place are written -/
def setPl (w : World) (tb i : Nat) (p : Pl) (K : Value) : World := ((w.setCell ⟨tb, i * 3, none⟩ (.int .u8 (p.st : Int))).setCell ⟨tb, i * 3 + 1, none⟩ K).setCell ⟨tb, i * 3 + 2, none⟩ (.int .i64 p.num)
theorem setPl_chg (w : World) (tb i : Nat) (p : Pl) (K : Value) : Chg (fun g => g = tb) w (setPl w tb i p K) :=
  Chg.setCell (B := fun g => g = tb) (Chg.setCell (B := fun g => g = tb) (Chg.setCell (B := fun g => g = tb) (Chg.refl _ w) (p := ⟨tb, i * 3, none⟩) (.inl rfl) _) (p := ⟨tb, i * 3 + 1, none⟩) (.inl rfl) _) (p := ⟨tb, i * 3 + 2, none⟩) (.inl rfl) _
theorem TabAt.put {w : World} {B : Nat → Prop} {tb : Nat} {T : List Pl} {Ks : List Value} (h : TabAt w B tb T Ks) {i : Nat} (hi : i < T.length) (p : Pl) (K : Value) (hK : OwnKey w B K p.key) : TabAt (setPl w tb i p K) B tb (T.set i p) (Ks.set i K) := by
  have hc := setPl_chg w tb i p K
  refine ⟨?_, by rw [List.length_set, List.length_set]; exact h.len, fun j q L h1 h2 => ?_, h.inB⟩
  · rw [tabC_set T Ks i p K h.len hi]
    have := ((h.blk.set_ (i * 3) (.int .u8 (p.st : Int))).set_ (i * 3 + 1) K).set_ (i * 3 + 2) (.int .i64 p.num)
    simpa [setPl] using this
  · have hkeep : ∀ {L : Value} {k : List UInt8}, OwnKey w B L k → OwnKey (setPl w tb i p K) B L k := fun ho => ho.keep hc fun A n c e a ha => ho.ne h.blk (by decide) A n c e a ha
    by_cases hj : i = j
    · subst hj
      rw [List.getElem?_set_self hi] at h1
      rw [List.getElem?_set_self (by rw [h.len]; exact hi)] at h2
      injection h1 with h1
      injection h2 with h2
      subst h1; subst h2
      exact hkeep hK
    · rw [List.getElem?_set_ne hj] at h1 h2
      exact hkeep (h.keys j q L h1 h2)
theorem OwnKey.nil (w : World) (B : Nat → Prop) : OwnKey w B (.slice none 0 0) [] := ⟨none, 0, 0, rfl, World.ownsRow_nil _ _ _ _, fun a ha => by cases ha⟩
theorem IxAt.put {w : World} {B : Nat → Prop} {x tb most size marks probes : Nat} {T : List Pl} {Ks : List Value} (h : IxAt w B x tb most size marks probes T Ks) (hne : x ≠ tb) {i : Nat} (hi : i < T.length) (p : Pl) (K : Value) (hK : OwnKey w B K p.key) : IxAt (setPl w tb i p K) B x tb most size marks probes (T.set i p) (Ks.set i K) := by
  refine ⟨?_, h.tab.put hi p K hK, by rw [List.length_set]; exact h.pow, h.inB⟩
  rw [List.length_set]
  exact (setPl_chg w tb i p K).blk h.blk hne

set_option maxRecDepth 100000 in
theorem delete_any {w : World} {B : Nat → Prop} {x most probes : Nat} {E : List (List UInt8 × Int)} (h : HIx w B x most probes E) (hp : probes ≤ 4611686018427387904) (key : List UInt8) (A : Option Addr) (n c : Nat) (hk : KeyAt w A n key) (ha : Aside B A) (hn : n ≤ 4611686018427387904) :
    Calls Try.prog 91 #[.pointer (some ⟨x, 0, none⟩), .slice A n c] w fun e w' => ∃ r : Option Int, e = .returned (.tuple #[.int .i64 (r.getD 0), .bool r.isSome]) ∧ LookAt E key r ∧
      (∃ E', (match r with | some v => List.Perm E ((key, v) :: E') | none => E' = E) ∧ HIx w' B x most (probes + 1) E') ∧ Chg B w w' := by
  obtain ⟨tb, T, Ks, hI, hG, hE, h1, h2, h3, hne⟩ := h.at_
  have hkx : KeyAt (w.setCell ⟨x, 3, none⟩ (.int .i64 ((probes : Int) + 1))) A n key := (chg_one w _ _).key hk fun a he hx => ha a he (by rw [hx]; exact hI.inB)
  have HF := hide (find_any key A n c _ B x tb most _ _ _ T Ks (hI.probe hne) hkx hG.st hn)
  have HI := hide (hI.probe hne)
  have a3 : w.cell? ⟨x, 3, none⟩ = some (.int .i64 probes) := hI.blk.cell 3
  have f3 : w.frozen? ⟨x, 3, none⟩ = false := hI.blk.frozen 3
  have HC := hide (show Chg B w (w.setCell ⟨x, 3, none⟩ (.int .i64 ((probes : Int) + 1))) from (Chg.refl _ _).setCell (.inl hI.inB) _)
  have hm := h.most
  have HO := hide h.old
  have HE := hide hE
  rcases find_spec hG key with ⟨i, p, hf, hpi, hp1, hpk⟩ | ⟨f, hf, hfree, hno⟩
  · rw [hf] at HF
    have HR := hide (show LookAt E key (some p.num) from ⟨fun v hv => by injection hv with hv; subst hv; exact hE.mem_iff.1 (mem_ents.2 ⟨i, p, hpi, hp1, hpk, rfl⟩), fun hv => by cases hv⟩)
    have HP := hide hpi
    have hil : i < T.length := (List.getElem?_eq_some_iff.1 hpi).1
    obtain ⟨hG2, R, r1, r2, r3⟩ := turn_good (p := ⟨2, [], 0⟩) hG hpi hp1 (.inr rfl)
    have hER : List.Perm E ((key, p.num) :: R) := hpk ▸ (hE.symm.trans r1)
    have hEl := hER.length_eq
    rw [List.length_cons] at hEl
    have r3 : goneN (T.set i ⟨2, [], 0⟩) = goneN T + 1 := r3
    have hroom := hG.room
    have hW : HGood (T.set i ⟨2, [], 0⟩) ∧ List.Perm (ents (T.set i ⟨2, [], 0⟩)) R ∧ 4 * (R.length + goneN (T.set i ⟨2, [], 0⟩)) ≤ 3 * (T.set i ⟨2, [], 0⟩).length ∧ (T.set i ⟨2, [], 0⟩).length ≤ 4 * most + 8 ∧ (∀ p ∈ T.set i ⟨2, [], 0⟩, p.key.length ≤ 4096) ∧ x ≠ tb :=
      ⟨hG2, r2, by rw [r3, List.length_set]; omega, by rw [List.length_set]; exact h2, fun q hq => by
        rcases List.mem_or_eq_of_mem_set hq with hq | rfl
        · exact h3 q hq
        · exact Nat.zero_le _, hne⟩
    have HW := hide (And.intro hW (And.intro hER r3))
    have hinB := hide (And.intro hI.inB hI.tab.inB)
    have hgl : goneN T ≤ T.length := by omega
    have hTl : T.length ≤ 4194400 := by omega
    have HEl := hide hEl
    clear h hk hkx hI hE hf hpi hp1 hpk hG h1 h2 h3 ha hne hG2 r1 r2 r3 hW hER hroom hEl
    go_enter Try.func91, Try.ntmps91
    go_wp2_with fail
    refine HF.out.mono ?_
    rintro e w1 ⟨rfl, x1⟩
    have X1 := hide x1
    have HI1 := hide (HI.out.ext x1)
    obtain ⟨A5, n5, c5, b0, b1, b2, _⟩ := HI1.out.tab.at_ HP.out
    have a4 : w1.cell? ⟨x, 4, none⟩ = some (.slice (some ⟨tb, 0, none⟩) T.length T.length) := HI1.out.blk.cell 4
    have g0 : w1.frozen? ⟨tb, i * 3, none⟩ = false := HI1.out.tab.blk.frozen _
    have g1 : w1.frozen? ⟨tb, i * 3 + 1, none⟩ = false := HI1.out.tab.blk.frozen _
    have g2 : w1.frozen? ⟨tb, i * 3 + 2, none⟩ = false := HI1.out.tab.blk.frozen _
    clear x1 a3 f3
    simp only [frV]
    have hi0 : ¬ (i : Int) < 0 := by omega
    go_upto_region 7 with fail
    have HI2 := hide (show IxAt (((w1.setCell ⟨tb, i * 3, none⟩ (.int .u8 2)).setCell ⟨tb, i * 3 + 1, none⟩ (.slice none 0 0)).setCell ⟨tb, i * 3 + 2, none⟩ (.int .i64 0)) B x tb most E.length (goneN T) (probes + 1) (T.set i ⟨2, [], 0⟩) (Ks.set i (.slice none 0 0)) from HI1.out.put HW.out.1.2.2.2.2.2 hil ⟨2, [], 0⟩ _ (OwnKey.nil _ _))
    have HC2 := hide (show Chg B w (((w1.setCell ⟨tb, i * 3, none⟩ (.int .u8 2)).setCell ⟨tb, i * 3 + 1, none⟩ (.slice none 0 0)).setCell ⟨tb, i * 3 + 2, none⟩ (.int .i64 0)) from (((HC.out.trans' (Chg.of X1.out)).setCell (.inl hinB.out.2) _).setCell (.inl hinB.out.2) _).setCell (.inl hinB.out.2) _)
    generalize hW2 : ((w1.setCell ⟨tb, i * 3, none⟩ (.int .u8 2)).setCell ⟨tb, i * 3 + 1, none⟩ (.slice none 0 0)).setCell ⟨tb, i * 3 + 2, none⟩ (.int .i64 0) = W2 at *
    clear hW2 b0 b1 b2 a4 g0 g1 g2
    have a1 : W2.cell? ⟨x, 1, none⟩ = some (.int .i64 E.length) := HI2.out.blk.cell 1
    have f1 : W2.frozen? ⟨x, 1, none⟩ = false := HI2.out.blk.frozen 1
    have he1 := HEl.out
    go_upto_region 8 with fail
    have HI3 := hide (HI2.out.setSize HW.out.1.2.2.2.2.2 R.length (R.length : Int) rfl)
    have HC3 := hide (HC2.out.setCell (p := ⟨x, 1, none⟩) (.inl hinB.out.1) (.int .i64 (R.length : Int)))
    generalize hW3 : W2.setCell ⟨x, 1, none⟩ (.int .i64 (R.length : Int)) = W3 at *
    clear hW3 a1 f1
    have a2 : W3.cell? ⟨x, 2, none⟩ = some (.int .i64 (goneN T)) := HI3.out.blk.cell 2
    have f2 : W3.frozen? ⟨x, 2, none⟩ = false := HI3.out.blk.frozen 2
    go_wp2_with fail
    go_ret2
    have hI4 := HI3.out.setMarks HW.out.1.2.2.2.2.2 (goneN (T.set i ⟨2, [], 0⟩)) ((goneN T : Int) + 1) (by rw [HW.out.2.2]; omega)
    have hC4 := HC3.out.setCell (p := ⟨x, 2, none⟩) (.inl hinB.out.1) (.int .i64 ((goneN T : Int) + 1))
    exact ⟨some p.num, rfl, HR.out, ⟨R, HW.out.2.1, ⟨⟨tb, _, _, hI4, HW.out.1.1, HW.out.1.2.1, HW.out.1.2.2.1, HW.out.1.2.2.2.1, HW.out.1.2.2.2.2.1, HW.out.1.2.2.2.2.2⟩, ⟨by omega, hm.2⟩, fun b hb => Nat.lt_of_lt_of_le (HO.out b hb) hC4.size⟩⟩, hC4⟩
  · rw [hf] at HF
    have HR := hide (show LookAt E key none from ⟨fun v hv => (by cases hv), fun _ v hv => (mem_ents.1 (hE.mem_iff.2 hv)).elim fun i hi => hi.elim fun p hp => hno i p hp.1 hp.2.1 hp.2.2.1⟩)
    have HW := hide (And.intro hG (And.intro h1 (And.intro h2 (And.intro h3 hne))))
    clear h hk hkx hI hE hf hfree hno hG h1 h2 h3 ha hne
    go_enter Try.func91, Try.ntmps91
    go_wp2_with fail
    refine HF.out.mono ?_
    rintro e w1 ⟨rfl, x1⟩
    have X1 := hide x1
    clear x1 a3 f3
    simp only [frV]
    go_wp2_with fail
    go_ret2
    have hC := HC.out.trans' (Chg.of X1.out)
    exact ⟨none, rfl, HR.out, ⟨E, rfl, ⟨⟨tb, T, Ks, HI.out.ext X1.out, HW.out.1, HE.out, HW.out.2.1, HW.out.2.2.1, HW.out.2.2.2.1, HW.out.2.2.2.2⟩, hm, fun b hb => Nat.lt_of_lt_of_le (HO.out b hb) hC.size⟩⟩, hC⟩
end Go.Proofs.Ytahdiiaadjdmcaa

namespace Go.Proofs.Ytahdiiaadjdmcaa
open Go.RowKit

theorem infoU8 : (Try.prog.info? 5).map (fun i => (i.zero, i.size, i.bytes)) = some (some (.int .u8 0), 1, 1) := by kernel_rfl
set_option maxRecDepth 100000 in
theorem cloneK (cells : List Value) (A : Option Addr) (n c : Nat) (w : World) (ha : Sl w A n 1 cells) (h1 : OneCells cells) (hn : n ≤ 16777216) :
    Calls Try.prog 96 #[.slice A n c] w (RetOwn w 5 1 n cells) := by
  obtain ⟨i0, hi0, hz0, hz1, hz2⟩ := info_parts infoU8
  have Ha := hide ha; have H1 := hide h1
  have heq : ∀ (w : World) (a : Option Addr) (n c n' c' : Nat), (binOp .eql 113 (.slice a n c) (.slice none n' c')).run Try.prog w = .ok (.bool a.isNone) w := fun w a n c n' c' => Lib.run_eql_slice_nil w _ _ a n c n' c' Try.underlying113
  clear ha h1
  cases A with
  | none =>
    have hn0 : n = 0 := by
      rcases Nat.eq_zero_or_pos n with h | h
      · exact h
      · obtain ⟨b, off, hA, _⟩ := Ha.out.2 h; cases hA
    subst hn0
    have hc : cells = [] := List.eq_nil_of_length_eq_zero (by have := Ha.out.1; omega)
    subst hc
    go_enter Try.func96, Try.ntmps96
    go_wp2_with fail
    go_ret
    exact ⟨none, 0, rfl, World.ownsRow_nil _ _ _ _, Ext.refl _⟩
  | some a =>
    have hown := hide (show (w.alloc (.cells #[] 5)).ownsRow w.heap.size 5 1 (.slice (some ⟨w.heap.size, 0, none⟩) 0 0) 0 [] from ⟨rfl, .inr ⟨w.heap.size, 0, #[], rfl, Nat.le_refl _, heap_alloc_new w _, Nat.le_refl _, by unfold maxLen; omega, rfl, rfl⟩⟩)
    go_enter Try.func96, Try.ntmps96
    go_wp2_with (at_builtin; refine wpList_append_sl rfl (.tmp 5) (.tmp 6) _ rfl 5 i0 _ 1 1 Try.underlying113 hi0 hz0 hz1 hz2 rfl (by omega) w (Ext.alloc _ _) _ 0 [] rfl hown.out _ n c cells rfl (Ha.out.ext (Ext.alloc _ _)) H1.out (by unfold maxLen; omega) (by omega) ?_; intro A8 c8 w8 own8 E8 G8 L8)
    go_ret
    have o := own8.out
    simp only [Nat.zero_add, List.nil_append] at o
    exact ⟨A8, c8, by simp, o, E8.out⟩


theorem bytC_one (k : List UInt8) : OneCells (bytC k) := fun v hv => by
  obtain ⟨b, _, rfl⟩ := List.mem_map.1 hv
  rfl
/-- the copy of a key is an own one -/
theorem clone_key (key : List UInt8) (A : Option Addr) (n c : Nat) (w : World) (hk : KeyAt w A n key) (hn : n ≤ 16777216) :
    Calls Try.prog 96 #[.slice A n c] w fun e w' => ∃ K, e = .returned K ∧ Ext w w' ∧ OwnKey w' (fun b => w.heap.size ≤ b ∧ b < w'.heap.size) K key := by
  refine (cloneK (bytC key) A n c w hk (bytC_one key) hn).mono fun e w' h => ?_
  obtain ⟨A2, c2, rfl, ho, hE⟩ := h
  refine ⟨_, rfl, hE, A2, n, c2, rfl, ⟨ho.1, ?_⟩, fun a ha => ?_⟩
  · rcases ho.2 with h1 | ⟨g, cap, cur, h1, h2, h3⟩
    · exact .inl h1
    · exact .inr ⟨g, cap, cur, h1, Nat.zero_le _, h3⟩
  · subst ha
    rcases ho.2 with ⟨h1, _⟩ | ⟨g, cap, cur, h1, h2, h3, _⟩
    · cases h1
    · injection h1 with h1
      injection h1 with h1
      subst h1
      exact ⟨h2, Blk.lt h3⟩
end Go.Proofs.Ytahdiiaadjdmcaa
