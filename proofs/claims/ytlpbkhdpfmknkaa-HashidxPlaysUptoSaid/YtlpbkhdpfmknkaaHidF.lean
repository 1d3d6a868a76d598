/-
  hashidx: find.
-/
import Derived.Test.YtlpbkhdpfmknkaaHidM
import Derived.Laws.BitsAllLaws
import Derived.IntWalk
import Derived.Deep.Cut
import Derived.WalkMore
namespace Go.Proofs.Ytlpbkhdpfmknkaa
open Go.RowKit

/-- a place, or -1 -/
def frV : Option Nat → Int
  | some i => (i : Int)
  | none => -1
/-- the index as find sees it -/
structure IxAt (w : World) (B : Nat → Prop) (x tb most size marks probes : Nat) (T : List Pl) (Ks : List Value) : Prop where
  blk : Blk w x 51 (ixC most size marks probes tb T.length)
  tab : TabAt w B tb T Ks
  pow : ∃ k, T.length = 2 ^ k ∧ k ≤ 40
  inB : B x

theorem i64_and_nat (a b : Nat) (ha : a < 9223372036854775808) (hb : b < 9223372036854775808) : bits .and .i64 (a : Int) (b : Int) = ((a &&& b : Nat) : Int) := by
  have hx : a &&& b ≤ a := Nat.and_le_left
  have h1 : (BitVec.ofInt 64 (a : Int)).toNat = a := by
    rw [BitVec.ofInt_natCast, BitVec.toNat_ofNat]; exact Nat.mod_eq_of_lt (by omega)
  have h2 : (BitVec.ofInt 64 (b : Int)).toNat = b := by
    rw [BitVec.ofInt_natCast, BitVec.toNat_ofNat]; exact Nat.mod_eq_of_lt (by omega)
  show IntKind.i64.wrap ((BitVec.ofInt 64 (a : Int) &&& BitVec.ofInt 64 (b : Int)).toNat : Int) = _
  rw [BitVec.toNat_and, h1, h2]; exact IntWalk.i64_in _ (by omega)
theorem and_pow {n k : Nat} (a : Nat) (h : n = 2 ^ k) : a &&& (n - 1) = a % n := by rw [h]; exact Nat.and_two_pow_sub_one_eq_mod _ _
theorem first_eq {n k : Nat} (h : Nat) (hp : n = 2 ^ k) (hk : k ≤ 40) (hh : h < 18446744073709551616) :
    IntKind.i64.wrap (bits BinOp.and IntKind.u64 (h : Int) (IntKind.u64.wrap (IntKind.i64.wrap ((n : Int) - 1)))) = ((h % n : Nat) : Int) := by
  have h1 : 0 < n := by rw [hp]; exact Nat.two_pow_pos k
  have h2 : n ≤ 1099511627776 := by rw [hp]; exact Nat.pow_le_pow_right (by omega) hk
  have h3 : h % n < n := Nat.mod_lt _ h1
  rw [show IntKind.i64.wrap ((n : Int) - 1) = ((n - 1 : Nat) : Int) by rw [IntWalk.i64_in _ (by omega)]; omega, IntKind.wrap_u64, show ((n - 1 : Nat) : Int) % 18446744073709551616 = ((n - 1 : Nat) : Int) by omega, u64_and_nat _ _ hh (by omega), and_pow h hp]
  exact IntWalk.i64_in _ (by omega)
theorem next_eq {n k : Nat} (i : Nat) (hp : n = 2 ^ k) (hk : k ≤ 40) (hi : i < n) :
    bits BinOp.and IntKind.i64 ((i : Int) + 1) ((n : Int) - 1) = (((i + 1) % n : Nat) : Int) := by
  have h2 : n ≤ 1099511627776 := by rw [hp]; exact Nat.pow_le_pow_right (by omega) hk
  rw [show ((n : Int) - 1) = ((n - 1 : Nat) : Int) by omega, show ((i : Int) + 1) = ((i + 1 : Nat) : Int) by omega, i64_and_nat _ _ (by omega) (by omega), and_pow _ hp]

set_option maxRecDepth 100000 in
theorem find_any (key : List UInt8) (A : Option Addr) (n c : Nat) (w : World) (B : Nat → Prop) (x tb most size marks probes : Nat) (T : List Pl) (Ks : List Value) (hI : IxAt w B x tb most size marks probes T Ks) (hk : KeyAt w A n key) (hst : ∀ p ∈ T, p.st ≤ 2) (hn : n ≤ 4611686018427387904) :
    Calls Try.prog 18 #[.pointer (some ⟨x, 0, none⟩), .slice A n c] w fun e w' => e = .returned (.tuple #[.int .i64 (frV (findP T key).1), .int .i64 (frV (findP T key).2)]) ∧ Ext w w' := by
  have a4 : w.cell? ⟨x, 4, none⟩ = some (.slice (some ⟨tb, 0, none⟩) T.length T.length) := hI.blk.cell 4
  have HH := hide (fun w1 (hw1 : Ext w w1) => hash_any key A n c w1 (hk.ext hw1) hn)
  obtain ⟨pw, hp1, hp2⟩ := hI.pow
  have hfe := first_eq (hashN key) hp1 hp2 (hashN_lt key)
  have hp0 : 0 < T.length := by rw [hp1]; exact Nat.two_pow_pos pw
  have hpl : T.length ≤ 1099511627776 := by rw [hp1]; exact Nat.pow_le_pow_right (by omega) hp2
  have hpos0 : hashN key % T.length = posP T key 0 := by unfold posP; rw [Nat.add_zero, Nat.mod_mod]
  rw [hpos0] at hfe
  have HNX := hide (fun (i : Nat) (hi : i < T.length) => next_eq i hp1 hp2 hi)
  have HI := hide hI; have HK := hide hk; have HST := hide hst; clear hI hk hst hp1 hp2 hpos0
  go_enter Try.func18, Try.ntmps18
  go_wp2_with fail
  go_step3
  go_upto_region 2 with fail
  have a4 := cell_ext a4
  refine wp_region_ext 12 (by kernel_rfl) (by kernel_rfl) (by kernel_rfl) ?_
  iterate 12
    refine wpE_k (by kernel_rfl) (by kernel_rfl) ?_
    apply Exists.intro
    refine ⟨fun w1 hw1 => ?_, fun K hK => ?_⟩
    · go_simp; first | done | rfl | exact ((HH.out w1 hw1).mono fun _ _ h => ⟨h.1, h.2 ▸ Ext.refl _⟩)
    go_simp; refine hK _ _ ?_; clear hK K
  refine wpE_nil ⟨rfl, by kernel_rfl, fun wq hwq => ?_⟩
  simp only [EndQ]
  refine wpList_nil ?_
  have HE0 := hide hwq; clear hwq a4
  have a4 : wq.cell? ⟨x, 4, none⟩ = some (.slice (some ⟨tb, 0, none⟩) T.length T.length) := (HI.out.blk.ext HE0.out).cell 4
  go_wp2_with fail
  go_step3
  go_wp2_with fail
  go_loopw [5, 6, 24] (fun s5 s6 s24 w' => ∃ (d : Nat) (fr : Option Nat), d ≤ T.length ∧ s24 = .int .i64 d ∧ s6 = .int .i64 (posP T key d : Nat) ∧ s5 = .int .i64 (frV fr) ∧ Hid (findP T key = scanP T key (T.length - d) (posP T key d) fr) ∧ Hid (Ext w w')) (fun _ _ s24 _ => T.length - (intOf s24).toNat)
  case atStart => exact ⟨0, none, by omega, rfl, rfl, rfl, rfl, HE0.out⟩
  case round =>
    obtain ⟨d, fr, hd, rfl, rfl, rfl, hf, hX⟩ := hrel
    have a4 : wr.cell? ⟨x, 4, none⟩ = some (.slice (some ⟨tb, 0, none⟩) T.length T.length) := (HI.out.blk.ext hX.out).cell 4
    by_cases h : d < T.length
    · obtain ⟨p, hp⟩ := posP_get key d hp0
      have hpb := posP_lt key d hp0
      have hst := HST.out p (List.mem_of_getElem? hp)
      obtain ⟨A5, n5, c5, b0, b1, _, hK5, _⟩ := (HI.out.tab.ext hX.out).at_ hp
      obtain ⟨st, pk, pn⟩ := p
      have hsc := hide (show scanP T key (T.length - d) (posP T key d) fr = if st = 0 then (none, fr.or (some (posP T key d))) else if st = 2 then scanP T key (T.length - (d + 1)) (posP T key (d + 1)) (fr.or (some (posP T key d))) else if pk = key then (some (posP T key d), some (posP T key d)) else scanP T key (T.length - (d + 1)) (posP T key (d + 1)) fr by
        rw [show T.length - d = (T.length - (d + 1)) + 1 by omega, scanP, hp, posP_succ])
      have hnx := HNX.out (posP T key d) hpb
      rw [← posP_succ] at hnx
      have HEQ := hide (eq_keys (w := wr) hK5 (HK.out.ext hX.out) c5 c)
      dsimp only at hst b0 hK5
      clear hp hK5
      generalize posP T key d = pd at *
      obtain rfl | rfl | rfl : st = 0 ∨ st = 1 ∨ st = 2 := by omega
      · have b0 : wr.cell? ⟨tb, pd * 3, none⟩ = some (.int .u8 0) := b0
        cases fr with
        | none =>
          simp only [frV]
          go_wp2_with fail
          go_ret2
          exact ⟨by rw [hf.out, hsc.out]; rfl, hX.out⟩
        | some f =>
          simp only [frV]
          have hf0 : ¬ (f : Int) < 0 := by omega
          go_wp2_with fail
          go_ret2
          exact ⟨by rw [hf.out, hsc.out]; rfl, hX.out⟩
      · have b0 : wr.cell? ⟨tb, pd * 3, none⟩ = some (.int .u8 1) := b0
        by_cases hk : pk = key
        · have HK2 := hide hk; clear hk
          go_wp2_with fail
          refine HEQ.out.mono ?_
          rintro e w1 ⟨rfl, rfl⟩
          rw [decide_eq_true HK2.out]
          go_wp2_with fail
          rw [Exit.noGoto_ret]
          go_ret2
          exact ⟨by rw [hf.out, hsc.out]; simp [HK2.out, frV], hX.out⟩
        · have HK2 := hide hk; clear hk
          go_wp2_with fail
          refine HEQ.out.mono ?_
          rintro e w1 ⟨rfl, rfl⟩
          rw [decide_eq_false HK2.out]
          go_wp2_with fail
          go_roundw
          case rel => exact ⟨d + 1, fr, by omega, by go_num, rfl, rfl, by rw [Hid, hf.out, hsc.out]; simp [HK2.out], hX.out⟩
          case measure => simp [intOf]; omega
      · have b0 : wr.cell? ⟨tb, pd * 3, none⟩ = some (.int .u8 2) := b0
        cases fr with
        | none =>
          simp only [frV]
          go_wp2_with fail
          go_roundw
          case rel => exact ⟨d + 1, some pd, by omega, by go_num, rfl, rfl, by rw [Hid, hf.out, hsc.out]; rfl, hX.out⟩
          case measure => simp [intOf]; omega
        | some f =>
          simp only [frV]
          have hf0 : ¬ (f : Int) < 0 := by omega
          go_wp2_with fail
          go_roundw
          case rel => exact ⟨d + 1, some f, by omega, by go_num, rfl, rfl, by rw [Hid, hf.out, hsc.out]; rfl, hX.out⟩
          case measure => simp [intOf]; omega
    · have hend : T.length - d = 0 := by omega
      go_wp2_with fail
      rw [Exit.noGoto_ret]
      go_ret2
      exact ⟨by rw [hf.out, hend]; rfl, hX.out⟩
end Go.Proofs.Ytlpbkhdpfmknkaa
