/-
  hashidx: the hash of a key.
-/
import Derived.Test.YtifloafhpeeepaaGreatGround
import Derived.Laws.Bits64
import Derived.Laws.BitsAll
namespace Go.Proofs.YtifloafhpeeepaaGreat
open Go.RowKit

/-- a key: its bytes lie in memory -/
def bytC (k : List UInt8) : List Value := k.map fun b => .int .u8 (b.toNat : Int)
def KeyAt (w : World) (A : Option Addr) (n : Nat) (k : List UInt8) : Prop := Sl w A n 1 (bytC k)
theorem KeyAt.len {w : World} {A : Option Addr} {n : Nat} {k : List UInt8} (h : KeyAt w A n k) : n = k.length := by
  have := h.1
  simp [bytC] at this
  omega
theorem KeyAt.ext {w w' : World} {A : Option Addr} {n : Nat} {k : List UInt8} (h : KeyAt w A n k) (hw : Ext w w') : KeyAt w' A n k := Sl.ext h hw
theorem KeyAt.get {w : World} {A : Option Addr} {n : Nat} {k : List UInt8} (h : KeyAt w A n k) {i : Nat} (hi : i < n) : ∃ b off x, A = some ⟨b, off, none⟩ ∧ k[i]? = some x ∧ w.cell? ⟨b, off + i, none⟩ = some (.int .u8 (x.toNat : Int)) := by
  obtain ⟨b, off, hA, hc⟩ := h.2 (by omega)
  have hl : i < k.length := by have := h.len; omega
  exact ⟨b, off, k[i], hA, List.getElem?_eq_getElem hl, hc i _ (by simp [bytC, hl])⟩

/-- FNV-1a, folded once -/
def hstep (h : Nat) (x : UInt8) : Nat := (h ^^^ x.toNat) * 1099511628211 % 18446744073709551616
def hfin (h : Nat) : Nat := h ^^^ (h / 4294967296)
def hashN (k : List UInt8) : Nat := hfin (k.foldl hstep 14695981039346656037)
theorem hstep_lt (h : Nat) (x : UInt8) : hstep h x < 18446744073709551616 := Nat.mod_lt _ (by omega)
theorem hstep_eq (H : Nat) (x : UInt8) (hH : H < 18446744073709551616) : IntKind.u64.wrap (bits BinOp.xor IntKind.u64 (H : Int) (IntKind.u64.wrap (x.toNat : Int)) * 1099511628211) = ((hstep H x : Nat) : Int) := by
  have hx : x.toNat < 256 := x.toNat_lt
  rw [show IntKind.u64.wrap (x.toNat : Int) = ((x.toNat : Nat) : Int) by rw [IntKind.wrap_u64]; omega, bits_xor_u64_nat _ _ hH (by omega), IntKind.wrap_u64]
  unfold hstep
  generalize H ^^^ x.toNat = y
  omega
theorem hfin_eq (H : Nat) (hH : H < 18446744073709551616) : bits BinOp.xor IntKind.u64 (H : Int) ((H : Int) / 4294967296) = ((hfin H : Nat) : Int) := by
  rw [show (H : Int) / 4294967296 = ((H / 4294967296 : Nat) : Int) by omega, bits_xor_u64_nat _ _ hH (by omega)]
  rfl
theorem hfin_lt (H : Nat) (hH : H < 18446744073709551616) : hfin H < 18446744073709551616 := by
  unfold hfin
  have h2 : H / 4294967296 < 2 ^ 64 := by omega
  exact Nat.xor_lt_two_pow (n := 64) hH h2
theorem fold_lt : ∀ (k : List UInt8) (h : Nat), h < 18446744073709551616 → k.foldl hstep h < 18446744073709551616
  | [], _, h => h
  | x :: k, h, _ => fold_lt k _ (hstep_lt h x)
theorem hashN_lt (k : List UInt8) : hashN k < 18446744073709551616 := hfin_lt _ (fold_lt k _ (by omega))

set_option maxRecDepth 100000 in
theorem hash_any (k : List UInt8) (A : Option Addr) (n c : Nat) (w : World) (hk : KeyAt w A n k) (hn : n ≤ 4611686018427387904) :
    Calls Tryz.prog 120 #[.slice A n c] w fun e w' => e = .returned (.int .u64 ((hashN k : Nat) : Int)) ∧ w = w' := by
  have HK := hide hk; have HL := hide hk.len; clear hk
  go_enter Tryz.func120, Tryz.ntmps120
  go_wp2_with fail
  go_loop [3, 5, 8] (fun h b i => ∃ (j H : Nat), j ≤ n ∧ i = .int .i64 j ∧ h = .int .u64 H ∧ H < 18446744073709551616 ∧ Hid (hashN k = hfin ((k.drop j).foldl hstep H))) (fun _ _ i => n - (intOf i).toNat)
  case atStart => exact ⟨0, 14695981039346656037, by omega, rfl, rfl, by omega, rfl⟩
  case round =>
    obtain ⟨j, H, hj, rfl, rfl, hH, hf⟩ := hrel
    by_cases h : j < n
    · obtain ⟨b, off, x, rfl, hx, hc⟩ := HK.out.get h
      have hs := hide (show (k.drop j).foldl hstep H = (k.drop (j + 1)).foldl hstep (hstep H x) by
        obtain ⟨hl, e⟩ := List.getElem?_eq_some_iff.1 hx
        rw [List.drop_eq_getElem_cons hl, e]; rfl)
      have hse := hide (hstep_eq H x hH)
      clear hx
      go_wp2_with fail
      go_round
      case rel => exact ⟨j + 1, hstep H x, by omega, by go_num, by rw [hse.out], hstep_lt H x, by have := hf.out; rw [hs.out] at this; exact this⟩
      case measure => simp [intOf]; omega
    · have hfe := hide (hfin_eq H hH)
      go_wp2_with fail
      go_ret
      rw [hfe.out, hf.out, List.drop_of_length_le (by have := HL.out; omega)]
      exact ⟨rfl, rfl⟩
end Go.Proofs.YtifloafhpeeepaaGreat
