/-
  The document's Digits.
-/
import Derived.Test.YtpfjkjmimmklcaaHomG
import Derived.Test.YtpfjkjmimmklcaaRefB
import Derived.Laws.BytesString
import Derived.Laws.Concat
namespace Go.Proofs.Ytpfjkjmimmklcaa
open Go.RowKit

theorem digL_step (k : Nat) (h : ¬ k < 10) : digL k = digL (k / 10) ++ [UInt8.ofNat (48 + k % 10)] := by rw [digL, dif_neg h]
theorem digL_small (k : Nat) (h : k < 10) : digL k = [UInt8.ofNat (48 + k % 10)] := by rw [digL, dif_pos h, Nat.mod_eq_of_lt h]

theorem digL_le : ∀ (m n : Nat), n < 10 ^ (m + 1) → (digL n).length ≤ m + 1
  | 0, n, h => by rw [digL, dif_pos (by simpa using h)]; simp
  | m + 1, n, h => by
    by_cases h1 : n < 10
    · rw [digL, dif_pos h1]; simp
    · rw [digL_step n h1, List.length_append, List.length_cons, List.length_nil]
      have := digL_le m (n / 10) (by rw [Nat.pow_succ] at h; omega)
      omega
/-- one digit, as a text -/
def digB (x : Int) : ByteArray := ⟨#[UInt8.ofNat x.toNat]⟩
theorem run_digit (w : World) (x : Int) : (convert 137 9 (.slice (some ⟨w.heap.size, 0, none⟩) 1 1)).run Try.prog (w.alloc (.cells #[.int .u8 x] 5)) = .ok (.string (digB x)) (w.alloc (.cells #[.int .u8 x] 5)) := by
  rw [run_convert_bytes_string _ _ _ 5 _ 1 1 Try.underlying137 Try.underlying5 Try.underlying9]
  have hl := run_loadCells_list (P := Try.prog) (w.alloc (.cells #[.int .u8 x] 5)) ⟨w.heap.size, 0, none⟩ [.int .u8 x] (fun j v hv => by
    rw [add_flat, Nat.zero_add]
    have := (Blk.new w 5 #[.int .u8 x]).cell j
    rw [this]; simpa using hv)
  rw [run_bytesToString _ _ 1 1 [x] hl]
  rfl
theorem digB_app (k : Nat) (b : ByteArray) : (digB (48 + (k : Int) % 10) ++ b).data.toList = UInt8.ofNat (48 + k % 10) :: b.data.toList := by
  have h48 : (48 + (k : Int) % 10).toNat = 48 + k % 10 := by omega
  unfold digB
  rw [h48]
  simp
theorem str_eq {a : ByteArray} {l : List UInt8} (h : a.data.toList = l) : a = ⟨l.toArray⟩ := by
  cases a with
  | mk d => simp only [← h]
theorem digB_size (x : Int) : (digB x).size = 1 := rfl

set_option maxRecDepth 100000 in
theorem ref_digits (n : Nat) (w : World) (hn : n < 18446744073709551616) :
    Calls Try.prog 46 #[.int .u64 (n : Int)] w fun e w' => e = .returned (.string ⟨(digL n).toArray⟩) ∧ Ext w w' := by
  have hrd := run_digit
  have HN := hide (digL_le 19 n (by omega))
  go_enter Try.func46, Try.ntmps46
  go_wp2_with fail
  go_loopw [0, 3] (fun s0 s3 w' => ∃ (k : Nat) (b : ByteArray), k ≤ n ∧ s0 = .int .u64 k ∧ s3 = .string b ∧ Hid (digL n = digL k ++ b.data.toList) ∧ Hid (Ext w w')) (fun s0 _ _ => (intOf s0).toNat)
  case atStart => exact ⟨n, _, by omega, rfl, rfl, by simp [Hid], Ext.refl _⟩
  case round =>
    obtain ⟨k, b, hk, rfl, rfl, hD, hX⟩ := hrel
    have hb : b.size ≤ 20 := by
      have h1 := congrArg List.length hD.out
      have h2 := HN.out
      rw [List.length_append, data_len] at h1
      omega
    have hds := digB_size
    by_cases h : k < 10
    · have HC := hide (show digB (48 + (k : Int) % 10) ++ b = ⟨(digL n).toArray⟩ from str_eq (by rw [digB_app, hD.out, digL_small k h]; rfl))
      have hq : ((k : Int) / 10 == 0) = true := by simp; omega
      clear h
      go_wp2_with fail
      go_ret
      exact ⟨(by rw [HC.out]; first | done | rfl), hX.out.alloc' _⟩
    · have HC := hide (show digL n = digL (k / 10) ++ (digB (48 + (k : Int) % 10) ++ b).data.toList by
        rw [digB_app, hD.out, digL_step k h]; simp)
      have hq : ((k : Int) / 10 == 0) = false := by simp; omega
      have hk10 := hide h
      clear h
      go_wp2_with fail
      go_roundw
      case rel => exact ⟨k / 10, _, by omega, by simp, rfl, HC.out, hX.out.alloc' _⟩
      case measure => have := hk10.out; simp [intOf]; omega
end Go.Proofs.Ytpfjkjmimmklcaa
