/-
  Packs as plain lists of bytes; numbers of 64 bits.
-/
import Derived.Test.YtoahckibhmoikaaDoorValidR
import Derived.Laws.Bits64
namespace Go.Proofs.YtoahckibhmoikaaDoor

def esc : List UInt8 → List UInt8
  | [] => []
  | b :: l => if b = 0 then 0 :: 255 :: esc l else b :: esc l
def bias (i : Int) : Nat := (i + 9223372036854775808).toNat
def be64 (N : Nat) : List UInt8 := [56, 48, 40, 32, 24, 16, 8, 0].map fun s => UInt8.ofNat (N / 2 ^ s)
def packV (v : V) : List UInt8 := if v.k = 1 then 1 :: be64 (bias v.i) else 2 :: (esc v.t.data.toList ++ [0, 0])
def packR (r : List V) : List UInt8 := r.flatMap packV
def packRes (r : List V) : List UInt8 × Int := if 30 < r.length then ([], 20) else if validR r then (packR r, 0) else ([], 21)
def bcells (l : List UInt8) : List Value := l.map fun b => Value.int .u8 (b.toNat : Int)
theorem bcells_len (l : List UInt8) : (bcells l).length = l.length := by simp [bcells]
theorem bcells_append (l m : List UInt8) : bcells (l ++ m) = bcells l ++ bcells m := by simp [bcells]
theorem bcells_one (l : List UInt8) : OneCells (bcells l) := fun v hv => by
  obtain ⟨x, _, rfl⟩ := List.mem_map.1 hv
  rfl

theorem esc_append : ∀ l m : List UInt8, esc (l ++ m) = esc l ++ esc m
  | [], m => rfl
  | b :: l, m => by
    simp only [List.cons_append, esc, esc_append l m]
    split <;> simp
theorem esc_len : ∀ l : List UInt8, (esc l).length ≤ 2 * l.length
  | [] => by simp [esc]
  | b :: l => by
    have := esc_len l
    simp only [esc]
    split <;> simp <;> omega
theorem packV_len (v : V) (h : validV v = true) : (packV v).length ≤ 131 := by
  unfold packV
  unfold validV at h
  split
  · simp [be64]
  · rename_i h1
    rw [if_neg h1] at h
    split at h
    · split at h
      · have h2 := esc_len v.t.data.toList
        have h3 : v.t.data.toList.length = v.t.size := Array.length_toList
        have h4 : (v.t.size : Int) ≤ 64 := by simpa using h
        simp; omega
      · cases h
    · cases h
theorem packR_len : ∀ r : List V, r.all validV = true → (packR r).length ≤ 131 * r.length
  | [], _ => by simp [packR]
  | v :: r, h => by
    simp only [List.all_cons, Bool.and_eq_true] at h
    have h1 := packV_len v h.1
    have h2 := packR_len r h.2
    simp only [packR, List.flatMap_cons, List.length_append, List.length_cons] at h2 ⊢
    omega
theorem packR_snoc (r : List V) (v : V) : packR (r ++ [v]) = packR r ++ packV v := by simp [packR]

theorem xor63 (Y : Nat) (h : Y < 2 ^ 63) : Y ^^^ 2 ^ 63 = 2 ^ 63 + Y := Nat.eq_of_testBit_eq fun j => by
  rw [Nat.testBit_xor, Nat.testBit_two_pow]
  rcases Nat.lt_trichotomy j 63 with hj | hj | hj
  · rw [Nat.testBit_two_pow_add_gt hj]
    have e : decide (63 = j) = false := by rw [decide_eq_false_iff_not]; omega
    rw [e]; cases Y.testBit j <;> rfl
  · subst hj
    rw [Nat.testBit_two_pow_add_eq]
    simp
  · have h1 : Y.testBit j = false := Nat.testBit_lt_two_pow (Nat.lt_trans h (Nat.pow_lt_pow_right (by omega) hj))
    have h2 : (2 ^ 63 + Y).testBit j = false := Nat.testBit_lt_two_pow (Nat.lt_of_lt_of_le (show 2 ^ 63 + Y < 2 ^ 64 by omega) (Nat.pow_le_pow_right (by omega) (by omega)))
    have e : decide (63 = j) = false := by rw [decide_eq_false_iff_not]; omega
    rw [h1, h2, e]; rfl
def wrapN (i : Int) : Nat := (i % 18446744073709551616).toNat
theorem wrapN_eq (i : Int) : IntKind.u64.wrap i = (wrapN i : Int) := by
  rw [IntKind.wrap_u64]; unfold wrapN; omega
theorem wrapN_lt (i : Int) : wrapN i < 18446744073709551616 := by unfold wrapN; omega
theorem bias_lt {i : Int} (h : -9223372036854775808 ≤ i ∧ i ≤ 9223372036854775807) : bias i < 18446744073709551616 := by unfold bias; omega
theorem bias_xor {i : Int} (h : -9223372036854775808 ≤ i ∧ i ≤ 9223372036854775807) : wrapN i ^^^ 9223372036854775808 = bias i := by
  have e : (9223372036854775808 : Nat) = 2 ^ 63 := by decide
  by_cases h0 : 0 ≤ i
  · have hX : wrapN i < 2 ^ 63 := by unfold wrapN; omega
    rw [e, xor63 _ hX]
    unfold wrapN bias; omega
  · have hY : bias i < 2 ^ 63 := by unfold bias; omega
    have h2 := xor63 _ hY
    have h3 : wrapN i = 2 ^ 63 + bias i := by unfold wrapN bias; omega
    rw [h3, ← h2, e, Nat.xor_assoc, Nat.xor_self, Nat.xor_zero]
theorem bias_add {i : Int} (h : -9223372036854775808 ≤ i ∧ i ≤ 9223372036854775807) : IntKind.u64.wrap ((wrapN i : Int) + 9223372036854775808) = (bias i : Int) := by
  rw [IntKind.wrap_u64]; unfold wrapN bias; omega

section
variable {P : Program} {w : World}
theorem run_xor63 {t : TypeId} {i : Int} (h : -9223372036854775808 ≤ i ∧ i ≤ 9223372036854775807) : (binOp .xor t (.int .u64 (wrapN i : Int)) (.int .u64 9223372036854775808)).run P w = .ok (.int .u64 (bias i : Int)) w := by
  have h1 := bits_xor_u64_nat (wrapN i) 9223372036854775808 (wrapN_lt i) (by omega)
  rw [bias_xor h] at h1
  have h2 : IntKind.u64.wrap ((BitVec.ofInt 64 (wrapN i : Int) ^^^ BitVec.ofInt 64 9223372036854775808).toNat : Int) = (bias i : Int) := h1
  simp only [binOp, ne_eq, not_true_eq_false, if_false, Op.intBits]
  exact congrArg (fun x => Result.ok (Value.int .u64 x) w) h2
theorem run_add63 {t : TypeId} {i : Int} (h : -9223372036854775808 ≤ i ∧ i ≤ 9223372036854775807) : (binOp .add t (.int .u64 (wrapN i : Int)) (.int .u64 9223372036854775808)).run P w = .ok (.int .u64 (bias i : Int)) w := by
  have h2 := bias_add h
  simp only [binOp, ne_eq, not_true_eq_false, if_false, Op.intArith]
  exact congrArg (fun x => Result.ok (Value.int .u64 x) w) h2
end
theorem byte_wrap (N : Nat) : IntKind.u8.wrap (N : Int) = ((UInt8.ofNat N).toNat : Int) := by
  simp [IntKind.wrap, IntKind.bits, IntKind.signed]
end Go.Proofs.YtoahckibhmoikaaDoor
