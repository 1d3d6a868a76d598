/-
  Valid: of a value, of a row: the program's and the document's.
  
  Packs as plain lists of bytes; numbers of 64 bits.
  
-/
import Derived.Test.YtahdiiaadjdmcaaGround
import Derived.Laws.Bits64
import Derived.Deep.Draws
import Derived.Test.YtahdiiaadjdmcaaGaD
namespace Go.Proofs.Ytahdiiaadjdmcaa
open Go.RowKit

def validV (v : V) : Bool := if v.k = 1 then v.t.toList.isEmpty else if v.k = 2 then (if v.i = 0 then decide ((v.t.size : Int) ≤ 64) else false) else false
def validR (r : List V) : Bool := decide (r.length ≤ 30) && r.all validV

set_option maxRecDepth 100000 in
theorem val_valid (v : V) (w : World) (hs : v.t.size ≤ 1048576) : Calls Try.prog 39 #[v.val] w fun e w' => e = .returned (.bool (validV v)) ∧ Ext w w' := by
  obtain ⟨k, i, t⟩ := v
  simp only [V.val]
  dsimp only at hs
  by_cases h1 : k = 1
  · subst h1
    go_enter Try.func39, Try.ntmps39
    go_wp2
    go_ret
    exact ⟨ret_bool (by simp [validV]), Ext.alloc _ _⟩
  · have h1' : (k == 1) = false := by simpa using h1
    have H1 := hide h1; clear h1
    by_cases h2 : k = 2
    · subst h2
      clear H1
      by_cases h3 : i = 0
      · subst h3
        go_enter Try.func39, Try.ntmps39
        go_wp2
        go_ret
        exact ⟨ret_bool (by simp [validV]), Ext.alloc _ _⟩
      · have h3' : (i == 0) = false := by simpa using h3
        have H3 := hide h3; clear h3
        go_enter Try.func39, Try.ntmps39
        go_wp2
        go_ret
        exact ⟨ret_bool (by simp [validV, H3.out]), Ext.alloc _ _⟩
    · have h2' : (k == 2) = false := by simpa using h2
      have H2 := hide h2; clear h2
      go_enter Try.func39, Try.ntmps39
      go_wp2
      go_ret
      exact ⟨ret_bool (by simp [validV, H1.out, H2.out]), Ext.alloc _ _⟩

theorem size0 (t : ByteArray) : ((t.size : Int) == 0) = t.toList.isEmpty := by
  rw [ByteArray.toList_eq, Bool.eq_iff_iff, List.isEmpty_iff]
  simp only [beq_iff_eq]
  have : t.data.toList.length = t.size := Array.length_toList
  constructor
  · intro h; exact List.eq_nil_of_length_eq_zero (by omega)
  · intro h; rw [h] at this; simp at this; omega

end Go.Proofs.Ytahdiiaadjdmcaa

namespace Go.Proofs.Ytahdiiaadjdmcaa
open Go.RowKit

def smallR (r : List V) : Prop := ∀ v ∈ r, v.t.size ≤ 1048576
theorem smallR.get {r : List V} (h : smallR r) {i : Nat} {v : V} (hv : r[i]? = some v) : v.t.size ≤ 1048576 := h v (List.mem_of_getElem? hv)

theorem valid_closure (v : V) (w : World) (hs : v.t.size ≤ 1048576) : Calls Try.prog 38 #[v.val] w fun e w' => e = .returned (.bool (!validV v)) ∧ Ext w w' := by
  have H := hide (val_valid v (w.alloc (.cells #[.int .i64 v.k, .int .i64 v.i, .string v.t] 59)) hs)
  have HE := hide (Ext.alloc w (.cells #[.int .i64 v.k, .int .i64 v.i, .string v.t] 59))
  simp only [V.val] at *
  go_enter Try.func38, Try.ntmps38
  go_wp2_with fail
  refine H.out.mono ?_
  rintro e w1 ⟨rfl, h1⟩
  have E1 := hide (HE.out.trans h1); clear h1
  go_wp2_with fail
  go_ret
  exact ⟨rfl, E1.out⟩

def firstBad : List V → Nat → Int
  | [], _ => -1
  | v :: r, i => if validV v then firstBad r (i + 1) else i
theorem firstBad_drop (r : List V) (i : Nat) (v : V) (h : r[i]? = some v) : firstBad (r.drop i) i = if validV v then firstBad (r.drop (i + 1)) (i + 1) else (i : Int) := by
  rw [List.getElem?_eq_some_iff] at h
  obtain ⟨h, e⟩ := h
  rw [List.drop_eq_getElem_cons h, e]; rfl
theorem firstBad_iff : ∀ (r : List V) (i : Nat), 0 ≤ firstBad r i ↔ r.all validV = false
  | [], _ => by simp [firstBad]
  | v :: r, i => by
    have ih := firstBad_iff r (i + 1)
    by_cases h : validV v = true
    · simp only [firstBad, h, if_true, List.all_cons, Bool.true_and]; exact ih
    · have h : validV v = false := by simpa using h
      simp [firstBad, h]
theorem firstBad_all (r : List V) (i : Nat) : decide (0 ≤ firstBad r i) = !r.all validV := by
  rw [Bool.eq_iff_iff, decide_eq_true_iff, firstBad_iff]; simp

set_option maxRecDepth 100000 in
theorem index_func (r : List V) (A : Option Addr) (n c : Nat) (w : World) (ha : RowAt w A n r) (hn : n ≤ 1048576) (hs : smallR r) :
    Calls Try.prog 47 #[.slice A n c, .func (.func 38) #[] #[]] w fun e w' => e = .returned (.int .i64 (firstBad r 0)) ∧ Ext w w' := by
  have Ha := hide ha; have Hs := hide hs; clear ha hs
  go_enter Try.func47, Try.ntmps47
  go_wp2
  go_loopw [4, 5, 8] (fun _ _ k w' => ∃ i : Nat, i ≤ n ∧ k = .int .i64 i ∧ Hid (firstBad r 0 = firstBad (r.drop i) i) ∧ Hid (Ext w w')) (fun _ _ k _ => n - (intOf k).toNat)
  case atStart => exact ⟨0, by omega, rfl, rfl, Ext.refl _⟩
  case round =>
    obtain ⟨i, hin, rfl, ho, hw⟩ := hrel
    by_cases h : i < n
    · obtain ⟨b, off, x, rfl, hx, hb1, c0, c1, c2⟩ := (Ha.out.ext hw.out).get h
      have hd := hide (firstBad_drop r i x hx)
      have hsx := hide (Hs.out.get hx); clear hx
      go_wp2_with fail
      refine (valid_closure x _ hsx.out).mono ?_
      rintro e w1 ⟨rfl, h1⟩
      have E1 := hide (hw.out.trans h1)
      clear h1 c0 c1 c2 hb1
      cases hv : validV x with
      | true =>
        have Hv := hide hv; clear hv
        go_wp2_with fail
        go_roundw
        case rel => exact ⟨i + 1, by omega, by go_num, by rw [Hid, ho.out, hd.out, Hv.out]; rfl, E1.out⟩
        case measure => simp [intOf]; omega
      | false =>
        have Hv := hide hv; clear hv
        go_wp2_with fail
        go_ret
        exact ⟨ret_int (by rw [ho.out, hd.out, Hv.out]; rfl), E1.out⟩
    · go_wp2_with fail
      go_ret
      exact ⟨ret_int (by rw [ho.out, List.drop_of_length_le (by have := Ha.out.len; omega)]; rfl), hw.out⟩

theorem contains_func (r : List V) (A : Option Addr) (n c : Nat) (w : World) (ha : RowAt w A n r) (hn : n ≤ 1048576) (hs : smallR r) :
    Calls Try.prog 37 #[.slice A n c, .func (.func 38) #[] #[]] w fun e w' => e = .returned (.bool (!r.all validV)) ∧ Ext w w' := by
  have H := hide (index_func r A n c w ha hn hs); clear ha hs
  go_enter Try.func37, Try.ntmps37
  go_wp2_with fail
  refine H.out.mono ?_
  rintro e w1 ⟨rfl, h1⟩
  have E1 := hide h1; clear h1
  go_wp2_with fail
  go_ret
  exact ⟨ret_bool (firstBad_all r 0), E1.out⟩

theorem row_valid (r : List V) (A : Option Addr) (n c : Nat) (w : World) (ha : RowAt w A n r) (hn : n ≤ 1048576) (hs : smallR r) :
    Calls Try.prog 29 #[.slice A n c] w fun e w' => e = .returned (.bool (validR r)) ∧ Ext w w' := by
  have H := hide (contains_func r A n c w ha hn hs)
  have hl := hide ha.len; clear ha hs
  by_cases h : n ≤ 30
  · go_enter Try.func29, Try.ntmps29
    go_wp2_with fail
    refine H.out.mono ?_
    rintro e w1 ⟨rfl, h1⟩
    have E1 := hide h1; clear h1
    go_wp2_with fail
    go_ret
    exact ⟨ret_bool (by simp [validR, ← hl.out, h]), E1.out⟩
  · go_enter Try.func29, Try.ntmps29
    go_wp2_with fail
    go_ret
    exact ⟨ret_bool (by simp [validR, ← hl.out, h]), Ext.refl _⟩

theorem all_drop (r : List V) (i : Nat) (v : V) (h : r[i]? = some v) : (r.drop i).all validV = (validV v && (r.drop (i + 1)).all validV) := by
  rw [List.getElem?_eq_some_iff] at h
  obtain ⟨h, e⟩ := h
  rw [List.drop_eq_getElem_cons h, e]; rfl

end Go.Proofs.Ytahdiiaadjdmcaa

namespace Go.Proofs.Ytahdiiaadjdmcaa

def esc : List UInt8 → List UInt8
  | [] => []
  | b :: l => if b = 0 then 0 :: 255 :: esc l else b :: esc l
def bias (i : Int) : Nat := (i + 9223372036854775808).toNat
def be64 (N : Nat) : List UInt8 := [56, 48, 40, 32, 24, 16, 8, 0].map fun s => UInt8.ofNat (N / 2 ^ s)
def packV (v : V) : List UInt8 := if v.k = 1 then 1 :: be64 (bias v.i) else 2 :: (esc v.t.data.toList ++ [0, 0])
def packR (r : List V) : List UInt8 := r.flatMap packV
def packRes (r : List V) : List UInt8 × Int := if 30 < r.length then ([], 20) else if validR r then (packR r, 0) else ([], 21)
def bcells (l : List UInt8) : List Value := l.map fun b => Value.int .u8 (b.toNat : Int)
theorem bcells_len (l : List UInt8) : (bcells l).length = l.length := by simp [bcells]
theorem bcells_append (l m : List UInt8) : bcells (l ++ m) = bcells l ++ bcells m := by simp [bcells]
theorem bcells_one (l : List UInt8) : OneCells (bcells l) := fun v hv => by
  obtain ⟨x, _, rfl⟩ := List.mem_map.1 hv
  rfl

theorem esc_append : ∀ l m : List UInt8, esc (l ++ m) = esc l ++ esc m
  | [], m => rfl
  | b :: l, m => by
    simp only [List.cons_append, esc, esc_append l m]
    split <;> simp
theorem esc_len : ∀ l : List UInt8, (esc l).length ≤ 2 * l.length
  | [] => by simp [esc]
  | b :: l => by
    have := esc_len l
    simp only [esc]
    split <;> simp <;> omega
theorem packV_len (v : V) (h : validV v = true) : (packV v).length ≤ 131 := by
  unfold packV
  unfold validV at h
  split
  · simp [be64]
  · rename_i h1
    rw [if_neg h1] at h
    split at h
    · split at h
      · have h2 := esc_len v.t.data.toList
        have h3 : v.t.data.toList.length = v.t.size := Array.length_toList
        have h4 : (v.t.size : Int) ≤ 64 := by simpa using h
        simp; omega
      · cases h
    · cases h
theorem packR_len : ∀ r : List V, r.all validV = true → (packR r).length ≤ 131 * r.length
  | [], _ => by simp [packR]
  | v :: r, h => by
    simp only [List.all_cons, Bool.and_eq_true] at h
    have h1 := packV_len v h.1
    have h2 := packR_len r h.2
    simp only [packR, List.flatMap_cons, List.length_append, List.length_cons] at h2 ⊢
    omega
theorem packR_snoc (r : List V) (v : V) : packR (r ++ [v]) = packR r ++ packV v := by simp [packR]

theorem xor63 (Y : Nat) (h : Y < 2 ^ 63) : Y ^^^ 2 ^ 63 = 2 ^ 63 + Y := Nat.eq_of_testBit_eq fun j => by
  rw [Nat.testBit_xor, Nat.testBit_two_pow]
  rcases Nat.lt_trichotomy j 63 with hj | hj | hj
  · rw [Nat.testBit_two_pow_add_gt hj]
    have e : decide (63 = j) = false := by rw [decide_eq_false_iff_not]; omega
    rw [e]; cases Y.testBit j <;> rfl
  · subst hj
    rw [Nat.testBit_two_pow_add_eq]
    simp
  · have h1 : Y.testBit j = false := Nat.testBit_lt_two_pow (Nat.lt_trans h (Nat.pow_lt_pow_right (by omega) hj))
    have h2 : (2 ^ 63 + Y).testBit j = false := Nat.testBit_lt_two_pow (Nat.lt_of_lt_of_le (show 2 ^ 63 + Y < 2 ^ 64 by omega) (Nat.pow_le_pow_right (by omega) (by omega)))
    have e : decide (63 = j) = false := by rw [decide_eq_false_iff_not]; omega
    rw [h1, h2, e]; rfl
def wrapN (i : Int) : Nat := (i % 18446744073709551616).toNat
theorem wrapN_eq (i : Int) : IntKind.u64.wrap i = (wrapN i : Int) := by
  rw [IntKind.wrap_u64]; unfold wrapN; omega
theorem wrapN_lt (i : Int) : wrapN i < 18446744073709551616 := by unfold wrapN; omega
theorem bias_lt {i : Int} (h : -9223372036854775808 ≤ i ∧ i ≤ 9223372036854775807) : bias i < 18446744073709551616 := by unfold bias; omega
theorem bias_xor {i : Int} (h : -9223372036854775808 ≤ i ∧ i ≤ 9223372036854775807) : wrapN i ^^^ 9223372036854775808 = bias i := by
  have e : (9223372036854775808 : Nat) = 2 ^ 63 := by decide
  by_cases h0 : 0 ≤ i
  · have hX : wrapN i < 2 ^ 63 := by unfold wrapN; omega
    rw [e, xor63 _ hX]
    unfold wrapN bias; omega
  · have hY : bias i < 2 ^ 63 := by unfold bias; omega
    have h2 := xor63 _ hY
    have h3 : wrapN i = 2 ^ 63 + bias i := by unfold wrapN bias; omega
    rw [h3, ← h2, e, Nat.xor_assoc, Nat.xor_self, Nat.xor_zero]
theorem bias_add {i : Int} (h : -9223372036854775808 ≤ i ∧ i ≤ 9223372036854775807) : IntKind.u64.wrap ((wrapN i : Int) + 9223372036854775808) = (bias i : Int) := by
  rw [IntKind.wrap_u64]; unfold wrapN bias; omega

section
variable {P : Program} {w : World}
theorem run_xor63 {t : TypeId} {i : Int} (h : -9223372036854775808 ≤ i ∧ i ≤ 9223372036854775807) : (binOp .xor t (.int .u64 (wrapN i : Int)) (.int .u64 9223372036854775808)).run P w = .ok (.int .u64 (bias i : Int)) w := by
  have h1 := bits_xor_u64_nat (wrapN i) 9223372036854775808 (wrapN_lt i) (by omega)
  rw [bias_xor h] at h1
  have h2 : IntKind.u64.wrap ((BitVec.ofInt 64 (wrapN i : Int) ^^^ BitVec.ofInt 64 9223372036854775808).toNat : Int) = (bias i : Int) := h1
  simp only [binOp, ne_eq, not_true_eq_false, if_false, Op.intBits]
  exact congrArg (fun x => Result.ok (Value.int .u64 x) w) h2
theorem run_add63 {t : TypeId} {i : Int} (h : -9223372036854775808 ≤ i ∧ i ≤ 9223372036854775807) : (binOp .add t (.int .u64 (wrapN i : Int)) (.int .u64 9223372036854775808)).run P w = .ok (.int .u64 (bias i : Int)) w := by
  have h2 := bias_add h
  simp only [binOp, ne_eq, not_true_eq_false, if_false, Op.intArith]
  exact congrArg (fun x => Result.ok (Value.int .u64 x) w) h2
end
theorem byte_wrap (N : Nat) : IntKind.u8.wrap (N : Int) = ((UInt8.ofNat N).toNat : Int) := by
  simp [IntKind.wrap, IntKind.bits, IntKind.signed]
end Go.Proofs.Ytahdiiaadjdmcaa

namespace Go.Proofs.Ytahdiiaadjdmcaa
open Go.RowKit

/-- what a Copy hands back is a row -/
theorem RetOwn.row {w0 w' : World} {e : TypeId} {n : Nat} {r : List V} {en : Ending} (h : RetOwn w0 e 3 n (cellsR r) en w') : ∃ A c, en = .returned (.slice A n c) ∧ RowAt w' A n r ∧ Ext w0 w' := by
  obtain ⟨A, c, he, ho, hE⟩ := h
  exact ⟨A, c, he, RowAt.own ho, hE⟩

end Go.Proofs.Ytahdiiaadjdmcaa
