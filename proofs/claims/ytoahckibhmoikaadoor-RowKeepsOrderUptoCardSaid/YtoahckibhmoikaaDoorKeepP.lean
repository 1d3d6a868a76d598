/-
  Packs keep the order, plainly.
-/
import Derived.Test.YtoahckibhmoikaaDoorUnpP
import Derived.Test.YtoahckibhmoikaaDoorOrd
import Derived.Test.YtoahckibhmoikaaDoorPack
namespace Go.Proofs.YtoahckibhmoikaaDoor
open Lib (compareBytes)

theorem cb_self : ∀ l : List UInt8, compareBytes l l = 0
  | [] => rfl
  | a :: l => by
    have h : ¬ a < a := by rw [UInt8.lt_iff_toNat_lt]; omega
    simp only [compareBytes, if_neg h, cb_self l]
theorem cb_same (a : UInt8) (l m : List UInt8) : compareBytes (a :: l) (a :: m) = compareBytes l m := by
  have h : ¬ a < a := by rw [UInt8.lt_iff_toNat_lt]; omega
  simp only [compareBytes, if_neg h]
theorem cb_pre : ∀ (p l m : List UInt8), compareBytes (p ++ l) (p ++ m) = compareBytes l m
  | [], _, _ => rfl
  | a :: p, l, m => by rw [List.cons_append, List.cons_append, cb_same, cb_pre p]
theorem num8_cons (a : UInt8) (l : List UInt8) : num8 (a :: l) = a.toNat * 256 ^ l.length + num8 l := by
  have h : ∀ (l : List UInt8) (n : Nat), l.foldl (fun n c => n * 256 + c.toNat) n = n * 256 ^ l.length + l.foldl (fun n c => n * 256 + c.toNat) 0 := by
    intro l
    induction l with
    | nil => intro n; simp
    | cons c l ih =>
      intro n
      simp only [List.foldl_cons, List.length_cons]
      rw [ih (n * 256 + c.toNat), ih (0 * 256 + c.toNat), Nat.pow_succ, Nat.add_mul, Nat.zero_mul, Nat.zero_add, Nat.mul_assoc, Nat.mul_comm 256, Nat.add_assoc]
  unfold num8
  rw [List.foldl_cons, h, Nat.zero_mul, Nat.zero_add]
theorem num8_top : ∀ l : List UInt8, num8 l < 256 ^ l.length
  | [] => by simp [num8]
  | a :: l => by
    have h1 := num8_top l
    have h2 := a.toNat_lt
    rw [num8_cons, List.length_cons, Nat.pow_succ]
    have h3 : a.toNat * 256 ^ l.length ≤ 255 * 256 ^ l.length := Nat.mul_le_mul_right _ (by omega)
    omega
theorem cb_num : ∀ (l m x y : List UInt8), l.length = m.length → num8 l < num8 m → compareBytes (l ++ x) (m ++ y) = -1 ∧ compareBytes (m ++ y) (l ++ x) = 1
  | [], [], x, y, _, h => by simp [num8] at h
  | [], _ :: _, _, _, hl, _ => by simp at hl
  | _ :: _, [], _, _, hl, _ => by simp at hl
  | a :: l, b :: m, x, y, hl, h => by
    have hl' : l.length = m.length := by simpa using hl
    rw [num8_cons, num8_cons, hl'] at h
    have h1 := num8_top l
    have h2 := num8_top m
    rw [hl'] at h1
    rcases Nat.lt_trichotomy a.toNat b.toNat with hab | hab | hab
    · have h3 : a < b := UInt8.lt_iff_toNat_lt.2 hab
      have h4 : ¬ b < a := by rw [UInt8.lt_iff_toNat_lt]; omega
      simp [compareBytes, h3, h4]
    · have e : a = b := UInt8.toNat_inj.1 hab
      subst e
      rw [List.cons_append, List.cons_append, cb_same, cb_same]
      exact cb_num l m x y hl' (by omega)
    · exfalso
      have h3 : (b.toNat + 1) * 256 ^ m.length ≤ a.toNat * 256 ^ m.length := Nat.mul_le_mul_right _ (by omega)
      rw [Nat.add_mul] at h3
      omega
theorem cb_esc : ∀ (s t x y : List UInt8), s ≠ t → compareBytes (esc s ++ 0 :: 0 :: x) (esc t ++ 0 :: 0 :: y) = compareBytes s t
  | [], [], _, _, h => absurd rfl h
  | [], b :: t, x, y, _ => by
    by_cases hb : b = 0
    · subst hb
      simp only [esc, if_true, List.nil_append, List.cons_append]
      rw [cb_same]; rfl
    · have h0 : (0 : UInt8) < b := by
        rw [UInt8.lt_iff_toNat_lt]
        have : b.toNat ≠ 0 := fun e => hb (UInt8.toNat_inj.1 e)
        show 0 < b.toNat
        omega
      simp [esc, hb, compareBytes, h0]
  | a :: s, [], x, y, _ => by
    by_cases hb : a = 0
    · subst hb
      simp only [esc, if_true, List.nil_append, List.cons_append]
      rw [cb_same]; rfl
    · have h0 : (0 : UInt8) < a := by
        rw [UInt8.lt_iff_toNat_lt]
        have : a.toNat ≠ 0 := fun e => hb (UInt8.toNat_inj.1 e)
        show 0 < a.toNat
        omega
      have h1 : ¬ a < (0 : UInt8) := by rw [UInt8.lt_iff_toNat_lt]; show ¬ a.toNat < 0; omega
      simp [esc, hb, compareBytes, h0, h1]
  | a :: s, b :: t, x, y, h => by
    by_cases hab : a = b
    · subst hab
      have h2 : s ≠ t := fun e => h (by rw [e])
      rw [cb_same]
      by_cases ha : a = 0
      · simp only [esc, ha, if_true, List.cons_append]
        rw [cb_same, cb_same, cb_esc s t x y h2]
      · simp only [esc, ha, if_false, List.cons_append]
        rw [cb_same, cb_esc s t x y h2]
    · have hd : ∀ (u v : List UInt8), compareBytes (a :: u) (b :: v) = compareBytes (a :: s) (b :: t) := fun u v => by
        have : a < b ∨ b < a := by
          rw [UInt8.lt_iff_toNat_lt, UInt8.lt_iff_toNat_lt]
          have : a.toNat ≠ b.toNat := fun e => hab (UInt8.toNat_inj.1 e)
          omega
        rcases this with h1 | h1
        · simp only [compareBytes, if_pos h1]
        · have h2 : ¬ a < b := by rw [UInt8.lt_iff_toNat_lt] at h1 ⊢; omega
          simp only [compareBytes, if_neg h2, if_pos h1]
      by_cases ha : a = 0 <;> by_cases hb : b = 0 <;> simp only [esc, ha, hb, if_true, if_false, List.cons_append] <;> (try rw [ha] at hd hab) <;> (try rw [hb] at hd hab) <;> first | exact absurd rfl hab | exact hd _ _
theorem cmpI_self (x : Int) : cmpI x x = 0 := by unfold cmpI; rw [if_neg (by omega), if_neg (by omega)]
theorem cmpV_self (v : V) : cmpV v v = 0 := by simp [cmpV, orI, cmpI_self, cmpB, cb_self]
theorem valid_parts (v : V) (h : validV v = true) : (v.k = 1 ∧ v.t = ByteArray.empty) ∨ (v.k = 2 ∧ v.i = 0) := by
  unfold validV at h
  split at h
  · rename_i h1; exact .inl ⟨h1, (toList_nil_iff_emptyBytes v.t).1 (by simpa using h)⟩
  · split at h
    · rename_i h2
      split at h
      · rename_i h3; exact .inr ⟨h2, h3⟩
      · cases h
    · cases h
theorem bytes_ne {s t : ByteArray} (h : s ≠ t) : s.data.toList ≠ t.data.toList := fun e => h (by
  obtain ⟨⟨s⟩⟩ := s
  obtain ⟨⟨t⟩⟩ := t
  cases e; rfl)
theorem cb_val (u v : V) (hu : validV u = true) (hv : validV v = true) (wu : wfV u) (wv : wfV v) (hne : u ≠ v) (x y : List UInt8) :
    compareBytes (packV u ++ x) (packV v ++ y) = cmpV u v := by
  obtain ⟨uk, ui, ut⟩ := u
  obtain ⟨vk, vi, vt⟩ := v
  have pu := valid_parts _ hu
  have pv := valid_parts _ hv
  simp only [wfV] at wu wv
  dsimp only at pu pv
  rcases pu with ⟨rfl, rfl⟩ | ⟨rfl, rfl⟩ <;> rcases pv with ⟨rfl, rfl⟩ | ⟨rfl, rfl⟩
  · have hij : ui ≠ vi := fun e => hne (by rw [e])
    have e : cmpV ⟨1, ui, ByteArray.empty⟩ ⟨1, vi, ByteArray.empty⟩ = cmpI ui vi := by
      simp only [cmpV, orI, cmpI_self, if_true, cmpB, cb_self]
      split
      · rename_i h0; rw [h0]
      · rfl
    have hb : ∀ i j : Int, (-9223372036854775808 ≤ i ∧ i ≤ 9223372036854775807) → (-9223372036854775808 ≤ j ∧ j ≤ 9223372036854775807) → i < j → num8 (be64 (bias i)) < num8 (be64 (bias j)) := fun i j hi hj h => by
      rw [num8_be _ (bias_lt hi), num8_be _ (bias_lt hj)]; unfold bias; omega
    rw [e]
    simp only [packV, if_true, List.cons_append]
    rw [cb_same]
    rcases Int.lt_or_gt_of_ne hij with h | h
    · rw [(cb_num _ _ x y (by rfl) (hb ui vi wu wv h)).1, cmpI, if_pos h]
    · rw [(cb_num _ _ y x (by rfl) (hb vi ui wv wu h)).2, cmpI, if_neg (by omega), if_pos h]
  · rfl
  · rfl
  · have hst : ut ≠ vt := fun e => hne (by rw [e])
    have e : cmpV ⟨2, 0, ut⟩ ⟨2, 0, vt⟩ = compareBytes ut.data.toList vt.data.toList := by
      simp only [cmpV, orI, cmpI_self, if_true, cmpB]
      by_cases h0 : compareBytes ut.data.toList vt.data.toList = 0
      · exact (if_pos h0).trans h0.symm
      · exact if_neg h0
    have e2 : ∀ (t : ByteArray) (z : List UInt8), packV ⟨2, 0, t⟩ ++ z = 2 :: (esc t.data.toList ++ 0 :: 0 :: z) := fun t z => by simp [packV]
    rw [e, e2, e2, cb_same, cb_esc _ _ x y (bytes_ne hst)]
theorem cb_pack : ∀ a b : List V, a.all validV = true → b.all validV = true → (∀ v ∈ a, wfV v) → (∀ v ∈ b, wfV v) → compareBytes (packR a) (packR b) = cmpR a b
  | [], [], _, _, _, _ => rfl
  | [], v :: b, _, _, _, _ => by
    have e : packR (v :: b) = packV v ++ packR b := by simp [packR]
    rw [e]
    cases hp : packV v ++ packR b with
    | nil => have := packV_pos v; have h0 := congrArg List.length hp; rw [List.length_append, List.length_nil] at h0; omega
    | cons c l => rfl
  | u :: a, [], _, _, _, _ => by
    have e : packR (u :: a) = packV u ++ packR a := by simp [packR]
    rw [e]
    cases hp : packV u ++ packR a with
    | nil => have := packV_pos u; have h0 := congrArg List.length hp; rw [List.length_append, List.length_nil] at h0; omega
    | cons c l => rfl
  | u :: a, v :: b, ha, hb, wa, wb => by
    simp only [List.all_cons, Bool.and_eq_true] at ha hb
    have e1 : packR (u :: a) = packV u ++ packR a := by simp [packR]
    have e2 : packR (v :: b) = packV v ++ packR b := by simp [packR]
    rw [e1, e2]
    by_cases huv : u = v
    · subst huv
      rw [cb_pre, cb_pack a b ha.2 hb.2 (fun z hz => wa z (by simp [hz])) (fun z hz => wb z (by simp [hz]))]
      simp only [cmpR, cmpV_self, if_true]
    · rw [cb_val u v ha.1 hb.1 (wa u (by simp)) (wb v (by simp)) huv]
      have h0 : cmpV u v ≠ 0 := fun h => huv ((isCmp_val.eq u v).1 h)
      simp only [cmpR, if_neg h0]
end Go.Proofs.YtoahckibhmoikaaDoor
