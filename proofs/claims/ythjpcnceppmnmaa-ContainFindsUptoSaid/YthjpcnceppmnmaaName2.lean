/-
  IsName: the program's and the document's.
-/
import Derived.Test.YthjpcnceppmnmaaName
namespace Go.Proofs.Ythjpcnceppmnmaa
open Go.RowKit

theorem head_at (s : ByteArray) (h : 0 < s.size) : headB s.data.toList = letterB s[0] := by
  have := byte_at s 0 h
  cases hl : s.data.toList with
  | nil => rw [hl] at this; cases this
  | cons c r => rw [hl] at this; simp only [List.getElem?_cons_zero, Option.some.injEq] at this; rw [← this]; rfl
theorem nameB_empty (s : ByteArray) (h : s.size = 0) : nameB s = false := by
  have : s.data.toList = [] := List.eq_nil_of_length_eq_zero (by rw [data_len]; exact h)
  simp [nameB, this, headB]
theorem size_empty {s : ByteArray} (h : s.size = 0) : s.toList = [] := by
  rw [ByteArray.toList_eq]
  exact List.eq_nil_of_length_eq_zero (by rw [data_len]; exact h)
theorem size_some {s : ByteArray} (h : 0 < s.size) : (!s.toList.isEmpty) = true := by
  rw [ByteArray.toList_eq]
  cases hl : s.data.toList with
  | nil => have := data_len s; rw [hl] at this; simp at this; omega
  | cons _ _ => rfl

set_option maxRecDepth 100000 in
theorem is_name (s : ByteArray) (w : World) (hs : s.size ≤ 1048576) : Calls Try.prog 94 #[.string s] w fun e w' => e = .returned (.bool (nameB s)) ∧ w = w' := by
  by_cases h0 : 0 < s.size
  · have he := size_some h0
    have hh := hide (head_at s h0)
    have hr := hide (runF_all partB s.data.toList)
    have hle := runF_le partB s.data.toList
    rw [data_len] at hle
    have HR := hide (show (((runF partB s.data.toList : Nat) : Int) == (s.size : Int)) = s.data.toList.all partB by
      rw [Bool.eq_iff_iff, ← hr.out, data_len]; simp; omega)
    cases hl : letterB s[0] with
    | false =>
      have Hl := hide hl; clear hl
      go_enter Try.func94, Try.ntmps94
      go_wp2_with ((refine (lex_letter _ _).mono ?_); rintro e w1 ⟨rfl, rfl⟩; rw [Hl.out])
      go_ret
      exact ⟨ret_bool (by simp [nameB, hh.out, Hl.out]), rfl⟩
    | true =>
      have Hl := hide hl; clear hl
      cases ha : s.data.toList.all partB with
      | false =>
        have Ha := hide ha
        have HA : (((runF partB s.data.toList : Nat) : Int) == (s.size : Int)) = false := HR.out.trans ha
        clear ha
        go_enter Try.func94, Try.ntmps94
        go_wp2_with (first | ((refine (lex_letter _ _).mono ?_); rintro e w1 ⟨rfl, rfl⟩; rw [Hl.out]) | ((refine (name_end s _ hs).mono ?_); rintro e w1 ⟨rfl, rfl⟩))
        go_ret
        exact ⟨ret_bool (by simp [nameB, Ha.out]), rfl⟩
      | true =>
        have Ha := hide ha
        have HA : (((runF partB s.data.toList : Nat) : Int) == (s.size : Int)) = true := HR.out.trans ha
        clear ha
        go_enter Try.func94, Try.ntmps94
        go_wp2_with (first | ((refine (lex_letter _ _).mono ?_); rintro e w1 ⟨rfl, rfl⟩; rw [Hl.out]) | ((refine (name_end s _ hs).mono ?_); rintro e w1 ⟨rfl, rfl⟩))
        go_ret
        exact ⟨ret_bool (by rw [nameB, hh.out, Hl.out, Ha.out]; rw [Bool.eq_iff_iff]; simp; omega), rfl⟩
  · have h00 : s.size = 0 := by omega
    have he := size_empty h00
    have hn := hide (nameB_empty s h00)
    clear h0 h00
    go_enter Try.func94, Try.ntmps94
    go_wp2
    go_ret
    exact ⟨ret_bool (by rw [hn.out]), rfl⟩

/-- the byte stands in the set -/
def amongB (c : UInt8) (l : List UInt8) : Bool := l.any fun d => decide (d = c)
theorem amongB_step (c : UInt8) (l : List UInt8) (i : Nat) (d : UInt8) (h : l[i]? = some d) : amongB c (l.drop i) = (decide (d = c) || amongB c (l.drop (i + 1))) := by
  obtain ⟨h, e⟩ := List.getElem?_eq_some_iff.1 h
  rw [List.drop_eq_getElem_cons h, e]; rfl
theorem u8_eq (a b : UInt8) : ((a.toNat : Int) == (b.toNat : Int)) = decide (a = b) := by
  rw [Bool.eq_iff_iff]
  simp only [beq_iff_eq, decide_eq_true_iff]
  constructor
  · intro h; exact UInt8.toNat_inj.1 (by omega)
  · intro h; rw [h]

set_option maxRecDepth 100000 in
theorem ref_among (c : UInt8) (s : ByteArray) (w : World) (hs : s.size ≤ 1048576) : Calls Try.prog 67 #[.int .u8 (c.toNat : Int), .string s] w fun e w' => e = .returned (.bool (amongB c s.data.toList)) ∧ w = w' := by
  go_enter Try.func67, Try.ntmps67
  go_wp2
  go_loop [5] (fun k => ∃ i : Nat, i ≤ s.size ∧ k = .int .i64 i ∧ Hid (amongB c s.data.toList = amongB c (s.data.toList.drop i))) (fun k => s.size - (intOf k).toNat)
  case atStart => exact ⟨0, by omega, rfl, rfl⟩
  case round =>
    obtain ⟨i, hin, rfl, ho⟩ := hrel
    by_cases h : i < s.size
    · have hd := hide (amongB_step c s.data.toList i s[i] (byte_at s i h))
      by_cases he : s[i] = c
      · have HE := hide he
        have he2 : ((s[i].toNat : Int) == (c.toNat : Int)) = true := by rw [u8_eq]; simpa using he
        clear he
        go_wp2
        go_ret
        exact ⟨ret_bool (by rw [ho.out, hd.out, HE.out]; simp), rfl⟩
      · have HE := hide he
        have he2 : ((s[i].toNat : Int) == (c.toNat : Int)) = false := by rw [u8_eq]; simpa using he
        clear he
        go_wp2
        go_round
        case rel => exact ⟨i + 1, by omega, by go_num, by rw [Hid, ho.out, hd.out]; simp [HE.out]⟩
        case measure => simp [intOf]; omega
    · go_wp2
      go_ret
      exact ⟨ret_bool (by rw [ho.out, List.drop_of_length_le (by rw [data_len]; omega)]; simp [amongB]), rfl⟩

set_option maxRecDepth 100000 in
theorem ref_run (s t : ByteArray) (w : World) (hs : s.size ≤ 1048576) (ht : t.size ≤ 1048576) : Calls Try.prog 68 #[.string s, .int .i64 0, .string t] w fun e w' => e = .returned (.int .i64 (runF (fun c => amongB c t.data.toList) s.data.toList : Nat)) ∧ w = w' := by
  generalize hp : (fun c => amongB c t.data.toList) = p
  have HP : ∀ c, amongB c t.data.toList = p c := fun c => by rw [← hp]
  have HP := hide HP
  clear hp
  go_enter Try.func68, Try.ntmps68
  go_wp2
  go_loop [7] (fun k => ∃ i : Nat, i ≤ s.size ∧ k = .int .i64 i ∧ Hid (runF p s.data.toList = i + runF p (s.data.toList.drop i))) (fun k => s.size - (intOf k).toNat)
  case atStart => exact ⟨0, by omega, rfl, by simp [Hid]⟩
  case round =>
    obtain ⟨i, hin, rfl, ho⟩ := hrel
    by_cases h : i < s.size
    · have hd := hide (runF_step p s.data.toList i s[i] (byte_at s i h))
      cases hl : p s[i] with
      | true =>
        have Hl := hide hl; clear hl
        go_wp2_with ((refine (ref_among _ t _ ht).mono ?_); rintro e w1 ⟨rfl, rfl⟩; rw [HP.out, Hl.out])
        go_round
        case rel => exact ⟨i + 1, by omega, by go_num, by rw [Hid, ho.out, hd.out, if_pos Hl.out]; omega⟩
        case measure => simp [intOf]; omega
      | false =>
        have Hl := hide hl; clear hl
        go_wp2_with ((refine (ref_among _ t _ ht).mono ?_); rintro e w1 ⟨rfl, rfl⟩; rw [HP.out, Hl.out])
        go_ret
        exact ⟨ret_int (by rw [ho.out, hd.out, Hl.out]; simp), rfl⟩
    · go_wp2
      go_ret
      exact ⟨ret_int (by rw [ho.out, List.drop_of_length_le (by rw [data_len]; omega)]; simp [runF]), rfl⟩

theorem all_bytes (f : UInt8 → Bool) (h : (List.range 256).all (fun n => f (UInt8.ofNat n)) = true) (c : UInt8) : f c = true := by
  have := List.all_eq_true.1 h c.toNat (List.mem_range.2 c.toNat_lt)
  simpa using this
theorem digits_set (c : UInt8) : amongB c [48, 49, 50, 51, 52, 53, 54, 55, 56, 57] = digitB c := by
  have := all_bytes (fun c => amongB c [48, 49, 50, 51, 52, 53, 54, 55, 56, 57] == digitB c) (by decide +kernel) c
  simpa using this
theorem name_set (c : UInt8) : amongB c [97, 98, 99, 100, 101, 102, 103, 104, 105, 106, 107, 108, 109, 110, 111, 112, 113, 114, 115, 116, 117, 118, 119, 120, 121, 122, 65, 66, 67, 68, 69, 70, 71, 72, 73, 74, 75, 76, 77, 78, 79, 80, 81, 82, 83, 84, 85, 86, 87, 88, 89, 90, 95, 48, 49, 50, 51, 52, 53, 54, 55, 56, 57] = partB c := by
  have := all_bytes (fun c => amongB c [97, 98, 99, 100, 101, 102, 103, 104, 105, 106, 107, 108, 109, 110, 111, 112, 113, 114, 115, 116, 117, 118, 119, 120, 121, 122, 65, 66, 67, 68, 69, 70, 71, 72, 73, 74, 75, 76, 77, 78, 79, 80, 81, 82, 83, 84, 85, 86, 87, 88, 89, 90, 95, 48, 49, 50, 51, 52, 53, 54, 55, 56, 57] == partB c) (by decide +kernel) c
  simpa using this
theorem part_head (c : UInt8) : (!digitB c && partB c) = letterB c := by
  have := all_bytes (fun c => (!digitB c && partB c) == letterB c) (by decide +kernel) c
  simpa using this
theorem nameB_ref (s : ByteArray) (h0 : 0 < s.size) : nameB s = (decide (s.size ≤ 16) && !digitB s[0] && s.data.toList.all partB) := by
  have h1 := byte_at s 0 h0
  have hh := head_at s h0
  have hp : s.data.toList.all partB = true → partB s[0] = true := fun h => List.all_eq_true.1 h _ (List.mem_of_getElem? h1)
  have h2 := part_head s[0]
  unfold nameB
  rw [hh, ← h2]
  cases ha : s.data.toList.all partB with
  | false => simp
  | true =>
    rw [hp ha]
    cases digitB s[0] <;> simp

set_option maxRecDepth 100000 in
theorem ref_is_name (s : ByteArray) (w : World) (hs : s.size ≤ 1048576) : Calls Try.prog 42 #[.string s] w fun e w' => e = .returned (.bool (nameB s)) ∧ w = w' := by
  by_cases h0 : 0 < s.size
  · have hb := hide (nameB_ref s h0)
    by_cases h16 : s.size ≤ 16
    · have hr := hide (runF_all partB s.data.toList)
      have hle := runF_le partB s.data.toList
      rw [data_len] at hle
      have HR := hide (show (((runF partB s.data.toList : Nat) : Int) == (s.size : Int)) = s.data.toList.all partB by
        rw [Bool.eq_iff_iff, ← hr.out, data_len]; simp; omega)
      have C1 := hide (fun c w => ref_among c ⟨#[48, 49, 50, 51, 52, 53, 54, 55, 56, 57]⟩ w (by decide))
      have C2 := hide (ref_run s ⟨#[97, 98, 99, 100, 101, 102, 103, 104, 105, 106, 107, 108, 109, 110, 111, 112, 113, 114, 115, 116, 117, 118, 119, 120, 121, 122, 65, 66, 67, 68, 69, 70, 71, 72, 73, 74, 75, 76, 77, 78, 79, 80, 81, 82, 83, 84, 85, 86, 87, 88, 89, 90, 95, 48, 49, 50, 51, 52, 53, 54, 55, 56, 57]⟩ w hs (by decide))
      have EF := hide (funext name_set)
      cases hl : digitB s[0] with
      | true =>
        have Hl := hide hl; clear hl
        go_enter Try.func42, Try.ntmps42
        go_wp2_with ((refine (C1.out _ _).mono ?_); rintro e w1 ⟨rfl, rfl⟩; rw [digits_set, Hl.out])
        go_ret
        exact ⟨ret_bool (by rw [hb.out, Hl.out]; simp), rfl⟩
      | false =>
        have Hl := hide hl; clear hl
        cases ha : s.data.toList.all partB with
        | false =>
          have Ha := hide ha
          have HA : (((runF partB s.data.toList : Nat) : Int) == (s.size : Int)) = false := HR.out.trans ha
          clear ha
          go_enter Try.func42, Try.ntmps42
          go_wp2_with (first | ((refine (C1.out _ _).mono ?_); rintro e w1 ⟨rfl, rfl⟩; rw [digits_set, Hl.out]) | ((refine C2.out.mono ?_); rintro e w1 ⟨rfl, rfl⟩; rw [EF.out]))
          go_ret
          exact ⟨ret_bool (by rw [hb.out, Ha.out]; simp), rfl⟩
        | true =>
          have Ha := hide ha
          have HA : (((runF partB s.data.toList : Nat) : Int) == (s.size : Int)) = true := HR.out.trans ha
          clear ha
          go_enter Try.func42, Try.ntmps42
          go_wp2_with (first | ((refine (C1.out _ _).mono ?_); rintro e w1 ⟨rfl, rfl⟩; rw [digits_set, Hl.out]) | ((refine C2.out.mono ?_); rintro e w1 ⟨rfl, rfl⟩; rw [EF.out]))
          go_ret
          exact ⟨ret_bool (by rw [hb.out, Ha.out, Hl.out]; simp [h16]), rfl⟩
    · go_enter Try.func42, Try.ntmps42
      go_wp2
      go_ret
      exact ⟨ret_bool (by rw [hb.out]; simp [h16]), rfl⟩
  · have h00 : s.size = 0 := by omega
    have hn := hide (nameB_empty s h00)
    clear h00
    go_enter Try.func42, Try.ntmps42
    go_wp2
    go_ret
    exact ⟨ret_bool (by rw [hn.out]), rfl⟩
end Go.Proofs.Ythjpcnceppmnmaa
