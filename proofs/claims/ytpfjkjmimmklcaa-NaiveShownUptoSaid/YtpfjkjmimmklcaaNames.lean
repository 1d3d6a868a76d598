/-
  Names: the program's and the document's.
  IsName: the program's and the document's.
  What a value of an element reads as.
  slices.IndexFunc, slices.ContainsFunc: the first element that a function holds of, whatever the function.
-/
import Derived.Test.YtpfjkjmimmklcaaPlainA
namespace Go.Proofs.Ytpfjkjmimmklcaa
open Go.RowKit

theorem byte_at (s : ByteArray) (i : Nat) (h : i < s.size) : s.data.toList[i]? = some s[i] := by
  rw [List.getElem?_eq_getElem (by simpa using h)]; rfl
theorem data_len (s : ByteArray) : s.data.toList.length = s.size := Array.length_toList

theorem lex_letter (c : UInt8) (w : World) : Calls Try.prog 119 #[.int .u8 (c.toNat : Int)] w fun e w' => e = .returned (.bool (letterB c)) ∧ w = w' := by
  generalize hn : c.toNat = n
  have H : letterB c = ((decide (97 ≤ n) && decide (n ≤ 122)) || (decide (65 ≤ n) && decide (n ≤ 90)) || decide (n = 95)) := by simp [letterB, hn]
  have HH := hide H; clear H hn
  by_cases h1 : (97 : Int) ≤ (n : Int)
  · by_cases h2 : (n : Int) ≤ 122
    · go_enter Try.func119, Try.ntmps119
      go_wp2
      go_ret
      exact ⟨ret_bool (by rw [HH.out]; simp; omega), rfl⟩
    · have h3 : ¬ ((n : Int) ≤ 90) := by omega
      have h4 : (65 : Int) ≤ n := by omega
      have h5 : ((n : Int) == 95) = false := by simp; omega
      go_enter Try.func119, Try.ntmps119
      go_wp2
      go_ret
      exact ⟨ret_bool (by rw [HH.out]; simp; omega), rfl⟩
  · by_cases h2 : (65 : Int) ≤ (n : Int)
    · by_cases h3 : (n : Int) ≤ 90
      · go_enter Try.func119, Try.ntmps119
        go_wp2
        go_ret
        exact ⟨ret_bool (by rw [HH.out]; simp; omega), rfl⟩
      · go_enter Try.func119, Try.ntmps119
        go_wp2
        go_ret
        exact ⟨ret_bool (by rw [HH.out]; rw [Bool.eq_iff_iff]; simp; omega), rfl⟩
    · go_enter Try.func119, Try.ntmps119
      go_wp2
      go_ret
      exact ⟨ret_bool (by rw [HH.out]; rw [Bool.eq_iff_iff]; simp; omega), rfl⟩
theorem lex_digit (c : UInt8) (w : World) : Calls Try.prog 126 #[.int .u8 (c.toNat : Int)] w fun e w' => e = .returned (.bool (digitB c)) ∧ w = w' := by
  generalize hn : c.toNat = n
  have H : digitB c = (decide (48 ≤ n) && decide (n ≤ 57)) := by simp [digitB, hn]
  have HH := hide H; clear H hn
  by_cases h1 : (48 : Int) ≤ (n : Int)
  · go_enter Try.func126, Try.ntmps126
    go_wp2
    go_ret
    exact ⟨ret_bool (by rw [HH.out]; rw [Bool.eq_iff_iff]; simp; omega), rfl⟩
  · go_enter Try.func126, Try.ntmps126
    go_wp2
    go_ret
    exact ⟨ret_bool (by rw [HH.out]; rw [Bool.eq_iff_iff]; simp; omega), rfl⟩

/-- how many at the head have p -/
def runF (p : UInt8 → Bool) (l : List UInt8) : Nat := (l.takeWhile p).length
theorem runF_step (p : UInt8 → Bool) (l : List UInt8) (i : Nat) (c : UInt8) (h : l[i]? = some c) : runF p (l.drop i) = if p c then runF p (l.drop (i + 1)) + 1 else 0 := by
  obtain ⟨h, e⟩ := List.getElem?_eq_some_iff.1 h
  rw [List.drop_eq_getElem_cons h, e]
  unfold runF
  rw [List.takeWhile_cons]
  split <;> simp
theorem runF_all (p : UInt8 → Bool) : ∀ l : List UInt8, runF p l = l.length ↔ l.all p = true
  | [] => by simp [runF]
  | c :: l => by
    have ih := runF_all p l
    unfold runF at ih ⊢
    rw [List.takeWhile_cons]
    by_cases h : p c = true
    · simp only [h, if_true, List.length_cons, List.all_cons, Bool.true_and]; rw [← ih]; omega
    · simp [h]
theorem runF_le (p : UInt8 → Bool) : ∀ l : List UInt8, runF p l ≤ l.length
  | [] => by simp [runF]
  | c :: l => by
    have ih := runF_le p l
    unfold runF at ih ⊢
    rw [List.takeWhile_cons]
    split <;> simp <;> omega

set_option maxRecDepth 100000 in
theorem name_end (s : ByteArray) (w : World) (hs : s.size ≤ 1048576) : Calls Try.prog 120 #[.string s, .int .i64 0] w fun e w' => e = .returned (.int .i64 (runF partB s.data.toList : Nat)) ∧ w = w' := by
  go_enter Try.func120, Try.ntmps120
  go_wp2
  go_loop [1] (fun k => ∃ i : Nat, i ≤ s.size ∧ k = .int .i64 i ∧ Hid (runF partB s.data.toList = i + runF partB (s.data.toList.drop i))) (fun k => s.size - (intOf k).toNat)
  case atStart => exact ⟨0, by omega, rfl, by simp [Hid]⟩
  case round =>
    obtain ⟨i, hin, rfl, ho⟩ := hrel
    by_cases h : i < s.size
    · have hd := hide (runF_step partB s.data.toList i s[i] (byte_at s i h))
      cases hl : letterB s[i] with
      | true =>
        have Hp := hide (show partB s[i] = true by simp [partB, hl])
        have Hl := hide hl; clear hl
        go_wp2_with ((with_reducible refine (lex_letter _ _).mono ?_); rintro e w1 ⟨rfl, rfl⟩; rw [Hl.out])
        go_round
        case rel => exact ⟨i + 1, by omega, by go_num, by rw [Hid, ho.out, hd.out, if_pos Hp.out]; omega⟩
        case measure => simp [intOf]; omega
      | false =>
        have Hl := hide hl
        cases hdg : digitB s[i] with
        | true =>
          have Hp := hide (show partB s[i] = true by simp [partB, hdg])
          have Hd := hide hdg; clear hl hdg
          go_wp2_with (first | ((with_reducible refine (lex_letter _ _).mono ?_); rintro e w1 ⟨rfl, rfl⟩; rw [Hl.out]) | ((with_reducible refine (lex_digit _ _).mono ?_); rintro e w1 ⟨rfl, rfl⟩; rw [Hd.out]))
          go_round
          case rel => exact ⟨i + 1, by omega, by go_num, by rw [Hid, ho.out, hd.out, if_pos Hp.out]; omega⟩
          case measure => simp [intOf]; omega
        | false =>
          have Hp := hide (show partB s[i] = false by simp [partB, hl, hdg])
          have Hd := hide hdg; clear hl hdg
          go_wp2_with (first | ((with_reducible refine (lex_letter _ _).mono ?_); rintro e w1 ⟨rfl, rfl⟩; rw [Hl.out]) | ((with_reducible refine (lex_digit _ _).mono ?_); rintro e w1 ⟨rfl, rfl⟩; rw [Hd.out]))
          go_ret
          exact ⟨ret_int (by rw [ho.out, hd.out, Hp.out]; simp), rfl⟩
    · go_wp2
      go_ret
      exact ⟨ret_int (by rw [ho.out, List.drop_of_length_le (by rw [data_len]; omega)]; simp [runF]), rfl⟩
end Go.Proofs.Ytpfjkjmimmklcaa

namespace Go.Proofs.Ytpfjkjmimmklcaa
open Go.RowKit

theorem head_at (s : ByteArray) (h : 0 < s.size) : headB s.data.toList = letterB s[0] := by
  have := byte_at s 0 h
  cases hl : s.data.toList with
  | nil => rw [hl] at this; cases this
  | cons c r => rw [hl] at this; simp only [List.getElem?_cons_zero, Option.some.injEq] at this; rw [← this]; rfl
theorem nameB_empty (s : ByteArray) (h : s.size = 0) : nameB s = false := by
  have : s.data.toList = [] := List.eq_nil_of_length_eq_zero (by rw [data_len]; exact h)
  simp [nameB, this, headB]
theorem size_empty {s : ByteArray} (h : s.size = 0) : s.toList = [] := by
  rw [ByteArray.toList_eq]
  exact List.eq_nil_of_length_eq_zero (by rw [data_len]; exact h)
theorem size_some {s : ByteArray} (h : 0 < s.size) : (!s.toList.isEmpty) = true := by
  rw [ByteArray.toList_eq]
  cases hl : s.data.toList with
  | nil => have := data_len s; rw [hl] at this; simp at this; omega
  | cons _ _ => rfl

set_option maxRecDepth 100000 in
theorem is_name (s : ByteArray) (w : World) (hs : s.size ≤ 1048576) : Calls Try.prog 100 #[.string s] w fun e w' => e = .returned (.bool (nameB s)) ∧ w = w' := by
  by_cases h0 : 0 < s.size
  · have he := size_some h0
    have hh := hide (head_at s h0)
    have hr := hide (runF_all partB s.data.toList)
    have hle := runF_le partB s.data.toList
    rw [data_len] at hle
    have HR := hide (show (((runF partB s.data.toList : Nat) : Int) == (s.size : Int)) = s.data.toList.all partB by
      rw [Bool.eq_iff_iff, ← hr.out, data_len]; simp; omega)
    cases hl : letterB s[0] with
    | false =>
      have Hl := hide hl; clear hl
      go_enter Try.func100, Try.ntmps100
      go_wp2_with ((with_reducible refine (lex_letter _ _).mono ?_); rintro e w1 ⟨rfl, rfl⟩; rw [Hl.out])
      go_ret
      exact ⟨ret_bool (by simp [nameB, hh.out, Hl.out]), rfl⟩
    | true =>
      have Hl := hide hl; clear hl
      cases ha : s.data.toList.all partB with
      | false =>
        have Ha := hide ha
        have HA : (((runF partB s.data.toList : Nat) : Int) == (s.size : Int)) = false := HR.out.trans ha
        clear ha
        go_enter Try.func100, Try.ntmps100
        go_wp2_with (first | ((with_reducible refine (lex_letter _ _).mono ?_); rintro e w1 ⟨rfl, rfl⟩; rw [Hl.out]) | ((with_reducible refine (name_end s _ hs).mono ?_); rintro e w1 ⟨rfl, rfl⟩))
        go_ret
        exact ⟨ret_bool (by simp [nameB, Ha.out]), rfl⟩
      | true =>
        have Ha := hide ha
        have HA : (((runF partB s.data.toList : Nat) : Int) == (s.size : Int)) = true := HR.out.trans ha
        clear ha
        go_enter Try.func100, Try.ntmps100
        go_wp2_with (first | ((with_reducible refine (lex_letter _ _).mono ?_); rintro e w1 ⟨rfl, rfl⟩; rw [Hl.out]) | ((with_reducible refine (name_end s _ hs).mono ?_); rintro e w1 ⟨rfl, rfl⟩))
        go_ret
        exact ⟨ret_bool (by rw [nameB, hh.out, Hl.out, Ha.out]; rw [Bool.eq_iff_iff]; simp; omega), rfl⟩
  · have h00 : s.size = 0 := by omega
    have he := size_empty h00
    have hn := hide (nameB_empty s h00)
    clear h0 h00
    go_enter Try.func100, Try.ntmps100
    go_wp2
    go_ret
    exact ⟨ret_bool (by rw [hn.out]), rfl⟩

/-- the byte stands in the set -/
def amongB (c : UInt8) (l : List UInt8) : Bool := l.any fun d => decide (d = c)
theorem amongB_step (c : UInt8) (l : List UInt8) (i : Nat) (d : UInt8) (h : l[i]? = some d) : amongB c (l.drop i) = (decide (d = c) || amongB c (l.drop (i + 1))) := by
  obtain ⟨h, e⟩ := List.getElem?_eq_some_iff.1 h
  rw [List.drop_eq_getElem_cons h, e]; rfl
theorem u8_eq (a b : UInt8) : ((a.toNat : Int) == (b.toNat : Int)) = decide (a = b) := by
  rw [Bool.eq_iff_iff]
  simp only [beq_iff_eq, decide_eq_true_iff]
  constructor
  · intro h; exact UInt8.toNat_inj.1 (by omega)
  · intro h; rw [h]

set_option maxRecDepth 100000 in
theorem ref_among (c : UInt8) (s : ByteArray) (w : World) (hs : s.size ≤ 1048576) : Calls Try.prog 83 #[.int .u8 (c.toNat : Int), .string s] w fun e w' => e = .returned (.bool (amongB c s.data.toList)) ∧ w = w' := by
  go_enter Try.func83, Try.ntmps83
  go_wp2
  go_loop [5] (fun k => ∃ i : Nat, i ≤ s.size ∧ k = .int .i64 i ∧ Hid (amongB c s.data.toList = amongB c (s.data.toList.drop i))) (fun k => s.size - (intOf k).toNat)
  case atStart => exact ⟨0, by omega, rfl, rfl⟩
  case round =>
    obtain ⟨i, hin, rfl, ho⟩ := hrel
    by_cases h : i < s.size
    · have hd := hide (amongB_step c s.data.toList i s[i] (byte_at s i h))
      by_cases he : s[i] = c
      · have HE := hide he
        have he2 : ((s[i].toNat : Int) == (c.toNat : Int)) = true := by rw [u8_eq]; simpa using he
        clear he
        go_wp2
        go_ret
        exact ⟨ret_bool (by rw [ho.out, hd.out, HE.out]; simp), rfl⟩
      · have HE := hide he
        have he2 : ((s[i].toNat : Int) == (c.toNat : Int)) = false := by rw [u8_eq]; simpa using he
        clear he
        go_wp2
        go_round
        case rel => exact ⟨i + 1, by omega, by go_num, by rw [Hid, ho.out, hd.out]; simp [HE.out]⟩
        case measure => simp [intOf]; omega
    · go_wp2
      go_ret
      exact ⟨ret_bool (by rw [ho.out, List.drop_of_length_le (by rw [data_len]; omega)]; simp [amongB]), rfl⟩

set_option maxRecDepth 100000 in
theorem ref_run (s t : ByteArray) (w : World) (hs : s.size ≤ 1048576) (ht : t.size ≤ 1048576) : Calls Try.prog 84 #[.string s, .int .i64 0, .string t] w fun e w' => e = .returned (.int .i64 (runF (fun c => amongB c t.data.toList) s.data.toList : Nat)) ∧ w = w' := by
  generalize hp : (fun c => amongB c t.data.toList) = p
  have HP : ∀ c, amongB c t.data.toList = p c := fun c => by rw [← hp]
  have HP := hide HP
  clear hp
  go_enter Try.func84, Try.ntmps84
  go_wp2
  go_loop [7] (fun k => ∃ i : Nat, i ≤ s.size ∧ k = .int .i64 i ∧ Hid (runF p s.data.toList = i + runF p (s.data.toList.drop i))) (fun k => s.size - (intOf k).toNat)
  case atStart => exact ⟨0, by omega, rfl, by simp [Hid]⟩
  case round =>
    obtain ⟨i, hin, rfl, ho⟩ := hrel
    by_cases h : i < s.size
    · have hd := hide (runF_step p s.data.toList i s[i] (byte_at s i h))
      cases hl : p s[i] with
      | true =>
        have Hl := hide hl; clear hl
        go_wp2_with ((with_reducible refine (ref_among _ t _ ht).mono ?_); rintro e w1 ⟨rfl, rfl⟩; rw [HP.out, Hl.out])
        go_round
        case rel => exact ⟨i + 1, by omega, by go_num, by rw [Hid, ho.out, hd.out, if_pos Hl.out]; omega⟩
        case measure => simp [intOf]; omega
      | false =>
        have Hl := hide hl; clear hl
        go_wp2_with ((with_reducible refine (ref_among _ t _ ht).mono ?_); rintro e w1 ⟨rfl, rfl⟩; rw [HP.out, Hl.out])
        go_ret
        exact ⟨ret_int (by rw [ho.out, hd.out, Hl.out]; simp), rfl⟩
    · go_wp2
      go_ret
      exact ⟨ret_int (by rw [ho.out, List.drop_of_length_le (by rw [data_len]; omega)]; simp [runF]), rfl⟩

theorem all_bytes (f : UInt8 → Bool) (h : (List.range 256).all (fun n => f (UInt8.ofNat n)) = true) (c : UInt8) : f c = true := by
  have := List.all_eq_true.1 h c.toNat (List.mem_range.2 c.toNat_lt)
  simpa using this
theorem digits_set (c : UInt8) : amongB c [48, 49, 50, 51, 52, 53, 54, 55, 56, 57] = digitB c := by
  have := all_bytes (fun c => amongB c [48, 49, 50, 51, 52, 53, 54, 55, 56, 57] == digitB c) (by decide +kernel) c
  simpa using this
theorem name_set (c : UInt8) : amongB c [97, 98, 99, 100, 101, 102, 103, 104, 105, 106, 107, 108, 109, 110, 111, 112, 113, 114, 115, 116, 117, 118, 119, 120, 121, 122, 65, 66, 67, 68, 69, 70, 71, 72, 73, 74, 75, 76, 77, 78, 79, 80, 81, 82, 83, 84, 85, 86, 87, 88, 89, 90, 95, 48, 49, 50, 51, 52, 53, 54, 55, 56, 57] = partB c := by
  have := all_bytes (fun c => amongB c [97, 98, 99, 100, 101, 102, 103, 104, 105, 106, 107, 108, 109, 110, 111, 112, 113, 114, 115, 116, 117, 118, 119, 120, 121, 122, 65, 66, 67, 68, 69, 70, 71, 72, 73, 74, 75, 76, 77, 78, 79, 80, 81, 82, 83, 84, 85, 86, 87, 88, 89, 90, 95, 48, 49, 50, 51, 52, 53, 54, 55, 56, 57] == partB c) (by decide +kernel) c
  simpa using this
theorem part_head (c : UInt8) : (!digitB c && partB c) = letterB c := by
  have := all_bytes (fun c => (!digitB c && partB c) == letterB c) (by decide +kernel) c
  simpa using this
theorem nameB_ref (s : ByteArray) (h0 : 0 < s.size) : nameB s = (decide (s.size ≤ 16) && !digitB s[0] && s.data.toList.all partB) := by
  have h1 := byte_at s 0 h0
  have hh := head_at s h0
  have hp : s.data.toList.all partB = true → partB s[0] = true := fun h => List.all_eq_true.1 h _ (List.mem_of_getElem? h1)
  have h2 := part_head s[0]
  unfold nameB
  rw [hh, ← h2]
  cases ha : s.data.toList.all partB with
  | false => simp
  | true =>
    rw [hp ha]
    cases digitB s[0] <;> simp

set_option maxRecDepth 100000 in
theorem ref_is_name (s : ByteArray) (w : World) (hs : s.size ≤ 1048576) : Calls Try.prog 47 #[.string s] w fun e w' => e = .returned (.bool (nameB s)) ∧ w = w' := by
  by_cases h0 : 0 < s.size
  · have hb := hide (nameB_ref s h0)
    by_cases h16 : s.size ≤ 16
    · have hr := hide (runF_all partB s.data.toList)
      have hle := runF_le partB s.data.toList
      rw [data_len] at hle
      have HR := hide (show (((runF partB s.data.toList : Nat) : Int) == (s.size : Int)) = s.data.toList.all partB by
        rw [Bool.eq_iff_iff, ← hr.out, data_len]; simp; omega)
      have C1 := hide (fun c w => ref_among c ⟨#[48, 49, 50, 51, 52, 53, 54, 55, 56, 57]⟩ w (by decide))
      have C2 := hide (ref_run s ⟨#[97, 98, 99, 100, 101, 102, 103, 104, 105, 106, 107, 108, 109, 110, 111, 112, 113, 114, 115, 116, 117, 118, 119, 120, 121, 122, 65, 66, 67, 68, 69, 70, 71, 72, 73, 74, 75, 76, 77, 78, 79, 80, 81, 82, 83, 84, 85, 86, 87, 88, 89, 90, 95, 48, 49, 50, 51, 52, 53, 54, 55, 56, 57]⟩ w hs (by decide))
      have EF := hide (funext name_set)
      cases hl : digitB s[0] with
      | true =>
        have Hl := hide hl; clear hl
        go_enter Try.func47, Try.ntmps47
        go_wp2_with ((with_reducible refine (C1.out _ _).mono ?_); rintro e w1 ⟨rfl, rfl⟩; rw [digits_set, Hl.out])
        go_ret
        exact ⟨ret_bool (by rw [hb.out, Hl.out]; simp), rfl⟩
      | false =>
        have Hl := hide hl; clear hl
        cases ha : s.data.toList.all partB with
        | false =>
          have Ha := hide ha
          have HA : (((runF partB s.data.toList : Nat) : Int) == (s.size : Int)) = false := HR.out.trans ha
          clear ha
          go_enter Try.func47, Try.ntmps47
          go_wp2_with (first | ((with_reducible refine (C1.out _ _).mono ?_); rintro e w1 ⟨rfl, rfl⟩; rw [digits_set, Hl.out]) | ((refine C2.out.mono ?_); rintro e w1 ⟨rfl, rfl⟩; rw [EF.out]))
          go_ret
          exact ⟨ret_bool (by rw [hb.out, Ha.out]; simp), rfl⟩
        | true =>
          have Ha := hide ha
          have HA : (((runF partB s.data.toList : Nat) : Int) == (s.size : Int)) = true := HR.out.trans ha
          clear ha
          go_enter Try.func47, Try.ntmps47
          go_wp2_with (first | ((with_reducible refine (C1.out _ _).mono ?_); rintro e w1 ⟨rfl, rfl⟩; rw [digits_set, Hl.out]) | ((refine C2.out.mono ?_); rintro e w1 ⟨rfl, rfl⟩; rw [EF.out]))
          go_ret
          exact ⟨ret_bool (by rw [hb.out, Ha.out, Hl.out]; simp [h16]), rfl⟩
    · go_enter Try.func47, Try.ntmps47
      go_wp2
      go_ret
      exact ⟨ret_bool (by rw [hb.out]; simp [h16]), rfl⟩
  · have h00 : s.size = 0 := by omega
    have hn := hide (nameB_empty s h00)
    clear h00
    go_enter Try.func47, Try.ntmps47
    go_wp2
    go_ret
    exact ⟨ret_bool (by rw [hn.out]), rfl⟩
end Go.Proofs.Ytpfjkjmimmklcaa

namespace Go.Proofs.Ytpfjkjmimmklcaa
open Go.RowKit

theorem enters_at {P : Program} {f : FuncId} {fn : Func} {c : Code} (hf : P.funcs[f]? = some fn) (hname : (fn.name == "runtime.NumGoroutine") = false) (hb : fn.body = some c) : ∀ (args : Array Value) (w : World), (callFunc f args).run P w = .ok (.enter f args) w := by
  intro args w
  have h1 : fn.name ≠ "runtime.NumGoroutine" := by simpa using hname
  simp [callFunc, hf, h1, hb, mark]

def VS : World → Value → ByteArray → Prop := fun _ v x => v = .string x
def VT : World → Value → Tm → Prop := fun _ v t => v = t.val
def VA : World → Value → Atm → Prop := fun w v a => ∃ A n c, v = .agg #[.string a.rel, .slice A n c] ∧ LAt RT 4 w A n a.terms
def VR : World → Value → List V → Prop := fun w v r => ∃ A n c, v = .slice A n c ∧ RowAt w A n r
theorem VA.ext {w w' : World} {v : Value} {a : Atm} (h : VA w v a) (hw : Ext w w') : VA w' v a := by
  obtain ⟨A, n, c, h1, h2⟩ := h
  exact ⟨A, n, c, h1, h2.ext RT.stab hw⟩
theorem VR.ext {w w' : World} {v : Value} {r : List V} (h : VR w v r) (hw : Ext w w') : VR w' v r := by
  obtain ⟨A, n, c, h1, h2⟩ := h
  exact ⟨A, n, c, h1, h2.ext hw⟩

end Go.Proofs.Ytpfjkjmimmklcaa

namespace Go.Proofs.Ytpfjkjmimmklcaa
open Go.RowKit

set_option maxRecDepth 100000 in
theorem index_funcS (xs : List (ByteArray)) (p : ByteArray → Bool) (g : FuncId) (cb : Array Value) (A : Option Addr) (n c : Nat) (w : World) (ha : LAt RS 1 w A n xs) (hn : n ≤ 1048576)
    (eg : ∀ args w, (callFunc g args).run Try.prog w = .ok (.enter g args) w)
    (hf : ∀ (x : ByteArray) (v : Value) (w1 : World), x ∈ xs → Ext w w1 → VS w1 v x → Calls Try.prog g (#[v] ++ cb) w1 fun e w2 => e = .returned (.bool (p x)) ∧ Ext w1 w2) :
    Calls Try.prog 105 #[.slice A n c, .func (.func g) #[] cb] w fun e w' => e = .returned (.int .i64 (firstI p xs 0)) ∧ Ext w w' := by
  have Ha := hide ha; have Hf := hide hf; clear ha hf
  go_enter Try.func105, Try.ntmps105
  go_wp2
  go_loopw [4, 5, 8] (fun _ _ k w' => ∃ i : Nat, i ≤ n ∧ k = .int .i64 i ∧ Hid (firstI p xs 0 = firstI p (xs.drop i) i) ∧ Hid (Ext w w')) (fun _ _ k _ => n - (intOf k).toNat)
  case atStart => exact ⟨0, by omega, rfl, rfl, Ext.refl _⟩
  case round =>
    obtain ⟨i, hin, rfl, ho, hw⟩ := hrel
    by_cases h : i < n
    · obtain ⟨b, off, x, cs, rfl, hx, hb1, hcl, hone, rfl, hcell⟩ := (Ha.out.ext RS.stab hw.out).get (by omega) h
      have c0 := hcell 0 (by omega)
      simp only [Nat.mul_one, Nat.add_zero, List.getElem?_cons_zero] at c0
      have hd := hide (firstI_drop p xs i x hx)
      have hm := hide (List.mem_of_getElem? hx)
      clear hcell hx hcl hone
      go_wp2_with fail
      refine (Hf.out x _ wr hm.out hw.out rfl).mono ?_
      rintro e w1 ⟨rfl, h1⟩
      have E1 := hide (hw.out.trans h1)
      clear h1 c0 hb1
      cases hv : p x with
      | true =>
        have Hv := hide hv; clear hv
        go_wp2_with fail
        go_ret
        exact ⟨ret_int (by rw [ho.out, hd.out, if_pos Hv.out]), E1.out⟩
      | false =>
        have Hv := hide hv; clear hv
        go_wp2_with fail
        go_roundw
        case rel => exact ⟨i + 1, by omega, by go_num, by rw [Hid, ho.out, hd.out, Hv.out]; rfl, E1.out⟩
        case measure => simp [intOf]; omega
    · go_wp2_with fail
      go_ret
      exact ⟨ret_int (by rw [ho.out, List.drop_of_length_le (by have := Ha.out.len; omega)]; rfl), hw.out⟩

theorem contains_funcS (xs : List (ByteArray)) (p : ByteArray → Bool) (g : FuncId) (cb : Array Value) (A : Option Addr) (n c : Nat) (w : World) (ha : LAt RS 1 w A n xs) (hn : n ≤ 1048576)
    (eg : ∀ args w, (callFunc g args).run Try.prog w = .ok (.enter g args) w)
    (hf : ∀ (x : ByteArray) (v : Value) (w1 : World), x ∈ xs → Ext w w1 → VS w1 v x → Calls Try.prog g (#[v] ++ cb) w1 fun e w2 => e = .returned (.bool (p x)) ∧ Ext w1 w2) :
    Calls Try.prog 101 #[.slice A n c, .func (.func g) #[] cb] w fun e w' => e = .returned (.bool (xs.any p)) ∧ Ext w w' := by
  have H := hide (index_funcS xs p g cb A n c w ha hn eg hf); clear ha hf eg
  go_enter Try.func101, Try.ntmps101
  go_wp2_with fail
  refine H.out.mono ?_
  rintro e w1 ⟨rfl, h1⟩
  have E1 := hide h1; clear h1
  go_wp2_with fail
  go_ret
  exact ⟨ret_bool (firstI_any p xs 0), E1.out⟩

set_option maxRecDepth 100000 in
theorem index_funcT (xs : List (Tm)) (p : Tm → Bool) (g : FuncId) (cb : Array Value) (A : Option Addr) (n c : Nat) (w : World) (ha : LAt RT 4 w A n xs) (hn : n ≤ 1048576)
    (eg : ∀ args w, (callFunc g args).run Try.prog w = .ok (.enter g args) w)
    (hf : ∀ (x : Tm) (v : Value) (w1 : World), x ∈ xs → Ext w w1 → VT w1 v x → Calls Try.prog g (#[v] ++ cb) w1 fun e w2 => e = .returned (.bool (p x)) ∧ Ext w1 w2) :
    Calls Try.prog 103 #[.slice A n c, .func (.func g) #[] cb] w fun e w' => e = .returned (.int .i64 (firstI p xs 0)) ∧ Ext w w' := by
  have Ha := hide ha; have Hf := hide hf; clear ha hf
  go_enter Try.func103, Try.ntmps103
  go_wp2
  go_loopw [4, 5, 8] (fun _ _ k w' => ∃ i : Nat, i ≤ n ∧ k = .int .i64 i ∧ Hid (firstI p xs 0 = firstI p (xs.drop i) i) ∧ Hid (Ext w w')) (fun _ _ k _ => n - (intOf k).toNat)
  case atStart => exact ⟨0, by omega, rfl, rfl, Ext.refl _⟩
  case round =>
    obtain ⟨i, hin, rfl, ho, hw⟩ := hrel
    by_cases h : i < n
    · obtain ⟨b, off, x, cs, rfl, hx, hb1, hcl, hone, rfl, hcell⟩ := (Ha.out.ext RT.stab hw.out).get (by omega) h
      have c0 := hcell 0 (by omega)
      have c1 := hcell 1 (by omega)
      have c2 := hcell 2 (by omega)
      have c3 := hcell 3 (by omega)
      simp only [Tm.cells, Nat.add_zero, List.getElem?_cons_zero, List.getElem?_cons_succ] at c0 c1 c2 c3
      have hd := hide (firstI_drop p xs i x hx)
      have hm := hide (List.mem_of_getElem? hx)
      clear hcell hx hcl hone
      go_wp2_with fail
      refine (Hf.out x _ wr hm.out hw.out rfl).mono ?_
      rintro e w1 ⟨rfl, h1⟩
      have E1 := hide (hw.out.trans h1)
      clear h1 c0 c1 c2 c3 hb1
      cases hv : p x with
      | true =>
        have Hv := hide hv; clear hv
        go_wp2_with fail
        go_ret
        exact ⟨ret_int (by rw [ho.out, hd.out, if_pos Hv.out]), E1.out⟩
      | false =>
        have Hv := hide hv; clear hv
        go_wp2_with fail
        go_roundw
        case rel => exact ⟨i + 1, by omega, by go_num, by rw [Hid, ho.out, hd.out, Hv.out]; rfl, E1.out⟩
        case measure => simp [intOf]; omega
    · go_wp2_with fail
      go_ret
      exact ⟨ret_int (by rw [ho.out, List.drop_of_length_le (by have := Ha.out.len; omega)]; rfl), hw.out⟩

theorem contains_funcT (xs : List (Tm)) (p : Tm → Bool) (g : FuncId) (cb : Array Value) (A : Option Addr) (n c : Nat) (w : World) (ha : LAt RT 4 w A n xs) (hn : n ≤ 1048576)
    (eg : ∀ args w, (callFunc g args).run Try.prog w = .ok (.enter g args) w)
    (hf : ∀ (x : Tm) (v : Value) (w1 : World), x ∈ xs → Ext w w1 → VT w1 v x → Calls Try.prog g (#[v] ++ cb) w1 fun e w2 => e = .returned (.bool (p x)) ∧ Ext w1 w2) :
    Calls Try.prog 76 #[.slice A n c, .func (.func g) #[] cb] w fun e w' => e = .returned (.bool (xs.any p)) ∧ Ext w w' := by
  have H := hide (index_funcT xs p g cb A n c w ha hn eg hf); clear ha hf eg
  go_enter Try.func76, Try.ntmps76
  go_wp2_with fail
  refine H.out.mono ?_
  rintro e w1 ⟨rfl, h1⟩
  have E1 := hide h1; clear h1
  go_wp2_with fail
  go_ret
  exact ⟨ret_bool (firstI_any p xs 0), E1.out⟩

set_option maxRecDepth 100000 in
theorem index_funcA (xs : List (Atm)) (p : Atm → Bool) (g : FuncId) (cb : Array Value) (A : Option Addr) (n c : Nat) (w : World) (ha : LAt RA 2 w A n xs) (hn : n ≤ 1048576)
    (eg : ∀ args w, (callFunc g args).run Try.prog w = .ok (.enter g args) w)
    (hf : ∀ (x : Atm) (v : Value) (w1 : World), x ∈ xs → Ext w w1 → VA w1 v x → Calls Try.prog g (#[v] ++ cb) w1 fun e w2 => e = .returned (.bool (p x)) ∧ Ext w1 w2) :
    Calls Try.prog 99 #[.slice A n c, .func (.func g) #[] cb] w fun e w' => e = .returned (.int .i64 (firstI p xs 0)) ∧ Ext w w' := by
  have Ha := hide ha; have Hf := hide hf; clear ha hf
  go_enter Try.func99, Try.ntmps99
  go_wp2
  go_loopw [4, 5, 8] (fun _ _ k w' => ∃ i : Nat, i ≤ n ∧ k = .int .i64 i ∧ Hid (firstI p xs 0 = firstI p (xs.drop i) i) ∧ Hid (Ext w w')) (fun _ _ k _ => n - (intOf k).toNat)
  case atStart => exact ⟨0, by omega, rfl, rfl, Ext.refl _⟩
  case round =>
    obtain ⟨i, hin, rfl, ho, hw⟩ := hrel
    by_cases h : i < n
    · obtain ⟨b, off, x, cs, rfl, hx, hb1, hcl, hone, ⟨A9, n9, c9, rfl, hL⟩, hcell⟩ := (Ha.out.ext RA.stab hw.out).get (by omega) h
      have c0 := hcell 0 (by omega)
      have c1 := hcell 1 (by omega)
      simp only [Nat.add_zero, List.getElem?_cons_zero, List.getElem?_cons_succ] at c0 c1
      have hd := hide (firstI_drop p xs i x hx)
      have hm := hide (List.mem_of_getElem? hx)
      clear hcell hx hcl hone
      go_wp2_with fail
      refine (Hf.out x _ wr hm.out hw.out ⟨A9, n9, c9, rfl, hL⟩).mono ?_
      rintro e w1 ⟨rfl, h1⟩
      have E1 := hide (hw.out.trans h1)
      clear h1 c0 c1 hb1
      cases hv : p x with
      | true =>
        have Hv := hide hv; clear hv
        go_wp2_with fail
        go_ret
        exact ⟨ret_int (by rw [ho.out, hd.out, if_pos Hv.out]), E1.out⟩
      | false =>
        have Hv := hide hv; clear hv
        go_wp2_with fail
        go_roundw
        case rel => exact ⟨i + 1, by omega, by go_num, by rw [Hid, ho.out, hd.out, Hv.out]; rfl, E1.out⟩
        case measure => simp [intOf]; omega
    · go_wp2_with fail
      go_ret
      exact ⟨ret_int (by rw [ho.out, List.drop_of_length_le (by have := Ha.out.len; omega)]; rfl), hw.out⟩

theorem contains_funcA (xs : List (Atm)) (p : Atm → Bool) (g : FuncId) (cb : Array Value) (A : Option Addr) (n c : Nat) (w : World) (ha : LAt RA 2 w A n xs) (hn : n ≤ 1048576)
    (eg : ∀ args w, (callFunc g args).run Try.prog w = .ok (.enter g args) w)
    (hf : ∀ (x : Atm) (v : Value) (w1 : World), x ∈ xs → Ext w w1 → VA w1 v x → Calls Try.prog g (#[v] ++ cb) w1 fun e w2 => e = .returned (.bool (p x)) ∧ Ext w1 w2) :
    Calls Try.prog 73 #[.slice A n c, .func (.func g) #[] cb] w fun e w' => e = .returned (.bool (xs.any p)) ∧ Ext w w' := by
  have H := hide (index_funcA xs p g cb A n c w ha hn eg hf); clear ha hf eg
  go_enter Try.func73, Try.ntmps73
  go_wp2_with fail
  refine H.out.mono ?_
  rintro e w1 ⟨rfl, h1⟩
  have E1 := hide h1; clear h1
  go_wp2_with fail
  go_ret
  exact ⟨ret_bool (firstI_any p xs 0), E1.out⟩

end Go.Proofs.Ytpfjkjmimmklcaa