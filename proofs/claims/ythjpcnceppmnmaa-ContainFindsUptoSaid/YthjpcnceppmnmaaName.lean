/-
  Names: the program's and the document's.
-/
import Derived.Test.YthjpcnceppmnmaaShapeP
namespace Go.Proofs.Ythjpcnceppmnmaa
open Go.RowKit

theorem byte_at (s : ByteArray) (i : Nat) (h : i < s.size) : s.data.toList[i]? = some s[i] := by
  rw [List.getElem?_eq_getElem (by simpa using h)]; rfl
theorem data_len (s : ByteArray) : s.data.toList.length = s.size := Array.length_toList

theorem lex_letter (c : UInt8) (w : World) : Calls Try.prog 111 #[.int .u8 (c.toNat : Int)] w fun e w' => e = .returned (.bool (letterB c)) ∧ w = w' := by
  generalize hn : c.toNat = n
  have H : letterB c = ((decide (97 ≤ n) && decide (n ≤ 122)) || (decide (65 ≤ n) && decide (n ≤ 90)) || decide (n = 95)) := by simp [letterB, hn]
  have HH := hide H; clear H hn
  by_cases h1 : (97 : Int) ≤ (n : Int)
  · by_cases h2 : (n : Int) ≤ 122
    · go_enter Try.func111, Try.ntmps111
      go_wp2
      go_ret
      exact ⟨ret_bool (by rw [HH.out]; simp; omega), rfl⟩
    · have h3 : ¬ ((n : Int) ≤ 90) := by omega
      have h4 : (65 : Int) ≤ n := by omega
      have h5 : ((n : Int) == 95) = false := by simp; omega
      go_enter Try.func111, Try.ntmps111
      go_wp2
      go_ret
      exact ⟨ret_bool (by rw [HH.out]; simp; omega), rfl⟩
  · by_cases h2 : (65 : Int) ≤ (n : Int)
    · by_cases h3 : (n : Int) ≤ 90
      · go_enter Try.func111, Try.ntmps111
        go_wp2
        go_ret
        exact ⟨ret_bool (by rw [HH.out]; simp; omega), rfl⟩
      · go_enter Try.func111, Try.ntmps111
        go_wp2
        go_ret
        exact ⟨ret_bool (by rw [HH.out]; rw [Bool.eq_iff_iff]; simp; omega), rfl⟩
    · go_enter Try.func111, Try.ntmps111
      go_wp2
      go_ret
      exact ⟨ret_bool (by rw [HH.out]; rw [Bool.eq_iff_iff]; simp; omega), rfl⟩
theorem lex_digit (c : UInt8) (w : World) : Calls Try.prog 121 #[.int .u8 (c.toNat : Int)] w fun e w' => e = .returned (.bool (digitB c)) ∧ w = w' := by
  generalize hn : c.toNat = n
  have H : digitB c = (decide (48 ≤ n) && decide (n ≤ 57)) := by simp [digitB, hn]
  have HH := hide H; clear H hn
  by_cases h1 : (48 : Int) ≤ (n : Int)
  · go_enter Try.func121, Try.ntmps121
    go_wp2
    go_ret
    exact ⟨ret_bool (by rw [HH.out]; rw [Bool.eq_iff_iff]; simp; omega), rfl⟩
  · go_enter Try.func121, Try.ntmps121
    go_wp2
    go_ret
    exact ⟨ret_bool (by rw [HH.out]; rw [Bool.eq_iff_iff]; simp; omega), rfl⟩

/-- how many at the head have p -/
def runF (p : UInt8 → Bool) (l : List UInt8) : Nat := (l.takeWhile p).length
theorem runF_step (p : UInt8 → Bool) (l : List UInt8) (i : Nat) (c : UInt8) (h : l[i]? = some c) : runF p (l.drop i) = if p c then runF p (l.drop (i + 1)) + 1 else 0 := by
  obtain ⟨h, e⟩ := List.getElem?_eq_some_iff.1 h
  rw [List.drop_eq_getElem_cons h, e]
  unfold runF
  rw [List.takeWhile_cons]
  split <;> simp
theorem runF_all (p : UInt8 → Bool) : ∀ l : List UInt8, runF p l = l.length ↔ l.all p = true
  | [] => by simp [runF]
  | c :: l => by
    have ih := runF_all p l
    unfold runF at ih ⊢
    rw [List.takeWhile_cons]
    by_cases h : p c = true
    · simp only [h, if_true, List.length_cons, List.all_cons, Bool.true_and]; rw [← ih]; omega
    · simp [h]
theorem runF_le (p : UInt8 → Bool) : ∀ l : List UInt8, runF p l ≤ l.length
  | [] => by simp [runF]
  | c :: l => by
    have ih := runF_le p l
    unfold runF at ih ⊢
    rw [List.takeWhile_cons]
    split <;> simp <;> omega

set_option maxRecDepth 100000 in
theorem name_end (s : ByteArray) (w : World) (hs : s.size ≤ 1048576) : Calls Try.prog 112 #[.string s, .int .i64 0] w fun e w' => e = .returned (.int .i64 (runF partB s.data.toList : Nat)) ∧ w = w' := by
  go_enter Try.func112, Try.ntmps112
  go_wp2
  go_loop [1] (fun k => ∃ i : Nat, i ≤ s.size ∧ k = .int .i64 i ∧ Hid (runF partB s.data.toList = i + runF partB (s.data.toList.drop i))) (fun k => s.size - (intOf k).toNat)
  case atStart => exact ⟨0, by omega, rfl, by simp [Hid]⟩
  case round =>
    obtain ⟨i, hin, rfl, ho⟩ := hrel
    by_cases h : i < s.size
    · have hd := hide (runF_step partB s.data.toList i s[i] (byte_at s i h))
      cases hl : letterB s[i] with
      | true =>
        have Hp := hide (show partB s[i] = true by simp [partB, hl])
        have Hl := hide hl; clear hl
        go_wp2_with ((refine (lex_letter _ _).mono ?_); rintro e w1 ⟨rfl, rfl⟩; rw [Hl.out])
        go_round
        case rel => exact ⟨i + 1, by omega, by go_num, by rw [Hid, ho.out, hd.out, if_pos Hp.out]; omega⟩
        case measure => simp [intOf]; omega
      | false =>
        have Hl := hide hl
        cases hdg : digitB s[i] with
        | true =>
          have Hp := hide (show partB s[i] = true by simp [partB, hdg])
          have Hd := hide hdg; clear hl hdg
          go_wp2_with (first | ((refine (lex_letter _ _).mono ?_); rintro e w1 ⟨rfl, rfl⟩; rw [Hl.out]) | ((refine (lex_digit _ _).mono ?_); rintro e w1 ⟨rfl, rfl⟩; rw [Hd.out]))
          go_round
          case rel => exact ⟨i + 1, by omega, by go_num, by rw [Hid, ho.out, hd.out, if_pos Hp.out]; omega⟩
          case measure => simp [intOf]; omega
        | false =>
          have Hp := hide (show partB s[i] = false by simp [partB, hl, hdg])
          have Hd := hide hdg; clear hl hdg
          go_wp2_with (first | ((refine (lex_letter _ _).mono ?_); rintro e w1 ⟨rfl, rfl⟩; rw [Hl.out]) | ((refine (lex_digit _ _).mono ?_); rintro e w1 ⟨rfl, rfl⟩; rw [Hd.out]))
          go_ret
          exact ⟨ret_int (by rw [ho.out, hd.out, Hp.out]; simp), rfl⟩
    · go_wp2
      go_ret
      exact ⟨ret_int (by rw [ho.out, List.drop_of_length_le (by rw [data_len]; omega)]; simp [runF]), rfl⟩
end Go.Proofs.Ythjpcnceppmnmaa
