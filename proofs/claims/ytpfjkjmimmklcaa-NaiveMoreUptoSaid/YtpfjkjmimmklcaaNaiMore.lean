/-
  NaiveMore: the walk.
-/
import Derived.Test.YtpfjkjmimmklcaaNaiA
import Derived.Test.YtpfjkjmimmklcaaNaiK
import Derived.Test.YtpfjkjmimmklcaaCloseA
namespace Go.Proofs.Ytpfjkjmimmklcaa
open Go.RowKit

set_option maxHeartbeats 8000000 in
set_option maxRecDepth 100000 in
theorem law_more (q : Qy) (L : QLoc) (data more : List Tbl) (B : Option Addr) (m c : Nat) (B2 : Option Addr) (m2 c2 : Nat) (w : World) (hq : QAt w L q) (hM : smallM 1048576 q)
    (hb : LAt RB 2 w B m data) (hd : ∀ t ∈ data, smallTb 1048576 t) (hb2 : LAt RB 2 w B2 m2 more) (hd2 : ∀ t ∈ more, smallTb 1048576 t) (hm : m + m2 ≤ 1048576) :
    Calls Try.prog 3 #[qval q.name L, .slice B m c, .slice B2 m2 c2] w fun e w' => e = .returned (.bool true) ∧ Ext w w' := by
  have hs1 : (data.flatMap Tbl.rows).length ≤ 1099511627776 := Nat.le_trans (sum_rows data hd) (by have := hb.len; have : data.length * 1048576 ≤ 1048576 * 1048576 := Nat.mul_le_mul_right _ (by omega); omega)
  have hda : ∀ t ∈ data ++ more, smallTb 1048576 t := fun t ht => (List.mem_append.1 ht).elim (hd t) (hd2 t)
  have hs2 : ((data ++ more).flatMap Tbl.rows).length ≤ 1099511627776 := Nat.le_trans (sum_rows _ hda) (by have := hb.len; have := hb2.len; have : (data ++ more).length * 1048576 ≤ 1048576 * 1048576 := Nat.mul_le_mul_right _ (by rw [List.length_append]; omega); omega)
  obtain ⟨i0, hi0, hz0, hz1, hz2⟩ := info_parts infoTb
  have HCP := hide (fun w1 (h1 : Ext w w1) => copy_qt q L w1 (hq.ext h1) hM)
  have HCT := hide (fun w1 (h1 : Ext w w1) => copy_tabs data B m c w1 (hb.ext RB.stab h1) (by omega) (fun t ht => ⟨Nat.le_trans (hd t ht).2.1 (by omega), fun r hr => Nat.le_trans ((hd t ht).2.2 r hr).1 (by omega)⟩))
  have HCM := hide (fun w1 (h1 : Ext w w1) => copy_tabs more B2 m2 c2 w1 (hb2.ext RB.stab h1) (by omega) (fun t ht => ⟨Nat.le_trans (hd2 t ht).2.1 (by omega), fun r hr => Nat.le_trans ((hd2 t ht).2.2 r hr).1 (by omega)⟩))
  have HA1 := hide (fun L1 A1 n1 c1 w1 (h1 : QAt w1 L1 q) (h2 : LAt RB 2 w1 A1 n1 data) => answers_lat q L1 data A1 n1 c1 1073741824 w1 h1 hM h2 (by have := h2.len; have := hb.len; omega) hs1 (fun t ht r hr => ((hd t ht).2.2 r hr).1))
  have HA2 := hide (fun L1 A1 n1 c1 w1 (h1 : QAt w1 L1 q) (h2 : LAt RB 2 w1 A1 n1 (data ++ more)) => answers_lat q L1 (data ++ more) A1 n1 c1 1073741824 w1 h1 hM h2 (by have := h2.len; rw [List.length_append] at this; have := hb.len; have := hb2.len; omega) hs2 (fun t ht r hr => ((hda t ht).2.2 r hr).1))
  have HLW := hide (@more_law q data more 1073741824 1073741824)
  have HRW := hide (fun x (hx : x ∈ (answersP q data 1073741824).1) => (show x.length ≤ 1048576 by have := answersP_row hx; have := hM.headL; omega))
  have hle1 := answersP_len q data 1073741824
  have hle2 := answersP_len q (data ++ more) 1073741824
  generalize answersP q data 1073741824 = ra at *
  generalize answersP q (data ++ more) 1073741824 = rb at *
  obtain ⟨a, ea⟩ := ra
  obtain ⟨b, eb⟩ := rb
  have HNM := hide (show m = data.length ∧ m2 = more.length ∧ m + m2 ≤ 1048576 from ⟨hb.len, hb2.len, hm⟩)
  have HLE := hide (show a.length ≤ 1073741824 ∧ b.length ≤ 1073741824 from ⟨by simp only at hle1; omega, by simp only at hle2; omega⟩)
  have HE := hide (Ext.alloc w (.cells #[.string q.name, .slice L.A L.n L.c, .slice L.B L.m L.d] 25))
  have HB0 := hide (Blk.new w 25 #[.string q.name, .slice L.A L.n L.c, .slice L.B L.m L.d])
  generalize hW2 : w.alloc (.cells #[.string q.name, .slice L.A L.n L.c, .slice L.B L.m L.d] 25) = W2 at *
  have HW2 := hide hW2; clear hW2 hq hM hb hd hb2 hd2 hm hs1 hs2 hda hle1 hle2
  obtain ⟨A, n, cA, AB, k, d⟩ := L
  simp only [qval] at *
  have a0 : W2.cell? ⟨w.heap.size, 0, none⟩ = some (.string q.name) := HB0.out.cell 0
  have a1 : W2.cell? ⟨w.heap.size, 1, none⟩ = some (.slice A n cA) := HB0.out.cell 1
  have a2 : W2.cell? ⟨w.heap.size, 2, none⟩ = some (.slice AB k d) := HB0.out.cell 2
  have hcase : (ea = 0 ∧ eb = 0) ∨ (ea != 0) = true ∨ (ea = 0 ∧ (eb != 0) = true) := by
    by_cases h1 : ea = 0
    · by_cases h2 : eb = 0
      · exact .inl ⟨h1, h2⟩
      · exact .inr (.inr ⟨h1, by simpa using h2⟩)
    · exact .inr (.inl (by simpa using h1))
  rcases hcase with ⟨rfl, rfl⟩ | hne | ⟨rfl, hne⟩
  all_goals go_enter Try.func3, Try.ntmps3
  all_goals go_wp2_with (first
    | (rw [HW2.out]; (with_reducible refine (HCP.out _ HE.out).mono ?_); rintro e w1 ⟨A1, n1, c1, B1, m1, d1, rfl, q1, x1⟩; have X1 := hide x1; have Q1 := hide q1; clear q1 x1 a0 a1 a2)
    | ((with_reducible refine (HCT.out _ (HE.out.trans X1.out)).mono ?_); rintro e w2 ⟨A2, n2, c2, cs2, rfl, l2, o2, t2, x2⟩; have X2 := hide (X1.out.trans x2); have T2 := hide (tabs_lat l2 o2 t2); have Q2 := hide (Q1.out.ext x2); clear l2 o2 t2 x2)
    | ((with_reducible refine (HA1.out ⟨A1, n1, c1, B1, m1, d1⟩ _ _ _ _ Q2.out T2.out).mono ?_); rintro e w3 ⟨A3, c3, rfl, r3, x3⟩; have X3 := hide (X2.out.trans x3); have R3 := hide r3; clear r3 x3
       have a0 : w3.cell? ⟨w.heap.size, 0, none⟩ = some (.string q.name) := (HB0.out.ext X3.out).cell 0
       have a1 : w3.cell? ⟨w.heap.size, 1, none⟩ = some (.slice A n cA) := (HB0.out.ext X3.out).cell 1
       have a2 : w3.cell? ⟨w.heap.size, 2, none⟩ = some (.slice AB k d) := (HB0.out.ext X3.out).cell 2)
    | ((with_reducible refine (HCP.out _ (HE.out.trans X3.out)).mono ?_); rintro e w4 ⟨A4, n4, c4, B4, m4, d4, rfl, q4, x4⟩; have X4 := hide (X3.out.trans x4); have Q4 := hide q4; have R4 := hide (R3.out.ext RRow.stab x4); clear q4 x4 a0 a1 a2)
    | ((with_reducible refine (HCT.out _ (HE.out.trans X4.out)).mono ?_); rintro e w5 ⟨A5, n5, c5, cs5, rfl, l5, o5, t5, x5⟩; have X5 := hide x5; have L5 := hide l5; have O5 := hide o5; have T5 := hide t5; clear l5 o5 t5 x5)
    | ((with_reducible refine (HCM.out _ ((HE.out.trans X4.out).trans X5.out)).mono ?_); rintro e w6 ⟨A6, n6, c6, cs6, rfl, l6, o6, t6, x6⟩; have X6 := hide x6; have L6 := hide l6; have O6 := hide o6; have T6 := hide t6; clear l6 o6 t6 x6)
    | (at_builtin; refine wpList_append_sl rfl (.tmp 26) (.tmp 28) _ rfl 43 i0 _ 2 40 Try.underlying26 hi0 hz0 hz1 hz2 rfl (by omega) w4 (X5.out.trans X6.out) _ n5 cs5 rfl (mine_ext O5.out X6.out) _ n6 c6 cs6 rfl (Sl.own O6.out) T6.out.one (by have := L5.out; have := L6.out; have := HNM.out; unfold maxLen; omega) (by have := L5.out; have := L6.out; have := HNM.out; omega) ?_; intro A7 c7 w7 own7 E7 G7 L7
       have T7 := hide (tabs_lat (data := data ++ more) (by rw [List.length_append, L5.out, L6.out]) own7.out (((T5.out.ext (RBM.stab _) X6.out).mono fun _ _ h => h.other (mine_ext O5.out X6.out) (by decide) (by decide) G7.out).append (T6.out.mono fun _ _ h => (h.base X5.out.size).other (mine_ext O5.out X6.out) (by decide) (by decide) G7.out)))
       have X7 := hide (X4.out.trans E7.out); have R7 := hide (R4.out.ext RRow.stab E7.out); have Q7 := hide (Q4.out.ext E7.out); clear own7 E7 G7 L7)
    | ((with_reducible refine (HA2.out ⟨A4, n4, c4, B4, m4, d4⟩ _ _ _ _ Q7.out T7.out).mono ?_); rintro e w8 ⟨A8, c8, rfl, r8, x8⟩; have X8 := hide (HE.out.trans (X7.out.trans x8)); have R8 := hide r8; have S8 := hide (R7.out.ext RRow.stab x8); clear r8 x8)
    | ((with_reducible refine (awake_any _).mono ?_); rintro e w9 ⟨rfl, x9⟩; have X9 := hide (X8.out.trans x9); clear x9))
  rotate_left 1
  · go_ret
    exact ⟨rfl, X9.out⟩
  · go_ret
    exact ⟨rfl, X9.out⟩
  go_loopw [11, 13, 42] (fun s11 _ s42 w' => ∃ i j : Nat, i ≤ b.length ∧ j ≤ i ∧ s42 = .int .i64 i ∧ s11 = .int .i64 j ∧ Hid (j = grd a (b.take i) 0) ∧ Hid (Ext w8 w')) (fun _ _ s42 _ => b.length - (intOf s42).toNat)
  case atStart => exact ⟨0, 0, by omega, by omega, rfl, rfl, rfl, Ext.refl _⟩
  case round =>
    obtain ⟨i, j, hin, hji, rfl, rfl, hj, hX⟩ := hrel
    have hb1 := HLE.out.1
    have hb2 := HLE.out.2
    by_cases h : i < b.length
    · obtain ⟨bk, off, x, A5, n5, c5, hBB, hx, hbk, d0, hR5⟩ := (R8.out.ext RRow.stab hX.out).row_ h
      subst hBB
      have HX := hide hx
      have HT := hide (take_next b i x hx)
      by_cases hja : j < a.length
      · obtain ⟨bk', off', y, A6, n6, c6, hBB, hy, hbk', f0, hR6⟩ := (S8.out.ext RRow.stab hX.out).row_ hja
        subst hBB
        have HS := hide (fun w9 (hw9 : Ext wr w9) => same_any y x A6 A5 n6 n5 c6 c5 w9 (hR6.ext hw9) (hR5.ext hw9) (by have := HRW.out y (List.mem_of_getElem? hy); have := hR6.len; omega))
        have HY := hide hy
        have HN : Hid (grd a (b.take (i + 1)) 0 = if sameR y x then j + 1 else j) := hide (by rw [HT.out, grd_snoc, ← hj.out, HY.out])
        generalize sameR y x = sb at *
        clear hx hbk hR5 hy hbk' hR6
        cases sb
        · go_wp2_with ((with_reducible refine (HS.out _ (Ext.refl _)).mono ?_); rintro e w9 ⟨rfl, x9⟩; have X9 := hide (hX.out.trans x9); clear x9)
          go_roundw
          case rel => exact ⟨i + 1, j, by omega, by omega, by go_num, rfl, by rw [HN.out]; rfl, X9.out⟩
          case measure => simp [intOf]; omega
        · go_wp2_with ((with_reducible refine (HS.out _ (Ext.refl _)).mono ?_); rintro e w9 ⟨rfl, x9⟩; have X9 := hide (hX.out.trans x9); clear x9)
          go_roundw
          case rel => exact ⟨i + 1, j + 1, by omega, by omega, by go_num, by go_num, by rw [HN.out]; rfl, X9.out⟩
          case measure => simp [intOf]; omega
      · have HN : Hid (grd a (b.take (i + 1)) 0 = j) := hide (by rw [HT.out, grd_snoc, ← hj.out, List.getElem?_eq_none_iff.2 (by omega)]; rfl)
        clear hx hbk hR5
        go_wp2_with fail
        go_roundw
        case rel => exact ⟨i + 1, j, by omega, by omega, by go_num, rfl, HN.out.symm, hX.out⟩
        case measure => simp [intOf]; omega
    · obtain rfl : i = b.length := by omega
      have hja : j = a.length := by
        have h5 := hj.out
        rw [List.take_length] at h5
        exact h5.trans (HLW.out trivial trivial)
      subst hja
      go_wp2_with ((with_reducible refine (awake_any _).mono ?_); rintro e w9 ⟨rfl, x9⟩; have X9 := hide (hX.out.trans x9); clear x9)
      go_ret
      exact ⟨rfl, X8.out.trans X9.out⟩
end Go.Proofs.Ytpfjkjmimmklcaa
