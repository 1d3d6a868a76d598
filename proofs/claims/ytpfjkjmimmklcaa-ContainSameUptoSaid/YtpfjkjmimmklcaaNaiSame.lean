/-
  ContainSame: the walk.
-/
import Derived.Test.YtpfjkjmimmklcaaAwake
import Derived.Test.YtpfjkjmimmklcaaCoreW
import Derived.Test.YtpfjkjmimmklcaaNaiK
import Derived.Test.YtpfjkjmimmklcaaNaiZ
import Derived.Test.YtpfjkjmimmklcaaCloseA
namespace Go.Proofs.Ytpfjkjmimmklcaa
open Go.RowKit

theorem coreP_small {M : Nat} : ∀ (k : Nat) (q : Qy), smallM M q → smallM M (coreP k q)
  | 0, q, h => h
  | k + 1, q, h => by
    unfold coreP
    cases firstOut q 0 q.atoms.length with
    | none => exact h
    | some i => exact coreP_small k _ (withoutQ_small h)
theorem coreR_small {q : Qy} (h : smallM 1048576 q) : smallM 1048576 (coreR q).1 := by
  unfold coreR
  split
  · exact ⟨Nat.zero_le _, Nat.zero_le _, fun _ h => (by cases h), Nat.zero_le _, fun _ h => (by cases h)⟩
  · exact coreP_small _ q h
theorem core_out (q : Qy) (L : QLoc) (w : World) (hq : QAt w L q) (hM : smallM 1048576 q) :
    Calls Try.prog 40 #[qval q.name L] w fun e w' => ∃ A n c B m d, e = .returned (.tuple #[.agg #[.string (coreR q).1.name, .slice A n c, .slice B m d], .int .i64 (coreR q).2]) ∧ QAt w' ⟨A, n, c, B, m, d⟩ (coreR q).1 ∧ Ext w w' :=
  (core_any q L w hq hM).mono fun _ _ ⟨_, h1, h2, h3⟩ => ⟨_, _, _, _, _, _, h1, h2, h3⟩

set_option maxHeartbeats 8000000 in
set_option maxRecDepth 100000 in
theorem law_same (q : Qy) (L : QLoc) (data : List Tbl) (B : Option Addr) (m c : Nat) (w : World) (hq : QAt w L q) (hM : smallM 1048576 q)
    (hb : LAt RB 2 w B m data) (hd : ∀ t ∈ data, smallTb 1048576 t) (hm : m ≤ 1048576) :
    Calls Try.prog 12 #[qval q.name L, .slice B m c] w fun e w' => e = .returned (.bool true) ∧ Ext w w' := by
  have hs1 : (data.flatMap Tbl.rows).length ≤ 1099511627776 := Nat.le_trans (sum_rows data hd) (by have := hb.len; have : data.length * 1048576 ≤ 1048576 * 1048576 := Nat.mul_le_mul_right _ (by omega); omega)
  have HCP := hide (fun w1 (h1 : Ext w w1) => copy_qt q L w1 (hq.ext h1) hM)
  have HCO := hide (fun L1 w1 (h1 : QAt w1 L1 q) => core_out q L1 w1 h1 hM)
  have HCT := hide (fun w1 (h1 : Ext w w1) => copy_tabs data B m c w1 (hb.ext RB.stab h1) (by omega) (fun t ht => ⟨Nat.le_trans (hd t ht).2.1 (by omega), fun r hr => Nat.le_trans ((hd t ht).2.2 r hr).1 (by omega)⟩))
  have HCI := hide (fun w1 (h1 : Ext w w1) => copy_tabsIs (c := c) (hb.ext RB.stab h1) (by omega) (fun t ht => ⟨Nat.le_trans (hd t ht).2.1 (by omega), fun r hr => Nat.le_trans ((hd t ht).2.2 r hr).1 (by omega)⟩))
  have HA1 := hide (fun L1 A1 n1 c1 w1 (h1 : QAt w1 L1 q) (h2 : LAt RB 2 w1 A1 n1 data) => answers_lat q L1 data A1 n1 c1 1073741824 w1 h1 hM h2 (by have := h2.len; have := hb.len; omega) hs1 (fun t ht r hr => ((hd t ht).2.2 r hr).1))
  have HA2 := hide (fun L1 A1 n1 c1 w1 (h1 : QAt w1 L1 (coreR q).1) (h2 : LAt RB 2 w1 A1 n1 data) => answers_lat (coreR q).1 L1 data A1 n1 c1 1073741824 w1 h1 (coreR_small hM) h2 (by have := h2.len; have := hb.len; omega) hs1 (fun t ht r hr => ((hd t ht).2.2 r hr).1))
  have HLW := hide (@core_law q data 1073741824 1073741824)
  have HRW := hide (fun x (hx : x ∈ (answersP q data 1073741824).1) => (show x.length ≤ 1048576 by have := answersP_row hx; have := hM.headL; omega))
  have hle1 := answersP_len q data 1073741824
  generalize answersP q data 1073741824 = ra at *
  generalize answersP (coreR q).1 data 1073741824 = rb at *
  generalize coreR q = rc at *
  obtain ⟨a, ea⟩ := ra
  obtain ⟨b, eb⟩ := rb
  obtain ⟨cq, ec⟩ := rc
  have HLE := hide (show a.length ≤ 1073741824 from by simp only at hle1; omega)
  have HE := hide (Ext.alloc w (.cells #[.string q.name, .slice L.A L.n L.c, .slice L.B L.m L.d] 25))
  have HB0 := hide (Blk.new w 25 #[.string q.name, .slice L.A L.n L.c, .slice L.B L.m L.d])
  generalize hW2 : w.alloc (.cells #[.string q.name, .slice L.A L.n L.c, .slice L.B L.m L.d] 25) = W2 at *
  have HW2 := hide hW2; clear hW2 hq hM hb hd hm hs1 hle1
  obtain ⟨A, n, cA, AB, k, d⟩ := L
  simp only [qval] at *
  have a0 : W2.cell? ⟨w.heap.size, 0, none⟩ = some (.string q.name) := HB0.out.cell 0
  have a1 : W2.cell? ⟨w.heap.size, 1, none⟩ = some (.slice A n cA) := HB0.out.cell 1
  have a2 : W2.cell? ⟨w.heap.size, 2, none⟩ = some (.slice AB k d) := HB0.out.cell 2
  have hcase : ec = 0 ∨ (ec != 0) = true := by
    by_cases h0 : ec = 0
    · exact .inl h0
    · exact .inr (by simpa using h0)
  rcases hcase with rfl | hne
  all_goals go_enter Try.func12, Try.ntmps12
  all_goals go_wp2_with (first
    | (rw [HW2.out]; (with_reducible refine (HCP.out _ HE.out).mono ?_); rintro e w1 ⟨A1, n1, c1, B1, m1, d1, rfl, q1, x1⟩; have X1 := hide x1; have Q1 := hide q1; clear q1 x1 a0 a1 a2)
    | ((with_reducible refine (HCO.out ⟨A1, n1, c1, B1, m1, d1⟩ _ Q1.out).mono ?_); rintro e w3 ⟨A3, n3, c3, B3, m3, d3, rfl, q3, x3⟩; have X3 := hide (X1.out.trans x3); have Q3 := hide q3; clear q3 x3
       have BC := hide (Blk.new w3 25 #[.string cq.name, .slice A3 n3 c3, .slice B3 m3 d3])
       have l1 : w.heap.size < w3.heap.size := (HB0.out.ext X3.out).lt
       have l2 : w.heap.size ≠ w3.heap.size := Nat.ne_of_lt l1
       have a0 : w3.cell? ⟨w.heap.size, 0, none⟩ = some (.string q.name) := (HB0.out.ext X3.out).cell 0
       have a1 : w3.cell? ⟨w.heap.size, 1, none⟩ = some (.slice A n cA) := (HB0.out.ext X3.out).cell 1
       have a2 : w3.cell? ⟨w.heap.size, 2, none⟩ = some (.slice AB k d) := (HB0.out.ext X3.out).cell 2)
    | ((with_reducible refine (awake_any _).mono ?_); rintro e w9 ⟨rfl, x9⟩; have X9 := hide (HE.out.trans ((X3.out.alloc' _).trans x9)); clear x9)
    | ((with_reducible refine (HCP.out _ (HE.out.trans (X3.out.alloc' _))).mono ?_); rintro e w4 ⟨A4, n4, c4, B4, m4, d4, rfl, q4, x4⟩; have X4 := hide ((X3.out.alloc' _).trans x4); have Q4 := hide q4; have BC4 := hide (BC.out.ext x4); have C4 := hide (Q3.out.ext ((Ext.alloc w3 _).trans x4)); clear q4 x4 a0 a1 a2)
    | ((with_reducible refine (HCT.out _ (HE.out.trans X4.out)).mono ?_); rintro e w5 ⟨A5, n5, c5, cs5, rfl, l5, o5, t5, x5⟩; have X5 := hide (X4.out.trans x5); have T5 := hide (tabs_lat l5 o5 t5); have Q5 := hide (Q4.out.ext x5); have BC5 := hide (BC4.out.ext x5); have C5 := hide (C4.out.ext x5); clear l5 o5 t5 x5)
    | ((with_reducible refine (HA1.out ⟨A4, n4, c4, B4, m4, d4⟩ _ _ _ _ Q5.out T5.out).mono ?_); rintro e w6 ⟨A6, c6, rfl, r6, x6⟩; have X6 := hide (X5.out.trans x6); have R6 := hide r6; have BC6 := hide (BC5.out.ext x6); have C6 := hide (C5.out.ext x6); clear r6 x6))
  rotate_left 1
  · go_ret
    exact ⟨rfl, X9.out⟩
  have c0 := cell_ext (show w6.cell? ⟨w3.heap.size, 0, none⟩ = some (.string cq.name) from BC6.out.cell 0)
  have c1 := cell_ext (show w6.cell? ⟨w3.heap.size, 1, none⟩ = some (.slice A3 n3 c3) from BC6.out.cell 1)
  have c2 := cell_ext (show w6.cell? ⟨w3.heap.size, 2, none⟩ = some (.slice B3 m3 d3) from BC6.out.cell 2)
  refine wp_region_ext 9 (by kernel_rfl) (by kernel_rfl) (by kernel_rfl) ?_
  iterate 2
    refine wpE_k (by kernel_rfl) (by kernel_rfl) ?_
    apply Exists.intro
    refine ⟨fun w1 hw1 => ?_, fun K hK => ?_⟩
    · go_simp; first | done | rfl
    go_simp; refine hK _ _ ?_; clear hK K
  refine wpE_p [] (TabsIs data) (fun u w1 w2 _ h2 h => TabsIs.ext h h2) rfl (by kernel_rfl) (fun w1 hw1 => ?_) ?_
  · simp only [LookQ]
    clear c0 c1 c2
    go_simp
    exact ⟨Ext.refl _, HCI.out w1 (HE.out.trans (X6.out.trans hw1))⟩
  refine wpE_p [31] (AnsIs b eb) (fun u w1 w2 _ h2 h => AnsIs.ext h h2) rfl (by kernel_rfl) (fun w1 hw1 => ?_) ?_
  · simp only [LookQ]
    rintro _ hu
    obtain ⟨A7, c7, rfl, h7⟩ := hu _ rfl
    clear hu c0 c1 c2
    go_simp
    exact ⟨Ext.refl _, (HA2.out ⟨A3, n3, c3, B3, m3, d3⟩ A7 data.length c7 w1 (C6.out.ext hw1) h7).mono fun e w9 ⟨A9, c9, e9, l9, x9⟩ => ⟨_, e9, x9, A9, c9, rfl, l9⟩⟩
  refine wpE_p [32] (AnsIs b eb) (fun u w1 w2 _ h2 h => AnsIs.ext h h2) rfl (by kernel_rfl) (fun w1 hw1 => ?_) ?_
  · simp only [LookQ]
    rintro _ hu
    obtain ⟨A7, c7, rfl, h7⟩ := hu _ rfl
    clear hu c0 c1 c2
    go_simp
    exact ⟨Ext.refl _, A7, c7, rfl, h7⟩
  refine wpE_p [28] (RowsIs b) (fun u w1 w2 _ h2 h => RowsIs.ext h h2) rfl (by kernel_rfl) (fun w1 hw1 => ?_) ?_
  · simp only [LookQ]
    rintro _ hu
    obtain ⟨A7, c7, rfl, h7⟩ := hu _ rfl
    clear hu c0 c1 c2
    go_simp
    exact ⟨Ext.refl _, A7, c7, rfl, h7⟩
  refine wpE_kp [28] (.int .i64 eb) (by kernel_rfl) (by kernel_rfl) (fun w1 hw1 => ?_) (fun K hK => ?_)
  · simp only [LookQ]
    rintro _ hu
    obtain ⟨A7, c7, rfl, h7⟩ := hu _ rfl
    clear hu c0 c1 c2
    go_simp
    exact Ext.refl _
  go_simp; refine hK _ _ ?_; clear hK K
  refine wpE_p [33] (RowsIs b) (fun u w1 w2 _ h2 h => RowsIs.ext h h2) rfl (by kernel_rfl) (fun w1 hw1 => ?_) ?_
  · simp only [LookQ]
    rintro _ hu
    obtain ⟨A7, c7, rfl, h7⟩ := hu _ rfl
    clear hu c0 c1 c2
    go_simp
    exact ⟨Ext.refl _, A7, c7, rfl, h7⟩
  iterate 1
    refine wpE_k (by kernel_rfl) (by kernel_rfl) ?_
    apply Exists.intro
    refine ⟨fun w1 hw1 => ?_, fun K hK => ?_⟩
    · go_simp; first | done | rfl
    go_simp; refine hK _ _ ?_; clear hK K
  refine wpE_nil ⟨rfl, by kernel_rfl, fun w1 hw1 => ?_⟩
  simp only [EndQ, List.drop]
  rintro _ ⟨A8, c8, rfl, r8⟩ _ _ _ _ _ _ _ _
  refine wpList_nil ?_
  clear c0 c1 c2
  have X8 := hide (HE.out.trans (X6.out.trans hw1)); have R8 := hide r8; have S8 := hide (R6.out.ext RRow.stab hw1); clear r8 hw1
  have hcase : (ea = 0 ∧ eb = 0) ∨ ((ea != 0) = true) ∨ (ea = 0 ∧ (eb != 0) = true) := by
    by_cases h1 : ea = 0
    · by_cases h2 : eb = 0
      · exact .inl ⟨h1, h2⟩
      · exact .inr (.inr ⟨h1, by simpa using h2⟩)
    · exact .inr (.inl (by simpa using h1))
  rcases hcase with ⟨rfl, rfl⟩ | hne | ⟨rfl, hne⟩
  · obtain rfl : a = b := HLW.out trivial rfl rfl
    have HSA := hide (fun w9 (h9 : Ext w1 w9) => same_all a a A6 A8 a.length a.length c6 c8 w9 (S8.out.ext RRow.stab h9) (R8.out.ext RRow.stab h9) (by have := HLE.out; omega) (fun r hr => by have := HRW.out r hr; omega))
    rw [(sameRs_iff (r := a) (s := a)).2 rfl] at HSA
    go_wp2_with (first
      | ((with_reducible refine (HSA.out _ (Ext.refl _)).mono ?_); rintro e w9 ⟨rfl, x9⟩; have X9 := hide (X8.out.trans x9); clear x9)
      | ((with_reducible refine (awake_any _).mono ?_); rintro e w10 ⟨rfl, x10⟩; have X10 := hide (X9.out.trans x10); clear x10))
    go_ret
    exact ⟨rfl, X10.out⟩
  all_goals go_wp2_with ((with_reducible refine (awake_any _).mono ?_); rintro e w9 ⟨rfl, x9⟩; have X9 := hide (X8.out.trans x9); clear x9)
  all_goals go_ret
  all_goals exact ⟨rfl, X9.out⟩
end Go.Proofs.Ytpfjkjmimmklcaa
