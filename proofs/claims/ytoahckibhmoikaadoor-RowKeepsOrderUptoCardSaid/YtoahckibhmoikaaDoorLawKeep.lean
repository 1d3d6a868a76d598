import Derived.Test.YtoahckibhmoikaaDoorKeepP
import Derived.Test.YtoahckibhmoikaaDoorLawBack
namespace Go.Proofs.YtoahckibhmoikaaDoor
open Go.RowKit

theorem less_cb : ∀ l m : List UInt8, Op.bytesLess l m = decide (Lib.compareBytes l m < 0)
  | [], [] => rfl
  | [], _ :: _ => rfl
  | _ :: _, [] => rfl
  | a :: l, b :: m => by
    simp only [Op.bytesLess, Lib.compareBytes]
    by_cases h1 : a < b
    · simp [h1]
    · by_cases h2 : b < a
      · have h3 : (a == b) = false := by
          simp only [beq_eq_false_iff_ne, ne_eq]
          rintro rfl; exact h1 h2
        simp [h1, h2, h3]
      · have h3 : a = b := UInt8.toNat_inj.1 (by rw [UInt8.lt_iff_toNat_lt] at h1 h2; omega)
        subst h3
        simp [h1, less_cb l m]
theorem eq_cb : ∀ l m : List UInt8, Lib.compareBytes l m = 0 ↔ l = m
  | [], [] => by simp [Lib.compareBytes]
  | [], _ :: _ => by simp [Lib.compareBytes]
  | _ :: _, [] => by simp [Lib.compareBytes]
  | a :: l, b :: m => by
    simp only [Lib.compareBytes]
    by_cases h1 : a < b
    · rw [if_pos h1]
      refine ⟨fun h => absurd h (by omega), fun h => ?_⟩
      injection h with h _; subst h; rw [UInt8.lt_iff_toNat_lt] at h1; omega
    · by_cases h2 : b < a
      · rw [if_neg h1, if_pos h2]
        refine ⟨fun h => absurd h (by omega), fun h => ?_⟩
        injection h with h _; exact absurd (h ▸ h2) h1
      · have h3 : a = b := UInt8.toNat_inj.1 (by rw [UInt8.lt_iff_toNat_lt] at h1 h2; omega)
        subst h3
        rw [if_neg h1, if_neg h1, eq_cb l m]
        simp
theorem packRes_bad {r : List V} (hv : validR r = false) : ∃ x : Int, packRes r = ([], x) ∧ 0 ≤ x ∧ x ≤ 100 ∧ (x != 0) = true := by
  unfold packRes
  by_cases h : 30 < r.length
  · exact ⟨20, if_pos h, by omega, by omega, rfl⟩
  · exact ⟨21, by rw [if_neg h, if_neg (by rw [hv]; simp)], by omega, by omega, rfl⟩
theorem packRes_ok {r : List V} (hv : validR r = true) : packRes r = (packR r, 0) ∧ (packR r).length ≤ 3930 ∧ r.length ≤ 30 ∧ r.all validV = true := by
  have h := hv
  simp only [validR, Bool.and_eq_true, decide_eq_true_eq] at h
  have hp : packRes r = (packR r, 0) := by unfold packRes; rw [if_neg (by omega), if_pos hv]
  refine ⟨hp, ?_, h.1, h.2⟩
  have := packRes_len r
  rwa [hp] at this

set_option maxRecDepth 100000 in
set_option maxHeartbeats 1000000 in
theorem law_keeps (a b : List V) (A B : Option Addr) (n m c d : Nat) (w : World) (ha : RowAt w A n a) (hn : n ≤ 1048576) (hs : smallR a) (hw : wfR a) (hb : RowAt w B m b) (hm : m ≤ 1048576) (hsb : smallR b) (hwb : wfR b) :
    Calls Tryd.prog 12 #[.slice A n c, .slice B m d] w fun e w' => e = .returned (.bool true) ∧ Ext w w' := by
  have Ha := hide ha; have Hsa := hide hs; have Hwa := hide hw; have Hb := hide hb; have Hsb := hide hsb; have Hwb := hide hwb; clear ha hs hw hb hsb hwb
  have hla := hide Ha.out.len
  have hlb := hide Hb.out.len
  have hPa := fun A c w ha => hide (row_pack a A n c w ha hn Hsa.out Hwa.out)
  have hPb := fun A c w ha => hide (row_pack b A m c w ha hm Hsb.out Hwb.out)
  have hVa := fun w ha => hide (ref_valid a A n c w ha hn Hsa.out)
  have hVb := fun w hb => hide (ref_valid b B m d w hb hm Hsb.out)
  have hca := packRes_err a
  have hcb := packRes_err b
  obtain ⟨pa, Hpa⟩ : ∃ p, Hid (p = packRes a) := ⟨_, rfl⟩
  obtain ⟨pb, Hpb⟩ : ∃ p, Hid (p = packRes b) := ⟨_, rfl⟩
  simp only [← Hpa.out] at hPa hca
  simp only [← Hpb.out] at hPb hcb
  obtain ⟨pa, ea⟩ := pa
  obtain ⟨pb, eb⟩ := pb
  dsimp only at hca hcb
  have ha1 : 0 ≤ ea := by omega
  have ha2 : ea ≤ 100 := by omega
  have hb1 : 0 ≤ eb := by omega
  have hb2 : eb ≤ 100 := by omega
  clear hca hcb
  go_enter Tryd.func12, Tryd.ntmps12
  go_wp2_with fail
  refine (awake_any _).mono ?_
  rintro e w1 ⟨rfl, h1⟩
  have E1 := hide h1; clear h1
  go_wp2_with fail
  refine (copy_any a A n c _ (Ha.out.ext E1.out) (by omega)).mono ?_
  intro e w2 h2
  obtain ⟨A2, c2, rfl, h2, h3⟩ := h2.row
  have R2 := hide h2
  have E2 := hide (E1.out.trans h3); clear h2 h3
  go_wp2_with fail
  refine (hPa A2 c2 _ R2.out).out.mono ?_
  intro e w3 h2
  obtain ⟨A3, c3, rfl, h2, hc3, h3⟩ := h2.bytes
  dsimp only at h2 hc3 ⊢
  have R3 := hide h2
  have E3 := hide (E2.out.trans h3); clear h2 h3
  go_wp2_with fail
  refine (copy_any b B m d _ (Hb.out.ext E3.out) (by omega)).mono ?_
  intro e w4 h2
  obtain ⟨A4, c4, rfl, h2, h3⟩ := h2.row
  have R4 := hide h2
  have E4 := hide (E3.out.trans h3); have E34 := hide h3; clear h2 h3
  go_wp2_with fail
  refine (hPb A4 c4 _ R4.out).out.mono ?_
  intro e w5 h2
  obtain ⟨A5, c5, rfl, h2, hc5, h3⟩ := h2.bytes
  dsimp only at h2 hc5 ⊢
  have R5 := hide h2
  have E5 := hide (E4.out.trans h3); have E35 := hide (E34.out.trans h3); clear h2 h3
  go_wp2_with fail
  refine (hVa _ (Ha.out.ext E5.out)).out.mono ?_
  rintro e w6 ⟨rfl, h1⟩
  have E6 := hide (E5.out.trans h1); have E56 := hide h1; clear h1
  by_cases hva : validR a = true
  rotate_left
  · have hva : validR a = false := by simpa using hva
    have hea : (ea != 0) = true := by
      obtain ⟨x, h1, _, _, h2⟩ := packRes_bad hva
      have := Hpa.out; rw [h1] at this; injection this with _ h3; rw [h3]; exact h2
    rw [hva]; clear hva
    go_wp2_with fail
    go_ret
    exact ⟨rfl, E6.out⟩
  obtain ⟨q1, q2, q3, q4⟩ := packRes_ok hva
  rw [hva]; clear hva
  go_wp2_with fail
  refine (hVb _ (Hb.out.ext E6.out)).out.mono ?_
  rintro e w7 ⟨rfl, h1⟩
  have E7 := hide (E6.out.trans h1); have E57 := hide (E56.out.trans h1); clear h1
  have hea : ea = 0 := by have := Hpa.out; rw [q1] at this; injection this
  by_cases hvb : validR b = true
  rotate_left
  · have hvb : validR b = false := by simpa using hvb
    have heb : (eb != 0) = true := by
      obtain ⟨x, h1, _, _, h2⟩ := packRes_bad hvb
      have := Hpb.out; rw [h1] at this; injection this with _ h3; rw [h3]; exact h2
    rw [hvb]; clear hvb
    subst hea
    go_wp2_with fail
    go_ret
    exact ⟨rfl, E7.out⟩
  obtain ⟨s1, s2, s3, s4⟩ := packRes_ok hvb
  rw [hvb]; clear hvb
  have heb : eb = 0 := by have := Hpb.out; rw [s1] at this; injection this
  have hcmp := hide (show Lib.compareBytes pa pb = cmpR a b by
    have h1 : pa = packR a := by have := Hpa.out; rw [q1] at this; injection this
    have h2 : pb = packR b := by have := Hpb.out; rw [s1] at this; injection this
    rw [h1, h2]; exact cb_pack a b q4 s4 (wfR_iff Hwa.out) (wfR_iff Hwb.out))
  subst hea heb
  clear q1 q2 q4 s1 s2 s4
  go_wp2_with fail
  refine (copy_any a A n c _ (Ha.out.ext E7.out) (by omega)).mono ?_
  intro e w8 h2
  obtain ⟨A8, c8, rfl, h2, h3⟩ := h2.row
  have R8 := hide h2
  have E8 := hide (E7.out.trans h3); have E58 := hide (E57.out.trans h3); clear h2 h3
  go_wp2_with fail
  refine (copy_any b B m d _ (Hb.out.ext E8.out) (by omega)).mono ?_
  intro e w9 h2
  obtain ⟨A9, c9, rfl, h2, h3⟩ := h2.row
  have R9 := hide h2
  have E9 := hide (E8.out.trans h3); have E89 := hide h3; have E59 := hide (E58.out.trans h3); clear h2 h3
  go_wp2_with fail
  refine (row_cmp a b A8 A9 n m c8 c9 _ (R8.out.ext E89.out) R9.out (by omega) (by omega)).mono ?_
  rintro e wA ⟨rfl, h1⟩
  have EA := hide (E9.out.trans h1); have E5A := hide (E59.out.trans h1); clear h1
  have Ba := fun w' (hE : Ext wA w') => hide (run_bytes_str (c := c3) (src := 38) (dst := 9) Tryd.underlying38 Tryd.underlying5 Tryd.underlying9 (Sl.ext R3.out (E35.out.trans (E5A.out.trans hE))))
  have Bb := fun w' (hE : Ext wA w') => hide (run_bytes_str (c := c5) (src := 38) (dst := 9) Tryd.underlying38 Tryd.underlying5 Tryd.underlying9 (Sl.ext R5.out (E5A.out.trans hE)))
  go_wp2_with fail
  refine wp_region_ext 6 (by kernel_rfl) (by kernel_rfl) (by kernel_rfl) ?_
  iterate 1
    refine wpE_k (by kernel_rfl) (by kernel_rfl) ?_
    apply Exists.intro
    refine ⟨fun w1 hw1 => ?_, fun K hK => ?_⟩
    · go_simp; first | done | rfl
    go_simp; refine hK _ _ ?_; clear hK K
  refine wpE_k (by kernel_rfl) (by kernel_rfl) ?_
  apply Exists.intro
  refine ⟨fun w1 hw1 => ?_, fun K hK => ?_⟩
  · show kUpon _ _ _ _
    rw [exec_convg rfl (Ba w1 hw1).out]
    exact ⟨rfl, rfl⟩
  go_simp; refine hK _ _ ?_; clear hK K
  iterate 1
    refine wpE_k (by kernel_rfl) (by kernel_rfl) ?_
    apply Exists.intro
    refine ⟨fun w1 hw1 => ?_, fun K hK => ?_⟩
    · go_simp; first | done | rfl
    go_simp; refine hK _ _ ?_; clear hK K
  refine wpE_k (by kernel_rfl) (by kernel_rfl) ?_
  apply Exists.intro
  refine ⟨fun w1 hw1 => ?_, fun K hK => ?_⟩
  · show kUpon _ _ _ _
    rw [exec_convg rfl (Bb w1 hw1).out]
    exact ⟨rfl, rfl⟩
  go_simp; refine hK _ _ ?_; clear hK K
  iterate 2
    refine wpE_k (by kernel_rfl) (by kernel_rfl) ?_
    apply Exists.intro
    refine ⟨fun w1 hw1 => ?_, fun K hK => ?_⟩
    · go_simp; first | done | rfl
    go_simp; refine hK _ _ ?_; clear hK K
  refine wpE_nil ⟨rfl, by kernel_rfl, fun wq hwq => ?_⟩
  simp only [EndQ]
  refine wpList_nil ?_
  have EB := hide (EA.out.trans hwq); clear hwq Ba Bb
  clear hPa hPb hVa hVb
  rcases isCmp_row.range a b with hz | hz | hz
  · have f1 : Op.bytesLess pa pb = true := by rw [less_cb, hcmp.out, hz]; rfl
    rw [hz]; clear hz
    go_wp2_with fail
    go_ret
    exact ⟨rfl, EB.out⟩
  · have f0 : pa = pb := (eq_cb pa pb).1 (hcmp.out.trans hz)
    have f1 : Op.bytesLess pa pb = false := by rw [less_cb, hcmp.out, hz]; rfl
    have f2 : (pa == pb) = true := by simpa using f0
    rw [hz]; clear hz f0
    go_wp2_with fail
    go_ret
    exact ⟨rfl, EB.out⟩
  · have f0 : pa ≠ pb := fun h => by have := (eq_cb pa pb).2 h; rw [hcmp.out, hz] at this; omega
    have f1 : Op.bytesLess pa pb = false := by rw [less_cb, hcmp.out, hz]; rfl
    have f2 : (pa == pb) = false := by simpa using f0
    rw [hz]; clear hz f0
    go_wp2_with fail
    go_ret
    exact ⟨rfl, EB.out⟩
end Go.Proofs.YtoahckibhmoikaaDoor
