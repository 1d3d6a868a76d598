import Derived.Test.YtoahckibhmoikaaDoorUnp
namespace Go.Proofs.YtoahckibhmoikaaDoor
open Go.RowKit

theorem own_cap {w : World} {base size n m c : Nat} {e : TypeId} {A : Option Addr} {xs : List Value} (h : w.ownsRow base e size (.slice A m c) n xs) : m = n ∧ n ≤ c := by
  rcases h.2 with ⟨hv, h0⟩ | ⟨g, cap, cur, hv, _, _, hc, _⟩
  · injection hv with _ h1 h2; omega
  · injection hv with _ h1 h2; omega
theorem RetBytesErr.bytes {w0 w' : World} {res : List UInt8 × Int} {en : Ending} (h : RetBytesErr w0 res en w') : ∃ A c, en = .returned (.tuple #[.slice A res.1.length c, .int .i64 res.2]) ∧ BytesAt w' A res.1.length res.1 ∧ res.1.length ≤ c ∧ Ext w0 w' := by
  obtain ⟨A, c, he, ho, hE⟩ := h
  exact ⟨A, c, he, Sl.own ho, (own_cap ho).2, hE⟩
theorem wfR_iff {r : List V} (h : wfR r) : ∀ v ∈ r, wfVI v := fun v hv => (h v hv).2
theorem dec_packR (r : List V) (hv : validR r = true) (hw : wfR r) : decR (packR r) = (r, 0) := by
  simp only [validR, Bool.and_eq_true, decide_eq_true_eq] at hv
  rw [decR, dec_pack 30 r hv.2 (wfR_iff hw) hv.1]

set_option maxRecDepth 100000 in
set_option maxHeartbeats 1000000 in
theorem law_back (r : List V) (A : Option Addr) (n c : Nat) (w : World) (ha : RowAt w A n r) (hn : n ≤ 1048576) (hs : smallR r) (hw : wfR r) :
    Calls Tryd.prog 10 #[.slice A n c] w fun e w' => e = .returned (.bool true) ∧ Ext w w' := by
  have Ha := hide ha; have Hs := hide hs; have Hw := hide hw; clear ha hs hw
  have hl := hide Ha.out.len
  have hP := fun A c w ha => hide (row_pack r A n c w ha hn Hs.out Hw.out)
  have hV := fun w ha => hide (ref_valid r A n c w ha hn Hs.out)
  by_cases hv : validR r = true
  rotate_left
  · have hv : validR r = false := by simpa using hv
    obtain ⟨x, Hp, hx1, hx2, hx0⟩ : ∃ x : Int, Hid (packRes r = ([], x)) ∧ 0 ≤ x ∧ x ≤ 100 ∧ (x != 0) = true := by
      unfold packRes
      by_cases h : 30 < r.length
      · exact ⟨20, if_pos h, by omega, by omega, rfl⟩
      · exact ⟨21, by rw [Hid, if_neg h, if_neg (by rw [hv]; simp)], by omega, by omega, rfl⟩
    have Hv := hide hv; clear hv
    simp only [Hp.out] at hP
    go_enter Tryd.func10, Tryd.ntmps10
    go_wp2_with fail
    refine (copy_any r A n c _ Ha.out (by omega)).mono ?_
    intro e w2 h2
    obtain ⟨A2, c2, rfl, h2, h3⟩ := h2.row
    have R2 := hide h2
    have E2 := hide h3; clear h2 h3
    go_wp2_with fail
    refine (hP A2 c2 _ R2.out).out.mono ?_
    intro e w3 h2
    obtain ⟨A3, c3, rfl, h2, hc3, h3⟩ := h2.bytes
    have E3 := hide (E2.out.trans h3); clear h2 h3
    go_wp2_with fail
    refine (hV _ (Ha.out.ext E3.out)).out.mono ?_
    rintro e w4 ⟨rfl, h1⟩
    have E4 := hide (E3.out.trans h1); clear h1
    rw [Hv.out]
    go_wp2_with fail
    refine (awake_any _).mono ?_
    rintro e w5 ⟨rfl, h1⟩
    have E5 := hide (E4.out.trans h1); clear h1
    go_wp2_with fail
    go_ret
    exact ⟨rfl, E5.out⟩
  · have Hv := hide hv; clear hv
    have h30 : n ≤ 30 := by have := Hv.out; simp only [validR, Bool.and_eq_true, decide_eq_true_eq] at this; have := hl.out; omega
    have Hp : Hid (packRes r = (packR r, 0)) := by
      unfold packRes
      rw [Hid, if_neg (by have := hl.out; omega), if_pos Hv.out]
    simp only [Hp.out] at hP
    have hlen : (packR r).length ≤ 3930 := by have := packRes_len r; rw [Hp.out] at this; exact this
    obtain ⟨q, Hq⟩ : ∃ q, Hid (q = packR r) := ⟨_, rfl⟩
    rw [← Hq.out] at hlen
    simp only [← Hq.out] at hP
    have HD := hide (show decR q = (r, 0) by rw [Hq.out]; exact dec_packR r Hv.out Hw.out)
    go_enter Tryd.func10, Tryd.ntmps10
    go_wp2_with fail
    refine (copy_any r A n c _ Ha.out (by omega)).mono ?_
    intro e w2 h2
    obtain ⟨A2, c2, rfl, h2, h3⟩ := h2.row
    have R2 := hide h2
    have E2 := hide h3; clear h2 h3
    go_wp2_with fail
    refine (hP A2 c2 _ R2.out).out.mono ?_
    intro e w3 h2
    obtain ⟨A3, c3, rfl, h2, hc3, h3⟩ := h2.bytes
    dsimp only at h2 hc3 ⊢
    have R3 := hide h2
    have E3 := hide (E2.out.trans h3); clear h2 h3
    go_wp2_with fail
    refine (hV _ (Ha.out.ext E3.out)).out.mono ?_
    rintro e w4 ⟨rfl, h1⟩
    have E4 := hide (E3.out.trans h1); have E34 := hide h1; clear h1
    rw [Hv.out]
    go_wp2_with fail
    refine (row_unpack q A3 _ c3 _ (R3.out.ext E34.out) (by omega) hc3).mono ?_
    intro e w5 h2
    rw [HD.out] at h2
    obtain ⟨A5, c5, rfl, h2, h3⟩ := h2.row
    dsimp only at h2 ⊢
    have R5 := hide h2
    have E5 := hide (E4.out.trans h3); clear h2 h3
    go_wp2_with fail
    refine (awake_any _).mono ?_
    rintro e w6 ⟨rfl, h1⟩
    have E6 := hide (E5.out.trans h1); have E56 := hide h1; clear h1
    go_wp2_with fail
    refine (same_any r r A5 A _ _ c5 c _ (R5.out.ext E56.out) (Ha.out.ext E6.out) (by have := hl.out; omega)).mono ?_
    rintro e w7 ⟨rfl, h1⟩
    have E7 := hide (E6.out.trans h1); clear h1
    rw [sameR_refl]
    go_wp2_with fail
    go_ret
    exact ⟨rfl, E7.out⟩
end Go.Proofs.YtoahckibhmoikaaDoor
