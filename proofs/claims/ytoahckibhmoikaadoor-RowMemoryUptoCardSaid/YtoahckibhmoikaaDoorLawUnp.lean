import Derived.Test.YtoahckibhmoikaaDoorUnp2
import Derived.Test.YtoahckibhmoikaaDoorLawForm
namespace Go.Proofs.YtoahckibhmoikaaDoor
open Go.RowKit

theorem decR_small (b : List UInt8) : (decR b).1.length ≤ 30 ∧ ((decR b).2 = 0 ∨ (decR b).2 = 22) := by
  unfold decR
  cases h : decGo 30 b with
  | none => exact ⟨by simp, .inr rfl⟩
  | some r =>
    obtain ⟨_, _, _, h4⟩ := dec_back 30 b r h
    exact ⟨h4, .inl rfl⟩
set_option maxRecDepth 100000 in
set_option maxHeartbeats 1000000 in
theorem law_unpacks (b : List UInt8) (A : Option Addr) (n c : Nat) (w : World) (ha : BytesAt w A n b) (hn : n ≤ 1048576) :
    Calls Tryd.prog 8 #[.slice A n c] w fun e w' => e = .returned (.bool true) ∧ Ext w w' := by
  have Ha := hide ha; have hl := hide ha.len; clear ha
  have B0 := fun w' (hE : Ext w w') => hide (run_bytes_str (c := c) (src := 38) (dst := 9) Tryd.underlying38 Tryd.underlying5 Tryd.underlying9 (Ha.out.ext hE))
  have S0 := fun w => run_str_bytes (P := Tryd.prog) w (src := 9) (dst := 38) b Tryd.underlying9 Tryd.underlying38 Tryd.underlying5
  have HR := hide (ref_unpack b A n c w Ha.out hn)
  rw [refR_eq] at HR
  have HU := fun A c w (h : BytesAt w A b.length b) (hc : b.length ≤ c) => hide (row_unpack b A b.length c w h (by have := hl.out; omega) hc)
  have hp := decR_small b
  obtain ⟨p, Hp⟩ : ∃ p, Hid (p = decR b) := ⟨_, rfl⟩
  simp only [← Hp.out] at HR HU hp
  obtain ⟨hp1, he⟩ := hp
  have he1 : 0 ≤ p.2 := by omega
  have he2 : p.2 ≤ 100 := by omega
  clear he
  go_enter Tryd.func8, Tryd.ntmps8
  go_wp2_with fail
  refine HR.out.mono ?_
  intro e w1 h2
  obtain ⟨A1, c1, rfl, h2, h3⟩ := h2.row
  have R1 := hide h2
  have E1 := hide h3; clear h2 h3
  have B1 := B0 w1 E1.out
  obtain ⟨w2, c2, h1, h2, h3, h4⟩ := S0 w1
  have S1 := hide h1; have R2 := hide h2; have C2 := hide h3; have E12 := hide h4; have E2 := hide (E1.out.trans h4)
  clear h1 h2 h3 h4 S0
  go_wp2_with (((with_reducible refine at_conv ?_); first | refine wpList_val rfl _ (exec_convg rfl B1.out) ?_ | refine wpList_valW rfl _ (exec_convW rfl S1.out) ?_))
  refine (HU _ c2 _ R2.out C2.out).out.mono ?_
  intro e w3 h2
  obtain ⟨A3, c3, rfl, h2, h3⟩ := h2.row
  have R3 := hide h2
  have E3 := hide (E2.out.trans h3); have E13 := hide (E12.out.trans h3); clear h2 h3
  go_wp2_with fail
  refine (awake_any _).mono ?_
  rintro e w4 ⟨rfl, h1⟩
  have E4 := hide (E3.out.trans h1); have E34 := hide h1; clear h1
  go_wp2_with fail
  refine (same_any p.1 p.1 A3 A1 _ _ c3 c1 _ (R3.out.ext E34.out) (R1.out.ext (E13.out.trans E34.out)) (by omega)).mono ?_
  rintro e w5 ⟨rfl, h1⟩
  have E5 := hide (E4.out.trans h1); clear h1
  rw [sameR_refl]
  go_wp2_with fail
  go_ret
  exact ⟨rfl, E5.out⟩
end Go.Proofs.YtoahckibhmoikaaDoor
