/-
  hashidx: one step of a play: the walk.
-/
import Derived.Test.YtlpbkhdpfmknkaaStepW
namespace Go.Proofs.Ytlpbkhdpfmknkaa
open Go.RowKit

set_option maxHeartbeats 4000000 in
set_option maxRecDepth 100000 in
theorem step_fn {w : World} {B R : Nat → Prop} {x d most p : Nat} (h : Two w B R x d most p) (hpr : p ≤ 1099511627776) (kind num : Int) (two : Bool) (key : ByteArray) (hk : key.size ≤ 1048576) :
    Calls Try.prog 16 #[.pointer (some ⟨x, 0, none⟩), .pointer (some ⟨d, 0, none⟩), .agg #[.int .i64 kind, .bool two, .string key, .int .i64 num]] w (StepPost w B R x d most p) := by
  have HOLD := hide h.old
  have HT := hide h
  clear h
  go_enter Try.func16, Try.ntmps16
  go_upto_region 1 with fail
  have HB1 := hide (Blk.new w 45 #[.int .i64 kind, .bool two, .string key, .int .i64 num])
  have HX1 := hide (Ext.alloc w (.cells #[.int .i64 kind, .bool two, .string key, .int .i64 num] 45))
  have HS1 := hide (show (w.alloc (.cells #[.int .i64 kind, .bool two, .string key, .int .i64 num] 45)).heap.size = w.heap.size + 1 from World.size_alloc ..)
  generalize w.alloc (.cells #[.int .i64 kind, .bool two, .string key, .int .i64 num] 45) = w1 at *
  have b2 : w1.cell? ⟨w.heap.size, 2, none⟩ = some (.string key) := HB1.out.cell 2
  obtain ⟨c2, w2, hcv, hX2, hz2, hB2⟩ := conv_str w1 key
  have HM := hide (StepMid.start HT.out HX1.out hX2 hB2 (by have := HS1.out; omega) b2)
  have HX2 := hide (HX1.out.trans hX2)
  have HBY := hide hB2
  have HZ2 := hide (show w1.heap.size < w2.heap.size by omega)
  have HKL := hide (show w.heap.size < w1.heap.size by have := HS1.out; omega)
  have HBX := hide (HB1.out.ext hX2)
  obtain ⟨kb, hkb⟩ : ∃ kb, kb = w1.heap.size := ⟨_, rfl⟩
  rw [← hkb] at HM HBY HZ2 HKL hcv
  clear hX2 hz2 hB2
  go_upto_region 3 with fail
  rw [← hkb]
  clear hcv hkb b2 HX1 HS1 HB1
  have b0 : w2.cell? ⟨w.heap.size, 0, none⟩ = some (.int .i64 kind) := HBX.out.cell 0
  have b2 : w2.cell? ⟨w.heap.size, 2, none⟩ = some (.string key) := HBX.out.cell 2
  have b3 : w2.cell? ⟨w.heap.size, 3, none⟩ = some (.int .i64 num) := HBX.out.cell 3
  have HKEY := hide (HBY.out.key (keyOf_len key).symm)
  by_cases h5 : kind = 5
  · subst h5
    have HKF := hide (keys_fn (HT.out.ext HX2.out))
    go_wp2_with fail
    refine HKF.out.mono ?_
    rintro e w3 ⟨rfl, x3⟩
    have HE := hide (show StepPost w B R x d most p (.returned (.bool true)) w3 from ⟨B, R, p, rfl, by omega, HT.out.ext (HX2.out.trans x3), fun g hg => .inl hg, Chg.of (HX2.out.trans x3)⟩)
    clear x3
    go_wp2_with fail
    go_ret
    exact HE.out
  · have hkind : kind = 1 ∨ kind = 2 ∨ kind = 3 ∨ kind = 4 ∨ kind = 6 ∨ (kind ≠ 1 ∧ kind ≠ 2 ∧ kind ≠ 3 ∧ kind ≠ 4 ∧ kind ≠ 6) := by omega
    rcases hkind with rfl | rfl | rfl | rfl | rfl | hother
    · obtain ⟨E, A, a, M, m, L, N, h1, h2, h3, h4⟩ := HT.out
      have h1w := h1.ext HX2.out
      have HPX := hide (put_any h1w (by omega) (keyOf key) num (some ⟨kb, 0, none⟩) key.size c2 HKEY.out (h1.aside (Nat.le_of_lt HKL.out)) (by omega))
      have HH := hide (And.intro h2 (And.intro h3 h4))
      clear h1 h1w h2 h3 h4
      go_wp2_with fail
      refine HPX.out.mono ?_
      rintro e w3 ⟨old, had, err, E', B', rfl, hr, h6, hB3, hC3⟩
      have h2w := (HH.out.1.ext HX2.out).far hC3 (fun g hr hb => HH.out.2.2 g hb hr)
      have HPD := hide (rput_any h2w (by omega) key num hk)
      have HH3 := hide (And.intro hr (And.intro h6 (And.intro hB3 hC3)))
      have b2' := b2
      have b2 : w3.cell? ⟨w.heap.size, 2, none⟩ = some (.string key) := hC3.cell b2 (fun hb => by have := HOLD.out _ (.inl hb); dsimp only at this; omega)
      have b3 : w3.cell? ⟨w.heap.size, 3, none⟩ = some (.int .i64 num) := hC3.cell b3 (fun hb => by have := HOLD.out _ (.inl hb); dsimp only at this; omega)
      clear hr h6 hB3 hC3 h2w HPX
      go_wp2_with fail
      refine HPD.out.mono ?_
      rintro e w4 ⟨old2, had2, err2, R', A', M', a', m', L', N', rfl, hr2, h7, hR5, hC5⟩
      obtain ⟨rfl, rfl, rfl, hA⟩ := agree_put HH.out.2.1 HH3.out.1 hr2
      have HMF := hide (StepMid.put (Nat.le_refl _) HOLD.out HX2.out HH3.out.2.1 HH3.out.2.2.1 HH3.out.2.2.2 h7 hR5 hC5 hA HH.out.2.2 HBY.out HKL.out HZ2.out b2')
      clear hr2 h7 hC5 HPD b0 b2 b3 b2' hA
      obtain ⟨w9, rfl⟩ : ∃ w9 : World, w9 = w4 := ⟨_, rfl⟩
      obtain ⟨_, _, _, _, _, _, _, hby, hkw, hbox, hne⟩ := HMF.out
      have hcv : (convert 30 9 (.slice (some ⟨kb, 0, none⟩) key.size c2)).run Try.prog w9 = .ok (.string key) w9 := by
        have := key_conv (hby.key (keyOf_len key).symm) c2
        rwa [keyOf_text] at this
      have HWR := hide (keyOf_len key ▸ hby.wr)
      clear hby hkw hne
      go_wp2_with fail
      clear hcv hbox
      go_loopw [98] (fun s98 w' => ∃ i : Nat, i ≤ key.size ∧ s98 = .int .i64 i ∧ Hid (WrAt w' kb key.size) ∧ Hid (Chg (fun g => g = kb) w9 w')) (fun s98 _ => key.size - (intOf s98).toNat)
      case atStart => exact ⟨0, by omega, rfl, HWR.out, Chg.refl _ _⟩
      case round =>
        obtain ⟨i, hi, rfl, hW, hC⟩ := hrel
        clear HWR
        by_cases hil : i < key.size
        · obtain ⟨z, z1, z2, z3⟩ := hW.out.get hil
          have HZ3 := hide z3
          clear z3
          go_wp2_with fail
          go_roundw
          case rel => exact ⟨i + 1, by omega, by go_num, HZ3.out _, hC.out.setCell (p := ⟨kb, i, none⟩) (.inl rfl) _⟩
          case measure => simp [intOf]; omega
        · have HE := hide (HMF.out.done HOLD.out hC.out)
          go_wp2_with fail
          go_ret
          exact HE.out
    · obtain ⟨E, A, a, M, m, L, N, h1, h2, h3, h4⟩ := HT.out
      have h1w := h1.ext HX2.out
      have HPX := hide (get_any h1w (by omega) (keyOf key) (some ⟨kb, 0, none⟩) key.size c2 HKEY.out (h1.aside (Nat.le_of_lt HKL.out)) (by omega))
      have HH := hide (And.intro h2 (And.intro h3 h4))
      clear h1 h1w h2 h3 h4
      go_wp2_with fail
      refine HPX.out.mono ?_
      rintro e w3 ⟨r, rfl, hr, h6, hC3⟩
      have hB3 : ∀ b, B b → B b ∨ w2.heap.size ≤ b := fun b hb => .inl hb
      have h2w := (HH.out.1.ext HX2.out).far hC3 (fun g hr hb => HH.out.2.2 g hb hr)
      have HPD := hide (rget_any h2w (by omega) key hk)
      have HH3 := hide (And.intro hr (And.intro h6 (And.intro hB3 hC3)))
      have b2' := b2
      have b2 : w3.cell? ⟨w.heap.size, 2, none⟩ = some (.string key) := hC3.cell b2 (fun hb => by have := HOLD.out _ (.inl hb); dsimp only at this; omega)
      have b3 : w3.cell? ⟨w.heap.size, 3, none⟩ = some (.int .i64 num) := hC3.cell b3 (fun hb => by have := HOLD.out _ (.inl hb); dsimp only at this; omega)
      clear hr h6 hB3 hC3 h2w HPX
      go_wp2_with fail
      refine HPD.out.mono ?_
      rintro e w4 ⟨v, b, rfl, hr2, h7, hC5⟩
      obtain ⟨e1, e2⟩ := agree_get HH.out.2.1 HH3.out.1 hr2
      rw [e1, e2]
      clear e1 e2
      have hA := HH.out.2.1
      have hR5 : ∀ b, R b → R b ∨ w3.heap.size ≤ b := fun b hb => .inl hb
      have HMF := hide (StepMid.put (Nat.le_refl _) HOLD.out HX2.out HH3.out.2.1 HH3.out.2.2.1 HH3.out.2.2.2 h7 hR5 hC5 hA HH.out.2.2 HBY.out HKL.out HZ2.out b2')
      clear hr2 h7 hC5 HPD b0 b2 b3 b2' hA
      obtain ⟨w9, rfl⟩ : ∃ w9 : World, w9 = w4 := ⟨_, rfl⟩
      obtain ⟨_, _, _, _, _, _, _, hby, hkw, hbox, hne⟩ := HMF.out
      have hcv : (convert 30 9 (.slice (some ⟨kb, 0, none⟩) key.size c2)).run Try.prog w9 = .ok (.string key) w9 := by
        have := key_conv (hby.key (keyOf_len key).symm) c2
        rwa [keyOf_text] at this
      have HWR := hide (keyOf_len key ▸ hby.wr)
      clear hby hkw hne
      go_wp2_with fail
      clear hcv hbox
      go_loopw [98] (fun s98 w' => ∃ i : Nat, i ≤ key.size ∧ s98 = .int .i64 i ∧ Hid (WrAt w' kb key.size) ∧ Hid (Chg (fun g => g = kb) w9 w')) (fun s98 _ => key.size - (intOf s98).toNat)
      case atStart => exact ⟨0, by omega, rfl, HWR.out, Chg.refl _ _⟩
      case round =>
        obtain ⟨i, hi, rfl, hW, hC⟩ := hrel
        clear HWR
        by_cases hil : i < key.size
        · obtain ⟨z, z1, z2, z3⟩ := hW.out.get hil
          have HZ3 := hide z3
          clear z3
          go_wp2_with fail
          go_roundw
          case rel => exact ⟨i + 1, by omega, by go_num, HZ3.out _, hC.out.setCell (p := ⟨kb, i, none⟩) (.inl rfl) _⟩
          case measure => simp [intOf]; omega
        · have HE := hide (HMF.out.done HOLD.out hC.out)
          go_wp2_with fail
          go_ret
          exact HE.out
    · obtain ⟨E, A, a, M, m, L, N, h1, h2, h3, h4⟩ := HT.out
      have h1w := h1.ext HX2.out
      have HPX := hide (delete_any h1w (by omega) (keyOf key) (some ⟨kb, 0, none⟩) key.size c2 HKEY.out (h1.aside (Nat.le_of_lt HKL.out)) (by omega))
      have HH := hide (And.intro h2 (And.intro h3 h4))
      clear h1 h1w h2 h3 h4
      go_wp2_with fail
      refine HPX.out.mono ?_
      rintro e w3 ⟨r, rfl, hr, ⟨E', hE', h6⟩, hC3⟩
      have hB3 : ∀ b, B b → B b ∨ w2.heap.size ≤ b := fun b hb => .inl hb
      have HDEL := hide (show (∀ u, r = some u → List.Perm E ((keyOf key, u) :: E')) ∧ (r = none → E' = E) from ⟨fun u hu => by subst hu; exact hE', fun hu => by subst hu; exact hE'⟩)
      clear hE'
      have h2w := (HH.out.1.ext HX2.out).far hC3 (fun g hr hb => HH.out.2.2 g hb hr)
      have HPD := hide (rdelete_any h2w (by omega) key hk)
      have HH3 := hide (And.intro hr (And.intro h6 (And.intro hB3 hC3)))
      have b2' := b2
      have b2 : w3.cell? ⟨w.heap.size, 2, none⟩ = some (.string key) := hC3.cell b2 (fun hb => by have := HOLD.out _ (.inl hb); dsimp only at this; omega)
      have b3 : w3.cell? ⟨w.heap.size, 3, none⟩ = some (.int .i64 num) := hC3.cell b3 (fun hb => by have := HOLD.out _ (.inl hb); dsimp only at this; omega)
      clear hr h6 hB3 hC3 h2w HPX
      go_wp2_with fail
      refine HPD.out.mono ?_
      rintro e w4 ⟨v, b, L', N', rfl, hr2, h7, hC5⟩
      obtain ⟨e1, e2, hA⟩ := agree_del HH.out.2.1 HH3.out.1 HDEL.out.1 HDEL.out.2 hr2
      rw [e1, e2]
      clear e1 e2
      have hR5 : ∀ b, R b → R b ∨ w3.heap.size ≤ b := fun b hb => .inl hb
      have HMF := hide (StepMid.put (Nat.le_refl _) HOLD.out HX2.out HH3.out.2.1 HH3.out.2.2.1 HH3.out.2.2.2 h7 hR5 hC5 hA HH.out.2.2 HBY.out HKL.out HZ2.out b2')
      clear hr2 h7 hC5 HPD b0 b2 b3 b2' hA
      obtain ⟨w9, rfl⟩ : ∃ w9 : World, w9 = w4 := ⟨_, rfl⟩
      obtain ⟨_, _, _, _, _, _, _, hby, hkw, hbox, hne⟩ := HMF.out
      have hcv : (convert 30 9 (.slice (some ⟨kb, 0, none⟩) key.size c2)).run Try.prog w9 = .ok (.string key) w9 := by
        have := key_conv (hby.key (keyOf_len key).symm) c2
        rwa [keyOf_text] at this
      have HWR := hide (keyOf_len key ▸ hby.wr)
      clear hby hkw hne
      go_wp2_with fail
      clear hcv hbox
      go_loopw [98] (fun s98 w' => ∃ i : Nat, i ≤ key.size ∧ s98 = .int .i64 i ∧ Hid (WrAt w' kb key.size) ∧ Hid (Chg (fun g => g = kb) w9 w')) (fun s98 _ => key.size - (intOf s98).toNat)
      case atStart => exact ⟨0, by omega, rfl, HWR.out, Chg.refl _ _⟩
      case round =>
        obtain ⟨i, hi, rfl, hW, hC⟩ := hrel
        clear HWR
        by_cases hil : i < key.size
        · obtain ⟨z, z1, z2, z3⟩ := hW.out.get hil
          have HZ3 := hide z3
          clear z3
          go_wp2_with fail
          go_roundw
          case rel => exact ⟨i + 1, by omega, by go_num, HZ3.out _, hC.out.setCell (p := ⟨kb, i, none⟩) (.inl rfl) _⟩
          case measure => simp [intOf]; omega
        · have HE := hide (HMF.out.done HOLD.out hC.out)
          go_wp2_with fail
          go_ret
          exact HE.out
    · obtain ⟨E, A, a, M, m, L, N, h1, h2, h3, h4⟩ := HT.out
      have HLX := hide (fun w1 (hw1 : Ext w2 w1) => len_any (h1.ext (HX2.out.trans hw1)))
      rw [h3.eLen] at HLX
      have a2 := cell_ext (show w2.cell? ⟨d, 2, none⟩ = some (.slice A L.length a) from (h2.ext HX2.out).blk.cell 2)
      have hLl : L.length ≤ 1048576 := by have := h2.most; omega
      clear h1 h2 h3 h4
      go_wp2_with fail
      refine wp_region_ext 9 (by kernel_rfl) (by kernel_rfl) (by kernel_rfl) ?_
      iterate 9
        refine wpE_k (by kernel_rfl) (by kernel_rfl) ?_
        apply Exists.intro
        refine ⟨fun w1 hw1 => ?_, fun K hK => ?_⟩
        · go_simp; first | done | rfl | exact (HLX.out w1 hw1).mono fun _ _ h => ⟨h.1, h.2 ▸ Ext.refl _⟩
        go_simp; refine hK _ _ ?_; clear hK K
      refine wpE_nil ⟨rfl, by kernel_rfl, fun wq hwq => ?_⟩
      simp only [EndQ]
      refine wpList_nil ?_
      have HMF := hide (show StepMid w B R x d most p kb key wq from by
        obtain ⟨B', R', p', g1, g2, g3, g4, g5, g6, g7, g8⟩ := HM.out
        exact ⟨B', R', p', g1, g2.ext hwq, g3, g4.trans' (Chg.of hwq), g5.far (C := fun _ => False) (Chg.of hwq) (fun x => x), g6, hwq.cell g7, g8⟩)
      clear b0 b2 b3 a2 hwq HLX
      obtain ⟨w9, rfl⟩ : ∃ w9 : World, w9 = wq := ⟨_, rfl⟩
      obtain ⟨_, _, _, _, _, _, _, hby, hkw, hbox, hne⟩ := HMF.out
      have hcv : (convert 30 9 (.slice (some ⟨kb, 0, none⟩) key.size c2)).run Try.prog w9 = .ok (.string key) w9 := by
        have := key_conv (hby.key (keyOf_len key).symm) c2
        rwa [keyOf_text] at this
      have HWR := hide (keyOf_len key ▸ hby.wr)
      clear hby hkw hne
      go_wp2_with fail
      clear hcv hbox
      go_loopw [98] (fun s98 w' => ∃ i : Nat, i ≤ key.size ∧ s98 = .int .i64 i ∧ Hid (WrAt w' kb key.size) ∧ Hid (Chg (fun g => g = kb) w9 w')) (fun s98 _ => key.size - (intOf s98).toNat)
      case atStart => exact ⟨0, by omega, rfl, HWR.out, Chg.refl _ _⟩
      case round =>
        obtain ⟨i, hi, rfl, hW, hC⟩ := hrel
        clear HWR
        by_cases hil : i < key.size
        · obtain ⟨z, z1, z2, z3⟩ := hW.out.get hil
          have HZ3 := hide z3
          clear z3
          go_wp2_with fail
          go_roundw
          case rel => exact ⟨i + 1, by omega, by go_num, HZ3.out _, hC.out.setCell (p := ⟨kb, i, none⟩) (.inl rfl) _⟩
          case measure => simp [intOf]; omega
        · have HE := hide (HMF.out.done HOLD.out hC.out)
          go_wp2_with fail
          go_ret
          exact HE.out
    · obtain ⟨E, A, a, M, m, L, N, h1, h2, h3, h4⟩ := HT.out
      have h1w := h1.ext HX2.out
      have HPX := hide (hclear_any h1w)
      have HH := hide (And.intro h2 (And.intro h3 h4))
      clear h1 h1w h2 h3 h4
      go_wp2_with fail
      refine HPX.out.mono ?_
      rintro e w3 ⟨rfl, h6, hC3⟩
      have hB3 : ∀ b, B b → B b ∨ w2.heap.size ≤ b := fun b hb => .inl hb
      have hr := hB3
      have h2w := (HH.out.1.ext HX2.out).far hC3 (fun g hr hb => HH.out.2.2 g hb hr)
      have HPD := hide (rclear_any h2w)
      have HH3 := hide (And.intro hr (And.intro h6 (And.intro hB3 hC3)))
      have b2' := b2
      have b2 : w3.cell? ⟨w.heap.size, 2, none⟩ = some (.string key) := hC3.cell b2 (fun hb => by have := HOLD.out _ (.inl hb); dsimp only at this; omega)
      have b3 : w3.cell? ⟨w.heap.size, 3, none⟩ = some (.int .i64 num) := hC3.cell b3 (fun hb => by have := HOLD.out _ (.inl hb); dsimp only at this; omega)
      clear hr h6 hB3 hC3 h2w HPX
      go_wp2_with fail
      refine HPD.out.mono ?_
      rintro e w4 ⟨rfl, h7, hC5⟩
      have hR5 : ∀ b, R b → R b ∨ w3.heap.size ≤ b := fun b hb => .inl hb
      have hr2 := hR5
      have hA : Agree [] [] [] := ⟨.nil, rfl, List.Pairwise.nil⟩
      have HMF := hide (StepMid.put (Nat.le_succ _) HOLD.out HX2.out HH3.out.2.1 HH3.out.2.2.1 HH3.out.2.2.2 h7 hR5 hC5 hA HH.out.2.2 HBY.out HKL.out HZ2.out b2')
      clear hr2 h7 hC5 HPD b0 b2 b3 b2' hA
      obtain ⟨w9, rfl⟩ : ∃ w9 : World, w9 = w4 := ⟨_, rfl⟩
      obtain ⟨_, _, _, _, _, _, _, hby, hkw, hbox, hne⟩ := HMF.out
      have hcv : (convert 30 9 (.slice (some ⟨kb, 0, none⟩) key.size c2)).run Try.prog w9 = .ok (.string key) w9 := by
        have := key_conv (hby.key (keyOf_len key).symm) c2
        rwa [keyOf_text] at this
      have HWR := hide (keyOf_len key ▸ hby.wr)
      clear hby hkw hne
      go_wp2_with fail
      clear hcv hbox
      go_loopw [98] (fun s98 w' => ∃ i : Nat, i ≤ key.size ∧ s98 = .int .i64 i ∧ Hid (WrAt w' kb key.size) ∧ Hid (Chg (fun g => g = kb) w9 w')) (fun s98 _ => key.size - (intOf s98).toNat)
      case atStart => exact ⟨0, by omega, rfl, HWR.out, Chg.refl _ _⟩
      case round =>
        obtain ⟨i, hi, rfl, hW, hC⟩ := hrel
        clear HWR
        by_cases hil : i < key.size
        · obtain ⟨z, z1, z2, z3⟩ := hW.out.get hil
          have HZ3 := hide z3
          clear z3
          go_wp2_with fail
          go_roundw
          case rel => exact ⟨i + 1, by omega, by go_num, HZ3.out _, hC.out.setCell (p := ⟨kb, i, none⟩) (.inl rfl) _⟩
          case measure => simp [intOf]; omega
        · have HE := hide (HMF.out.done HOLD.out hC.out)
          go_wp2_with fail
          go_ret
          exact HE.out
    · obtain ⟨n1, n2, n3, n4, n6⟩ := hother
      have m1 : (kind == 1) = false := by simpa using n1
      have m2 : (kind == 2) = false := by simpa using n2
      have m3 : (kind == 3) = false := by simpa using n3
      have m4 : (kind == 4) = false := by simpa using n4
      have m5 : (kind == 5) = false := by simpa using h5
      have m6 : (kind == 6) = false := by simpa using n6
      have HMF := HM
      go_upto_region 20 with fail
      clear b0 b2 b3
      obtain ⟨w9, rfl⟩ : ∃ w9 : World, w9 = w2 := ⟨_, rfl⟩
      obtain ⟨_, _, _, _, _, _, _, hby, hkw, hbox, hne⟩ := HMF.out
      have hcv : (convert 30 9 (.slice (some ⟨kb, 0, none⟩) key.size c2)).run Try.prog w9 = .ok (.string key) w9 := by
        have := key_conv (hby.key (keyOf_len key).symm) c2
        rwa [keyOf_text] at this
      have HWR := hide (keyOf_len key ▸ hby.wr)
      clear hby hkw hne
      go_wp2_with fail
      clear hcv hbox
      go_loopw [98] (fun s98 w' => ∃ i : Nat, i ≤ key.size ∧ s98 = .int .i64 i ∧ Hid (WrAt w' kb key.size) ∧ Hid (Chg (fun g => g = kb) w9 w')) (fun s98 _ => key.size - (intOf s98).toNat)
      case atStart => exact ⟨0, by omega, rfl, HWR.out, Chg.refl _ _⟩
      case round =>
        obtain ⟨i, hi, rfl, hW, hC⟩ := hrel
        clear HWR
        by_cases hil : i < key.size
        · obtain ⟨z, z1, z2, z3⟩ := hW.out.get hil
          have HZ3 := hide z3
          clear z3
          go_wp2_with fail
          go_roundw
          case rel => exact ⟨i + 1, by omega, by go_num, HZ3.out _, hC.out.setCell (p := ⟨kb, i, none⟩) (.inl rfl) _⟩
          case measure => simp [intOf]; omega
        · have HE := hide (HMF.out.done HOLD.out hC.out)
          go_wp2_with fail
          go_ret
          exact HE.out
end Go.Proofs.Ytlpbkhdpfmknkaa
