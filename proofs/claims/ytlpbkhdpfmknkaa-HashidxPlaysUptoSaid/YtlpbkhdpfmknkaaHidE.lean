/-
  hashidx: Keys of an empty index; HashidxNews.
-/
import Derived.Test.YtlpbkhdpfmknkaaHidA
import Derived.Test.YtlpbkhdpfmknkaaSort
namespace Go.Proofs.Ytlpbkhdpfmknkaa
open Go.RowKit

theorem sort_nil (w : World) (fv : Value) : Calls Try.prog 21 #[.slice none 0 0, fv] w fun e w' => e = .returned (.tuple #[]) ∧ w' = w := by
  have h := AnyF.slices_SortFunc_none (P := Try.prog) (ρ := Try.sortRows_ren) { Try.sortRows with } none 0 fv w
  exact h
set_option maxRecDepth 100000 in
theorem keys_empty {w : World} {B : Nat → Prop} {x most probes : Nat} (h : HIx w B x most probes []) :
    Calls Try.prog 14 #[.pointer (some ⟨x, 0, none⟩)] w fun e w' => e = .returned (.slice none 0 0) ∧ Ext w w' := by
  obtain ⟨tb, T, Ks, hI, hG, hE, h1, h2, h3, hne⟩ := h.at_
  have hno : ∀ (i : Nat) (p : Pl), T[i]? = some p → p.st ≠ 1 := fun i p hp hs => by
    have := hE.mem_iff.1 (mem_ents.2 ⟨i, p, hp, hs, rfl, rfl⟩)
    cases this
  have a4 : w.cell? ⟨x, 4, none⟩ = some (.slice (some ⟨tb, 0, none⟩) T.length T.length) := hI.blk.cell 4
  have HI := hide hI; have HNO := hide hno
  have hm := h.most
  have hTl : T.length ≤ 4194400 := by omega
  have hso := sort_nil
  clear h hI hno hG hE h1 h2 h3 hne
  have HSO := hide hso; clear hso
  go_enter Try.func14, Try.ntmps14
  go_wp2_with fail
  go_loopw [3, 11] (fun s3 s11 w' => ∃ i : Nat, i ≤ T.length ∧ s3 = .slice none 0 0 ∧ s11 = .int .i64 i ∧ Hid (Ext w w')) (fun _ s11 _ => T.length - (intOf s11).toNat)
  case atStart => exact ⟨0, by omega, rfl, rfl, Ext.refl _⟩
  case round =>
    obtain ⟨i, hin, rfl, rfl, hX⟩ := hrel
    clear a4
    by_cases h : i < T.length
    · obtain ⟨p, hp⟩ : ∃ p, T[i]? = some p := ⟨_, List.getElem?_eq_getElem h⟩
      obtain ⟨A5, n5, c5, b0, b1, b2, _⟩ := (HI.out.ext hX.out).tab.at_ hp
      have hs := HNO.out i p hp
      obtain ⟨st, pk, pn⟩ := p
      dsimp only at b0 b1 b2 hs
      clear hp
      go_upto_region 5 with fail
      have HE5 := hide (Ext.alloc wr (.cells #[.int .u8 (st : Int), .slice A5 n5 c5, .int .i64 pn] 56))
      have HB5 := hide (Blk.new wr 56 #[.int .u8 (st : Int), .slice A5 n5 c5, .int .i64 pn])
      generalize wr.alloc (.cells #[.int .u8 (st : Int), .slice A5 n5 c5, .int .i64 pn] 56) = W5 at *
      clear b0 b1 b2
      have q0 : W5.cell? ⟨wr.heap.size, 0, none⟩ = some (.int .u8 (st : Int)) := HB5.out.cell 0
      have h2 : ¬ ((st : Int) = 1) := by omega
      have hbq : ((st : Int) == 1) = false := by simpa using h2
      go_wp2_with fail
      go_roundw
      case rel => exact ⟨i + 1, by omega, rfl, by go_num, hX.out.trans HE5.out⟩
      case measure => simp [intOf]; omega
    · go_wp2_with fail
      refine (HSO.out _ _).mono ?_
      rintro e w5 ⟨rfl, rfl⟩
      go_wp2_with fail
      go_ret
      exact ⟨rfl, hX.out⟩

theorem good_any (most : Int) (w : World) : Calls Try.prog 12 #[.int .i64 most] w fun e w' => e = .returned (.bool (decide (1 ≤ most) && decide (most ≤ 1048576))) ∧ w' = w := by
  by_cases h1 : 1 ≤ most
  · go_enter Try.func12, Try.ntmps12
    go_wp2_with fail
    go_ret
    exact ⟨ret_bool (by simp; omega), rfl⟩
  · go_enter Try.func12, Try.ntmps12
    go_wp2_with fail
    go_ret
    exact ⟨ret_bool (by simp; omega), rfl⟩

set_option maxRecDepth 100000 in
theorem law_news (most : Int) (w : World) (_hx : -9223372036854775808 ≤ most ∧ most ≤ 9223372036854775807) : Calls Try.prog 4 #[.int .i64 most] w fun e w' => e = .returned (.bool true) ∧ Ext w w' := by
  have HGD := hide (good_any most)
  by_cases hg : 1 ≤ most ∧ most ≤ 1048576
  · obtain ⟨m, rfl⟩ : ∃ m : Nat, most = (m : Int) := ⟨most.toNat, by omega⟩
    have HN := hide (new_good m w (by omega) (by omega))
    have hgb : (decide (1 ≤ (m : Int)) && decide ((m : Int) ≤ 1048576)) = true := by simp; omega
    rw [hgb] at HGD
    clear hgb
    go_enter Try.func4, Try.ntmps4
    go_wp2_with fail
    refine HN.out.mono ?_
    rintro e w1 ⟨x, rfl, h1, x1⟩
    have H1 := hide h1; have X1 := hide x1; clear h1 x1
    go_wp2_with fail
    refine (HGD.out _).mono ?_
    rintro e w2 ⟨rfl, rfl⟩
    have HL := hide (len_any H1.out)
    have HQ := hide (probes_any H1.out)
    have HK := hide (keys_empty H1.out)
    go_wp2_with fail
    refine HL.out.mono ?_
    rintro e w3 ⟨rfl, rfl⟩
    go_wp2_with fail
    refine HQ.out.mono ?_
    rintro e w4 ⟨rfl, rfl⟩
    go_wp2_with fail
    refine HK.out.mono ?_
    rintro e w5 ⟨rfl, x5⟩
    have X5 := hide (X1.out.trans x5); clear x5
    go_wp2_with fail
    refine (awake_hid _).mono ?_
    rintro e w6 ⟨rfl, x6⟩
    have X6 := hide (X5.out.trans x6); clear x6
    go_wp2_with fail
    go_ret
    exact ⟨rfl, X6.out⟩
  · have HN := hide (new_bad most w (by omega))
    have hgb : (decide (1 ≤ most) && decide (most ≤ 1048576)) = false := by simp; omega
    rw [hgb] at HGD
    clear hgb
    go_enter Try.func4, Try.ntmps4
    go_wp2_with fail
    refine HN.out.mono ?_
    rintro e w1 ⟨rfl, rfl⟩
    go_wp2_with fail
    refine (HGD.out _).mono ?_
    rintro e w2 ⟨rfl, rfl⟩
    go_wp2_with fail
    refine (awake_hid _).mono ?_
    rintro e w6 ⟨rfl, x6⟩
    have X6 := hide x6; clear x6
    go_wp2_with fail
    go_ret
    exact ⟨rfl, X6.out⟩
end Go.Proofs.Ytlpbkhdpfmknkaa
