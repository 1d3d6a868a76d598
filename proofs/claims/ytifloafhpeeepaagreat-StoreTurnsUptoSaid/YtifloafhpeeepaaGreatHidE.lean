/-
  hashidx: Keys of an empty index; HashidxNews.
-/
import Derived.Test.YtifloafhpeeepaaGreatHidA
import Derived.Test.YtifloafhpeeepaaGreatSort
namespace Go.Proofs.YtifloafhpeeepaaGreat
open Go.RowKit

theorem sort_nil (w : World) (fv : Value) : Calls Tryz.prog 90 #[.slice none 0 0, fv] w fun e w' => e = .returned (.tuple #[]) ∧ w' = w := by
  have h := AnyF.slices_SortFunc_none (P := Tryz.prog) (ρ := Tryz.sortRows_ren) { Tryz.sortRows with } none 0 fv w
  exact h
set_option maxRecDepth 100000 in
theorem keys_empty {w : World} {B : Nat → Prop} {x most probes : Nat} (h : HIx w B x most probes []) :
    Calls Tryz.prog 48 #[.pointer (some ⟨x, 0, none⟩)] w fun e w' => e = .returned (.slice none 0 0) ∧ Ext w w' := by
  obtain ⟨tb, T, Ks, hI, hG, hE, h1, h2, h3, hne⟩ := h.at_
  have hno : ∀ (i : Nat) (p : Pl), T[i]? = some p → p.st ≠ 1 := fun i p hp hs => by
    have := hE.mem_iff.1 (mem_ents.2 ⟨i, p, hp, hs, rfl, rfl⟩)
    cases this
  have a4 : w.cell? ⟨x, 4, none⟩ = some (.slice (some ⟨tb, 0, none⟩) T.length T.length) := hI.blk.cell 4
  have HI := hide hI; have HNO := hide hno
  have hm := h.most
  have hTl : T.length ≤ 4194400 := by omega
  have hso := sort_nil
  clear h hI hno hG hE h1 h2 h3 hne
  have HSO := hide hso; clear hso
  go_enter Tryz.func48, Tryz.ntmps48
  go_wp2_with fail
  go_loopw [3, 11] (fun s3 s11 w' => ∃ i : Nat, i ≤ T.length ∧ s3 = .slice none 0 0 ∧ s11 = .int .i64 i ∧ Hid (Ext w w')) (fun _ s11 _ => T.length - (intOf s11).toNat)
  case atStart => exact ⟨0, by omega, rfl, rfl, Ext.refl _⟩
  case round =>
    obtain ⟨i, hin, rfl, rfl, hX⟩ := hrel
    clear a4
    by_cases h : i < T.length
    · obtain ⟨p, hp⟩ : ∃ p, T[i]? = some p := ⟨_, List.getElem?_eq_getElem h⟩
      obtain ⟨A5, n5, c5, b0, b1, b2, _⟩ := (HI.out.ext hX.out).tab.at_ hp
      have hs := HNO.out i p hp
      obtain ⟨st, pk, pn⟩ := p
      dsimp only at b0 b1 b2 hs
      clear hp
      go_upto_region 5 with fail
      have HE5 := hide (Ext.alloc wr (.cells #[.int .u8 (st : Int), .slice A5 n5 c5, .int .i64 pn] 151))
      have HB5 := hide (Blk.new wr 151 #[.int .u8 (st : Int), .slice A5 n5 c5, .int .i64 pn])
      generalize wr.alloc (.cells #[.int .u8 (st : Int), .slice A5 n5 c5, .int .i64 pn] 151) = W5 at *
      clear b0 b1 b2
      have q0 : W5.cell? ⟨wr.heap.size, 0, none⟩ = some (.int .u8 (st : Int)) := HB5.out.cell 0
      have h2 : ¬ ((st : Int) = 1) := by omega
      have hbq : ((st : Int) == 1) = false := by simpa using h2
      go_wp2_with fail
      go_roundw
      case rel => exact ⟨i + 1, by omega, rfl, by go_num, hX.out.trans HE5.out⟩
      case measure => simp [intOf]; omega
    · go_wp2_with fail
      refine (HSO.out _ _).mono ?_
      rintro e w5 ⟨rfl, rfl⟩
      go_wp2_with fail
      go_ret
      exact ⟨rfl, hX.out⟩

end Go.Proofs.YtifloafhpeeepaaGreat
