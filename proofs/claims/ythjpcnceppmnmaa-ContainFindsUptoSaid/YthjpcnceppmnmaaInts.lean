/-
  Numbers in rows of a call's own, by the document: copied, compared.
-/
import Derived.Test.YthjpcnceppmnmaaCon
namespace Go.Proofs.Ythjpcnceppmnmaa
open Go.RowKit
/-- natural numbers lie there -/
def RN : World → List Value → Nat → Prop := RFlat fun (j : Nat) => [.int .i64 (j : Int)]
theorem RN.stab : Stab RN := RFlat.stab _
theorem rn_flat : ∀ im : List Nat, im.flatMap (fun (j : Nat) => [Value.int .i64 (j : Int)]) = intC im
  | [] => rfl
  | j :: im => by rw [List.flatMap_cons, rn_flat im]; rfl
theorem intC_els (w : World) (im : List Nat) : Els RN 1 w (intC im) im := by
  have := Els.flat (f := fun (j : Nat) => [Value.int .i64 (j : Int)]) (s := 1) (w := w) (fun _ => rfl) (fun x v h => by obtain rfl := List.mem_singleton.1 h; rfl) im
  rwa [rn_flat] at this
theorem LAt.num {w : World} {A : Option Addr} {n : Nat} {xs : List Nat} (h : LAt RN 1 w A n xs) {i : Nat} (hi : i < n) : ∃ b off x, A = some ⟨b, off, none⟩ ∧ xs[i]? = some x ∧ b < w.heap.size ∧ w.cell? ⟨b, off + i, none⟩ = some (.int .i64 (x : Int)) := by
  obtain ⟨b, off, x, cs, h1, h2, h3, h4, h5, h6, h7⟩ := h.get (by decide) hi
  have : cs = [.int .i64 (x : Int)] := h6
  subst this
  exact ⟨b, off, x, h1, h2, h3, by have := h7 0 (by decide); simpa using this⟩
theorem LAt.sln {w : World} {A : Option Addr} {n : Nat} {xs : List Nat} (h : LAt RN 1 w A n xs) : Sl w A n 1 (intC xs) := by
  obtain ⟨_, cells, h2, h3⟩ := h
  have : cells = intC xs := h2.flat_eq.trans (rn_flat xs)
  rw [← this]; exact h3
theorem own_num {w : World} {base n c : Nat} {A : Option Addr} {im : List Nat} (hl : n = im.length) (h : w.ownsRow base 3 1 (.slice A n c) n (intC im)) : LAt RN 1 w A n im := LAt.own hl (intC_els w im) h

theorem sizeI2 : (Try.prog.info? 3).map (·.size) = some 1 := by kernel_rfl
set_option maxRecDepth 100000 in
theorem ints_n (im : List Nat) (A : Option Addr) (n c : Nat) (w : World) (ha : LAt RN 1 w A n im) (hn : n ≤ 16777216) :
    Calls Try.prog 66 #[.slice A n c] w (RetOwn w 3 1 n (intC im)) := by
  obtain ⟨i0, hi0, hz0, hz1, hz2⟩ := info_parts infoI2
  have hmk := run_make_n (P := Try.prog) 27 3 i0 _ Try.underlying27 hi0 hz0 (by omega) .i64 .i64 n hn
  simp only [hz1] at hmk
  have Ha := hide ha.sln; clear ha hz1 hz2 hz0 hi0
  have hone := (intC_els w im).one
  have HO := hide hone; clear hone
  go_enter Try.func66, Try.ntmps66
  go_wp2_with (refine wpList_copy_sl rfl (.tmp 7) (.tmp 8) 27 27 rfl 3 1 Try.underlying27 sizeI2 A w.heap.size 0 n n n c rfl rfl _ 3 (heap_alloc_new w _) (intC im) (Ha.out.ext (Ext.alloc w _)) (Nat.le_refl _) (by rw [size_madeCells, Nat.zero_add, Ha.out.1]; omega) HO.out w (Ext.alloc w _) (Nat.le_refl _) ?_; intro w1 hg1 hE1 hs1)
  go_ret
  refine ⟨_, _, rfl, ?_, hE1.out⟩
  have hl := Ha.out.1
  have hg := hg1.out
  rw [splice_all (by rw [Array.length_toList, size_madeCells]; omega)] at hg
  refine ⟨hl, .inr ⟨w.heap.size, n, _, rfl, Nat.le_refl _, hg, Nat.le_refl _, by unfold maxLen; omega, by simpa using hl, ?_⟩⟩
  exact List.take_of_length_le (Nat.le_of_eq hl)

def eqN (a b : Nat) : Bool := decide (a = b)
theorem sameBy_eqN : ∀ (r s : List Nat), sameBy eqN r s = true ↔ r = s := fun _ _ => sameBy_iff (p := eqN) (fun a b => by simp [eqN])

set_option maxRecDepth 100000 in
theorem same_ints (r s : List Nat) (A B : Option Addr) (n m c d : Nat) (w : World) (ha : LAt RN 1 w A n r) (hb : LAt RN 1 w B m s) (hn : n ≤ 1125899906842624) :
    Calls Try.prog 16 #[.slice A n c, .slice B m d] w fun e w' => e = .returned (.bool (sameBy eqN r s)) ∧ Ext w w' := by
  have Ha := hide ha; have Hb := hide hb; clear ha hb
  by_cases hl : n = m
  · subst hl
    have hne : ((n : Int) != (n : Int)) = false := by simp
    go_enter Try.func16, Try.ntmps16
    go_wp2
    go_loopw [4, 5] (fun _ k w' => ∃ i : Nat, i ≤ n ∧ k = .int .i64 i ∧ Hid (sameBy eqN r s = sameBy eqN (r.drop i) (s.drop i)) ∧ Hid (Ext w w')) (fun _ k _ => n - (intOf k).toNat)
    case atStart => exact ⟨0, by omega, rfl, rfl, Ext.refl _⟩
    case round =>
      obtain ⟨i, hin, rfl, ho, hw⟩ := hrel
      by_cases h : i < n
      · obtain ⟨b, off, x, rfl, hx, hb1, c0⟩ := (Ha.out.ext RN.stab hw.out).num h
        obtain ⟨b', off', y, rfl, hy, hb2, d0⟩ := (Hb.out.ext RN.stab hw.out).num h
        have hd := hide (sameBy_drop (p := eqN) r s i x y hx hy); clear hx hy
        have c0 := cell_ext c0
        have d0 := cell_ext d0
        by_cases he : x = y
        · subst he
          have He := hide (show eqN x x = true by simp [eqN])
          go_wp2_with fail
          refine wp_region_ext 9 (by kernel_rfl) (by kernel_rfl) (by kernel_rfl) ?_
          iterate 9
            refine wpE_k (by kernel_rfl) (by kernel_rfl) ?_
            apply Exists.intro
            refine ⟨fun w1 hw1 => ?_, fun K hK => ?_⟩
            · go_simp; first | done | rfl
            go_simp; refine hK _ _ ?_; clear hK K
          refine wpE_nil ⟨rfl, by kernel_rfl, fun wq hwq => ?_⟩
          simp only [EndQ]
          refine wpList_nil ?_
          have HF := hide (hw.out.trans hwq); clear hwq c0 d0
          go_wp2_with fail
          go_roundw
          case rel => exact ⟨i + 1, by omega, by go_num, by rw [Hid, ho.out, hd.out, He.out]; simp, HF.out⟩
          case measure => simp [intOf]; omega
        · have He := hide (show eqN x y = false by simp [eqN, he])
          have he2 : ((x : Int) != (y : Int)) = true := by simp; omega
          go_wp2_with fail
          refine wp_region_ext 9 (by kernel_rfl) (by kernel_rfl) (by kernel_rfl) ?_
          iterate 9
            refine wpE_k (by kernel_rfl) (by kernel_rfl) ?_
            apply Exists.intro
            refine ⟨fun w1 hw1 => ?_, fun K hK => ?_⟩
            · go_simp; first | done | rfl
            go_simp; refine hK _ _ ?_; clear hK K
          refine wpE_nil ⟨rfl, by kernel_rfl, fun wq hwq => ?_⟩
          simp only [EndQ]
          refine wpList_nil ?_
          have HF := hide (hw.out.trans hwq); clear hwq c0 d0
          go_wp2_with fail
          go_ret
          exact ⟨ret_bool (by rw [ho.out, hd.out, He.out]; simp), HF.out⟩
      · have hlen := hide (And.intro Ha.out.len Hb.out.len)
        go_wp2_with fail
        go_ret
        exact ⟨ret_bool (by rw [ho.out, List.drop_of_length_le (by have := hlen.out; omega), List.drop_of_length_le (by have := hlen.out; omega)]; rfl), hw.out⟩
  · have hne : ((n : Int) != (m : Int)) = true := by simp; omega
    have hs := hide (sameBy_len (p := eqN) (r := r) (s := s) (by have := Ha.out.len; have := Hb.out.len; omega))
    go_enter Try.func16, Try.ntmps16
    go_wp2
    go_ret
    exact ⟨ret_bool hs.out.symm, Ext.refl _⟩
end Go.Proofs.Ythjpcnceppmnmaa
