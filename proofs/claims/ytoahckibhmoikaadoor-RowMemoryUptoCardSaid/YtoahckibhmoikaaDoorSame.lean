import Derived.Test.YtoahckibhmoikaaDoorGround
namespace Go.Proofs.YtoahckibhmoikaaDoor
open Go.RowKit

theorem toList_iff (a b : ByteArray) : a.toList = b.toList ↔ a = b :=
  ⟨fun h => by
    rw [ByteArray.toList_eq, ByteArray.toList_eq] at h
    obtain ⟨a⟩ := a; obtain ⟨b⟩ := b
    exact congrArg ByteArray.mk (Array.toList_inj.1 h), fun h => by rw [h]⟩

set_option maxRecDepth 100000 in
theorem same_any (r s : List V) (A B : Option Addr) (n m c d : Nat) (w : World) (ha : RowAt w A n r) (hb : RowAt w B m s) (hn : n ≤ 140737488355328) :
    Calls Tryd.prog 25 #[.slice A n c, .slice B m d] w fun e w' => e = .returned (.bool (sameR r s)) ∧ Ext w w' := by
  have Ha := hide ha; have Hb := hide hb; clear ha hb
  by_cases hl : n = m
  · subst hl
    have hne : ((n : Int) != (n : Int)) = false := by simp
    go_enter Tryd.func25, Tryd.ntmps25
    go_wp2
    go_loopw [4, 5] (fun _ k w' => ∃ i : Nat, i ≤ n ∧ k = .int .i64 i ∧ Hid (sameR r s = sameR (r.drop i) (s.drop i)) ∧ Hid (Ext w w')) (fun _ k _ => n - (intOf k).toNat)
    case atStart => exact ⟨0, by omega, rfl, rfl, Ext.refl _⟩
    case round =>
      obtain ⟨i, hin, rfl, ho, hw⟩ := hrel
      by_cases h : i < n
      · obtain ⟨b, off, x, rfl, hx, hb1, c0, c1, c2⟩ := (Ha.out.ext hw.out).get h
        obtain ⟨b', off', y, rfl, hy, hb2, d0, d1, d2⟩ := (Hb.out.ext hw.out).get h
        have hd := hide (sameR_drop r s i x y hx hy); clear hx hy
        have c0 := cell_ext c0
        have c1 := cell_ext c1
        have c2 := cell_ext c2
        have d0 := cell_ext d0
        have d1 := cell_ext d1
        have d2 := cell_ext d2
        go_wp2_with fail
        refine wp_region_ext 9 (by kernel_rfl) (by kernel_rfl) (by kernel_rfl) ?_
        iterate 8
          refine wpE_k (by kernel_rfl) (by kernel_rfl) ?_
          apply Exists.intro
          refine ⟨fun w1 hw1 => ?_, fun K hK => ?_⟩
          · go_simp; first | done | rfl
          go_simp; refine hK _ _ ?_; clear hK K
        refine wpE_k (by kernel_rfl) (by kernel_rfl) ?_
        refine ⟨.bool (!sameV x y), fun w1 hw1 => ?_, fun K hK => ?_⟩
        · clear c0 c1 c2 d0 d1 d2
          go_simp
          unfold sameV
          have ht := toList_iff x.t y.t
          by_cases h1 : x.k = y.k <;> by_cases h2 : x.i = y.i <;> by_cases h3 : x.t = y.t <;> simp [h1, h2, h3, ht]
        clear c0 c1 c2 d0 d1 d2
        go_simp; refine hK _ _ ?_; clear hK K
        refine wpE_nil ⟨rfl, by kernel_rfl, fun w1 hw1 => ?_⟩
        simp only [EndQ]
        refine wpList_nil ?_
        have HF := hide (hw.out.trans hw1); clear hw1
        by_cases he : sameV x y = true
        · have he1 : (!sameV x y) = false := by rw [he]; rfl
          simp only [he1]
          have He := hide he; clear he he1
          go_wp2_with fail
          go_roundw
          case rel => exact ⟨i + 1, by omega, by go_num, by rw [Hid, ho.out, hd.out, He.out]; simp, HF.out⟩
          case measure => simp [intOf]; omega
        · have he2 : sameV x y = false := by simpa using he
          have he1 : (!sameV x y) = true := by rw [he2]; rfl
          simp only [he1]
          have He := hide he2; clear he he2 he1
          go_wp2_with fail
          go_ret
          exact ⟨ret_bool (by rw [ho.out, hd.out, He.out]; simp), HF.out⟩
      · have hlen := hide (And.intro Ha.out.len Hb.out.len)
        go_wp2_with fail
        go_ret
        exact ⟨ret_bool (by rw [ho.out, List.drop_of_length_le (by have := hlen.out; omega), List.drop_of_length_le (by have := hlen.out; omega)]; rfl), hw.out⟩
  · have hne : ((n : Int) != (m : Int)) = true := by simp; omega
    have hs := hide (sameR_len (r := r) (s := s) (by have := Ha.out.len; have := Hb.out.len; omega))
    go_enter Tryd.func25, Tryd.ntmps25
    go_wp2
    go_ret
    exact ⟨ret_bool hs.out.symm, Ext.refl _⟩

theorem infoV : (Tryd.prog.info? 54).map (fun i => (i.zero, i.size, i.bytes)) = some (some (.agg #[.int .i64 0, .int .i64 0, .string .empty]), 3, 32) := by kernel_rfl
theorem sizeV : (Tryd.prog.info? 54).map (·.size) = some 3 := by kernel_rfl

theorem splice_all {L cs : List Value} (h : L.length = cs.length) : splice L 0 cs = cs := by
  simp [splice, h]

set_option maxRecDepth 100000 in
theorem copy_any (r : List V) (A : Option Addr) (n c : Nat) (w : World) (ha : RowAt w A n r) (hn : n ≤ 16777216) :
    Calls Tryd.prog 18 #[.slice A n c] w (RetOwn w 54 3 n (cellsR r)) := by
  obtain ⟨i0, hi0, hz0, hz1, hz2⟩ := info_parts infoV
  have hmk := run_make_n (P := Tryd.prog) 23 54 i0 _ Tryd.underlying23 hi0 hz0 (by omega) .i64 .i64 n hn
  simp only [hz1] at hmk
  have Ha := hide ha; clear ha hz1 hz2 hz0 hi0
  go_enter Tryd.func18, Tryd.ntmps18
  go_wp2_with (refine wpList_copy_sl rfl (.tmp 7) (.tmp 8) 23 23 rfl 54 3 Tryd.underlying23 sizeV A w.heap.size 0 n n n c rfl rfl _ 54 (heap_alloc_new w _) (cellsR r) (Ha.out.ext (Ext.alloc w _)).2 (Nat.le_refl _) (by rw [size_madeCells, Nat.zero_add, Ha.out.2.1]; exact Nat.le_refl _) (cellsR_one r) w (Ext.alloc w _) (Nat.le_refl _) ?_; intro w1 hg1 hE1 hs1)
  go_ret
  refine ⟨_, _, rfl, ?_, hE1.out⟩
  have hl := Ha.out.2.1
  have hg := hg1.out
  rw [splice_all (by rw [Array.length_toList, size_madeCells]; exact hl.symm)] at hg
  refine ⟨hl, .inr ⟨w.heap.size, n, _, rfl, Nat.le_refl _, hg, Nat.le_refl _, by unfold maxLen; omega, by simpa using hl, ?_⟩⟩
  rw [← hl]; simp
end Go.Proofs.YtoahckibhmoikaaDoor
