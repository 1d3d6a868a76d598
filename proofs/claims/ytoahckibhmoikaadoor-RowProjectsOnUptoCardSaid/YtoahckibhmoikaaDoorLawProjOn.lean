import Derived.Test.YtoahckibhmoikaaDoorLawProj
namespace Go.Proofs.YtoahckibhmoikaaDoor
open Go.RowKit

theorem projR_cases (r : List V) (cols : List Int) : (∃ l, projR r cols = (l, 0) ∧ projGo r cols = some l ∧ cols.length ≤ 30) ∨ ∃ e : Int, projR r cols = ([], e) ∧ (e != 0) = true ∧ 0 ≤ e ∧ e ≤ 100 := by
  unfold projR
  split
  · exact .inr ⟨20, rfl, by decide, by omega, by omega⟩
  · split
    · rename_i l h; exact .inl ⟨l, rfl, h, by omega⟩
    · exact .inr ⟨23, rfl, by decide, by omega, by omega⟩
def pickI (cols : List Int) (c : Int) : Int := cols.getD c.toNat 0
theorem projGo_mem (r : List V) : ∀ (cols : List Int) (l : List V), projGo r cols = some l → ∀ c ∈ cols, 0 ≤ c ∧ c < (r.length : Int)
  | [], _, _, c, hc => by cases hc
  | x :: cols, l, h, c, hc => by
    simp only [projGo] at h
    split at h
    · cases h
    · rename_i hx
      rcases List.mem_cons.1 hc with rfl | hc
      · omega
      · cases hy : r[x.toNat]? with
        | none => rw [hy] at h; cases h
        | some y =>
          rw [hy] at h
          simp only [Option.bind_some, Option.map_eq_some_iff] at h
          obtain ⟨l', hl', rfl⟩ := h
          exact projGo_mem r cols l' hl' c hc
theorem projGo_get (r : List V) : ∀ (cols : List Int) (l : List V), projGo r cols = some l → ∀ (i : Nat) (c : Int), cols[i]? = some c → l[i]? = r[c.toNat]?
  | [], _, _, i, c, hc => by simp at hc
  | x :: cols, l, h, i, c, hc => by
    simp only [projGo] at h
    split at h
    · cases h
    · cases hy : r[x.toNat]? with
      | none => rw [hy] at h; cases h
      | some y =>
        rw [hy] at h
        simp only [Option.bind_some, Option.map_eq_some_iff] at h
        obtain ⟨l', hl', rfl⟩ := h
        cases i with
        | zero =>
          obtain rfl : x = c := by simpa using hc
          simp [hy]
        | succ i => simpa using projGo_get r cols l' hl' i c (by simpa using hc)
theorem projGo_two (r : List V) (cols : List Int) (l : List V) (h : projGo r cols = some l) : ∀ (more : List Int) (t : List V), projGo l more = some t → projGo r (more.map (pickI cols)) = some t
  | [], t, ht => by simpa [projGo] using ht
  | c :: more, t, ht => by
    have hlen := projGo_len r cols l h
    simp only [projGo] at ht
    split at ht
    · cases ht
    · rename_i hc
      have hcl : c.toNat < cols.length := by omega
      have hcc : cols[c.toNat]? = some (pickI cols c) := by simp [pickI, List.getElem?_eq_getElem hcl, List.getD]
      have hm := projGo_mem r cols l h (pickI cols c) (List.mem_of_getElem? hcc)
      have hg := projGo_get r cols l h c.toNat (pickI cols c) hcc
      simp only [List.map_cons, projGo]
      rw [if_neg (by omega), ← hg]
      cases hy : l[c.toNat]? with
      | none => rw [hy] at ht; cases ht
      | some y =>
        rw [hy] at ht
        simp only [Option.bind_some, Option.map_eq_some_iff] at ht ⊢
        obtain ⟨t', ht', rfl⟩ := ht
        exact ⟨t', projGo_two r cols l h more t' ht', rfl⟩

set_option maxRecDepth 100000 in
theorem law_projectsOn (r : List V) (cols more : List Int) (A B C : Option Addr) (n m l c d e0 : Nat) (w : World) (ha : RowAt w A n r) (hn : n ≤ 1048576) (_hs : smallR r) (_hw : wfR r) (hb : NumAt w B m cols) (hm : m ≤ 1048576) (hwb : wfI cols)
    (hc : NumAt w C l more) (hl : l ≤ 1048576) (_hwc : wfI more) :
    Calls Tryd.prog 6 #[.slice A n c, .slice B m d, .slice C l e0] w fun e w' => e = .returned (.bool true) ∧ Ext w w' := by
  have Ha := hide ha; have Hb := hide hb; have Hc := hide hc; have Hwb := hide hwb; clear ha hb hc _hs _hw hwb _hwc
  obtain ⟨i0, hi0, hz0, hz1, hz2⟩ := info_parts infoI
  have hmk := run_make_n (P := Tryd.prog) 28 3 i0 _ Tryd.underlying28 hi0 hz0 (by omega) .i64 .i64 l (by omega)
  simp only [hz1, Nat.mul_one, Value.cells] at hmk
  clear hz0 hz1 hz2 hi0
  go_enter Tryd.func6, Tryd.ntmps6
  go_wp2_with fail
  refine (awake_any _).mono ?_
  rintro e w1 ⟨rfl, h1⟩
  have E1 := hide h1; clear h1
  go_wp2_with fail
  refine (copy_any r A n c _ (Ha.out.ext E1.out) (by omega)).mono ?_
  intro e w2 h2
  obtain ⟨A2, c2, rfl, h2, h3⟩ := h2.row
  have R2 := hide h2
  have E2 := hide (E1.out.trans h3); clear h2 h3
  go_wp2_with fail
  refine (ints_any cols B m d _ (Hb.out.ext E2.out) (by omega)).mono ?_
  intro e w3 h2
  obtain ⟨A3, c3, rfl, h2, h3⟩ := h2.nums
  have R3 := hide h2
  have E3 := hide (E2.out.trans h3); have E23 := hide h3; clear h2 h3
  go_wp2_with fail
  refine (proj_any r cols A2 A3 n m c2 c3 _ (R2.out.ext E23.out) R3.out (by omega) (by omega)).mono ?_
  intro e w4 h2
  rcases projR_cases r cols with ⟨l1, hp, hg, hcl⟩ | ⟨e1, hp, he1, he2, he3⟩
  rotate_left
  · rw [hp] at h2
    obtain ⟨A4, c4, rfl, h2, h3⟩ := h2.row
    have E4 := hide (E3.out.trans h3)
    clear h2 h3 hp
    go_wp2_with fail
    go_ret
    exact ⟨rfl, E4.out⟩
  rw [hp] at h2
  obtain ⟨A4, c4, rfl, h2, h3⟩ := h2.row
  have R4 := hide h2
  have E4 := hide (E3.out.trans h3)
  have Hg := hide hg
  have hl1 : l1.length ≤ 30 := by have := projGo_len r cols l1 hg; omega
  clear h2 h3 hp hg
  dsimp only at R4 ⊢
  go_wp2_with fail
  refine (ints_any more C l e0 _ (Hc.out.ext E4.out) (by omega)).mono ?_
  intro e w5 h2
  obtain ⟨A5, c5, rfl, h2, h3⟩ := h2.nums
  have R5 := hide h2
  have E5 := hide (E4.out.trans h3); have E45 := hide h3; clear h2 h3
  go_wp2_with fail
  refine (proj_any l1 more A4 A5 l1.length l c4 c5 _ (R4.out.ext E45.out) R5.out (by omega) (by omega)).mono ?_
  intro e w6 h2
  rcases projR_cases l1 more with ⟨t1, hp, hg2, hml⟩ | ⟨e1, hp, he1, he2, he3⟩
  rotate_left
  · rw [hp] at h2
    obtain ⟨A6, c6, rfl, h2, h3⟩ := h2.row
    have E6 := hide (E5.out.trans h3)
    clear h2 h3 hp
    go_wp2_with fail
    go_ret
    exact ⟨rfl, E6.out⟩
  rw [hp] at h2
  obtain ⟨A6, c6, rfl, h2, h3⟩ := h2.row
  have R6 := hide h2
  have E6 := hide (E5.out.trans h3)
  have hrange := hide (projGo_mem l1 more t1 hg2)
  have hlc := hide (projGo_len r cols l1 Hg.out)
  have Htwo := hide (projGo_two r cols l1 Hg.out more t1 hg2)
  have ht1 : t1.length ≤ 30 := by have := projGo_len l1 more t1 hg2; omega
  have hmc := hide (And.intro Hb.out.len Hc.out.len)
  have hmc2 := hide (And.intro hcl hml)
  clear h2 h3 hp hg2 Hg hcl hml
  dsimp only at R6 ⊢
  go_wp2_with fail
  have E7 := hide (E6.out.trans (Ext.alloc w6 (.cells (madeCells #[.int .i64 0] l) 3)))
  have E67 := hide (Ext.alloc w6 (.cells (madeCells #[.int .i64 0] l) 3))
  have B7 := hide (Blk.new w6 3 (madeCells #[.int .i64 0] l))
  clear hmk
  go_loopw [6, 12] (fun _ k w' => ∃ i : Nat, i ≤ l ∧ k = .int .i64 i ∧ Hid (Blk w' w6.heap.size 3 (fillAt ((more.map (pickI cols)).map (Value.int .i64)) (.int .i64 0) i)) ∧ Hid (Ext w w') ∧ Hid (Ext w6 w')) (fun _ k _ => l - (intOf k).toNat)
  case atStart => exact ⟨0, by omega, rfl, by have e := fillAt_zero ((more.map (pickI cols)).map (Value.int .i64)) (.int .i64 0); rw [List.length_map, List.length_map, ← hmc.out.2] at e; rw [Hid, ← e]; exact B7.out, E7.out, E67.out⟩
  case round =>
    obtain ⟨i, hin, rfl, hb, hw, hw6⟩ := hrel
    by_cases h : i < l
    · obtain ⟨b, off, x, rfl, hx, hb1, c0⟩ := (Hc.out.ext hw.out).get h
      have hxr := hrange.out x (List.mem_of_getElem? hx)
      obtain ⟨j, rfl⟩ := Int.eq_ofNat_of_zero_le hxr.1
      have hj : j < m := by have := hlc.out; have := hmc.out.1; omega
      obtain ⟨b', off', y, rfl, hy, hb2, d0⟩ := (Hb.out.ext hw.out).get hj
      have hv : ((more.map (pickI cols)).map (Value.int .i64))[i]? = some (.int .i64 y) := by
        simp only [List.getElem?_map, hx, Option.map_some]
        simp [pickI, List.getD, hy]
      have Hv := hide hv; clear hv hx hy
      have hi0' : (0 : Int) ≤ (i : Int) := by omega
      have hi1' : (i : Int) < (l : Int) := by omega
      have hj0' : (0 : Int) ≤ (j : Int) := by omega
      have hj1' : (j : Int) < (m : Int) := by omega
      have hcell := hb.out.cell i
      rw [fillAt_get _ _ i (by simp; have := hmc.out.2; omega)] at hcell
      have hfr := hb.out.frozen i
      have hlt := hb.out.lt
      have B8 := hide (hb.out.set_ i (.int .i64 y))
      clear hxr
      go_wp2_with fail
      go_roundw
      case rel => exact ⟨i + 1, by omega, by go_num, by have := B8.out; rw [fillAt_set _ _ i _ Hv.out] at this; exact this, hw.out.setCell E6.out.size _, hw6.out.setCell (Nat.le_refl _) _⟩
      case measure => simp [intOf]; omega
    · have hil : i = l := by omega
      have hbb := hb.out
      have hlen : ((more.map (pickI cols)).map (Value.int .i64)).length = l := by simp; exact hmc.out.2.symm
      rw [hil, ← hlen, fillAt_end] at hbb
      have hN : NumAt wr (some ⟨w6.heap.size, 0, none⟩) l (more.map (pickI cols)) := ⟨by rw [List.length_map]; exact hmc.out.2, by have := hbb.sl (n := l) (size := 1) (by simp; exact hmc.out.2.symm); simpa using this⟩
      have HN := hide hN
      have hpp : projR r (more.map (pickI cols)) = (t1, 0) := by
        rw [projR, if_neg (by rw [List.length_map]; have := hmc2.out.2; omega), Htwo.out]
      have Hpp := hide hpp
      clear hbb hN hpp hlen hil
      go_wp2_with fail
      refine (copy_any r A n c _ (Ha.out.ext hw.out) (by omega)).mono ?_
      intro e w8 h2
      obtain ⟨A8, c8, rfl, h2, h3⟩ := h2.row
      have R8 := hide h2
      have E8 := hide (hw.out.trans h3); have Er8 := hide h3; clear h2 h3
      go_wp2_with fail
      refine (proj_any r (more.map (pickI cols)) A8 _ n l c8 l _ R8.out (HN.out.ext Er8.out) (by omega) (by omega)).mono ?_
      intro e w9 h2
      rw [Hpp.out] at h2
      obtain ⟨A9, c9, rfl, h2, h3⟩ := h2.row
      have R9 := hide h2
      have E9 := hide (E8.out.trans h3); have E69 := hide ((hw6.out.trans Er8.out).trans h3); clear h2 h3
      dsimp only at R9 ⊢
      go_wp2_with fail
      refine (same_any t1 t1 A9 A6 _ _ c9 c6 _ R9.out (R6.out.ext E69.out) (by omega)).mono ?_
      rintro e w10 ⟨rfl, h1⟩
      have E10 := hide (E9.out.trans h1); clear h1
      rw [sameR_refl]
      go_wp2_with fail
      go_ret
      exact ⟨rfl, E10.out⟩
end Go.Proofs.YtoahckibhmoikaaDoor
