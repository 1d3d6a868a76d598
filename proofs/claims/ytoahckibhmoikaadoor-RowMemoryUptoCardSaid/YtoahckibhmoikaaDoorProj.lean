/-
  Project: the program's and the document's; a list of numbers in new memory.
-/
import Derived.Test.YtoahckibhmoikaaDoorSame
namespace Go.Proofs.YtoahckibhmoikaaDoor
open Go.RowKit

/-- n numbers lie at A -/
def NumAt (w : World) (A : Option Addr) (n : Nat) (xs : List Int) : Prop := n = xs.length ∧ Sl w A n 1 (xs.map (Value.int .i64))
theorem NumAt.ext {w w' : World} {A : Option Addr} {n : Nat} {xs : List Int} (h : NumAt w A n xs) (hw : Ext w w') : NumAt w' A n xs := ⟨h.1, h.2.ext hw⟩
theorem NumAt.len {w : World} {A : Option Addr} {n : Nat} {xs : List Int} (h : NumAt w A n xs) : n = xs.length := h.1
theorem NumAt.get {w : World} {A : Option Addr} {n : Nat} {xs : List Int} (h : NumAt w A n xs) {i : Nat} (hi : i < n) : ∃ b off x, A = some ⟨b, off, none⟩ ∧ xs[i]? = some x ∧ b < w.heap.size ∧ w.cell? ⟨b, off + i, none⟩ = some (.int .i64 x) := by
  obtain ⟨b, off, hA, hc⟩ := h.2.2 (by omega)
  have hl : i < xs.length := by have := h.1; omega
  have hc := hc i (.int .i64 xs[i]) (by simp [List.getElem?_eq_getElem hl])
  exact ⟨b, off, xs[i], hA, List.getElem?_eq_getElem hl, World.block_lt_of_cell? w _ hc, hc⟩
theorem NumAt.own {w : World} {base : Nat} {e : TypeId} {n c : Nat} {A : Option Addr} {xs : List Int} (h : w.ownsRow base e 1 (.slice A n c) n (xs.map (Value.int .i64))) : NumAt w A n xs := by
  have hs := Sl.own h
  refine ⟨?_, hs⟩
  have := hs.1
  rw [List.length_map] at this
  omega
theorem nums_one (xs : List Int) : OneCells (xs.map (Value.int .i64)) := fun v hv => by
  obtain ⟨x, _, rfl⟩ := List.mem_map.1 hv
  rfl
/-- the numbers are numbers of 64 bits -/
def wfI (xs : List Int) : Prop := ∀ x ∈ xs, -9223372036854775808 ≤ x ∧ x ≤ 9223372036854775807

theorem infoI : (Tryd.prog.info? 3).map (fun i => (i.zero, i.size, i.bytes)) = some (some (.int .i64 0), 1, 8) := by kernel_rfl
theorem sizeI : (Tryd.prog.info? 3).map (·.size) = some 1 := by kernel_rfl

set_option maxRecDepth 100000 in
theorem ints_any (xs : List Int) (A : Option Addr) (n c : Nat) (w : World) (ha : NumAt w A n xs) (hn : n ≤ 16777216) :
    Calls Tryd.prog 24 #[.slice A n c] w (RetOwn w 3 1 n (xs.map (Value.int .i64))) := by
  obtain ⟨i0, hi0, hz0, hz1, hz2⟩ := info_parts infoI
  have hmk := run_make_n (P := Tryd.prog) 28 3 i0 _ Tryd.underlying28 hi0 hz0 (by omega) .i64 .i64 n hn
  simp only [hz1] at hmk
  have Ha := hide ha; clear ha hz1 hz2 hz0 hi0
  have HC := hide (fun (i : Nat) (h : i = n * 1) => by
    have : (Value.int .i64 0).cells = #[.int .i64 0] := rfl
    exact this)
  clear HC
  go_enter Tryd.func24, Tryd.ntmps24
  go_wp2_with (refine wpList_copy_sl rfl (.tmp 7) (.tmp 8) 28 28 rfl 3 1 Tryd.underlying28 sizeI A w.heap.size 0 n n n c rfl rfl _ 3 (heap_alloc_new w _) (xs.map (Value.int .i64)) (Ha.out.ext (Ext.alloc w _)).2 (Nat.le_refl _) (by rw [size_madeCells, Nat.zero_add, Ha.out.2.1]; omega) (nums_one xs) w (Ext.alloc w _) (Nat.le_refl _) ?_; intro w1 hg1 hE1 hs1)
  go_ret
  refine ⟨_, _, rfl, ?_, hE1.out⟩
  have hl := Ha.out.2.1
  have hg := hg1.out
  rw [splice_all (by rw [Array.length_toList, size_madeCells]; omega)] at hg
  refine ⟨hl, .inr ⟨w.heap.size, n, _, rfl, Nat.le_refl _, hg, Nat.le_refl _, by unfold maxLen; omega, by simpa using hl, ?_⟩⟩
  exact List.take_of_length_le (Nat.le_of_eq hl)

def projGo (r : List V) : List Int → Option (List V)
  | [] => some []
  | c :: cols => if c < 0 ∨ (r.length : Int) ≤ c then none else (r[c.toNat]?).bind fun v => (projGo r cols).map (v :: ·)
def projR (r : List V) (cols : List Int) : List V × Int :=
  if 30 < cols.length then ([], 20) else match projGo r cols with
    | some l => (l, 0)
    | none => ([], 23)
theorem projGo_bad (r : List V) : ∀ (cols : List Int) (i : Nat) (c : Int), cols[i]? = some c → (c < 0 ∨ (r.length : Int) ≤ c) → projGo r cols = none
  | [], i, c, h, _ => by simp at h
  | x :: cols, 0, c, h, hc => by
    obtain rfl : x = c := by simpa using h
    simp [projGo, hc]
  | x :: cols, i + 1, c, h, hc => by
    have := projGo_bad r cols i c (by simpa using h) hc
    simp only [projGo, this]
    split
    · rfl
    · cases r[x.toNat]? <;> rfl
theorem projGo_snoc (r : List V) (c : Int) (v : V) (hc : ¬ (c < 0 ∨ (r.length : Int) ≤ c)) (hv : r[c.toNat]? = some v) : ∀ (cols : List Int) (l : List V), projGo r cols = some l → projGo r (cols ++ [c]) = some (l ++ [v])
  | [], l, h => by
    obtain rfl : [] = l := by simpa [projGo] using h
    simp [projGo, hc, hv]
  | x :: cols, l, h => by
    simp only [projGo, List.cons_append] at h ⊢
    split at h
    · cases h
    · rename_i hx
      rw [if_neg hx]
      cases hy : r[x.toNat]? with
      | none => rw [hy] at h; cases h
      | some y =>
        rw [hy] at h
        simp only [Option.bind_some, Option.map_eq_some_iff] at h ⊢
        obtain ⟨l', hl', rfl⟩ := h
        exact ⟨l' ++ [v], projGo_snoc r c v hc hv cols l' hl', rfl⟩
theorem projGo_len (r : List V) : ∀ (cols : List Int) (l : List V), projGo r cols = some l → l.length = cols.length
  | [], l, h => by
    obtain rfl : [] = l := by simpa [projGo] using h
    rfl
  | x :: cols, l, h => by
    simp only [projGo] at h
    split at h
    · cases h
    · cases hy : r[x.toNat]? with
      | none => rw [hy] at h; cases h
      | some y =>
        rw [hy] at h
        simp only [Option.bind_some, Option.map_eq_some_iff] at h
        obtain ⟨l', hl', rfl⟩ := h
        simp [projGo_len r cols l' hl']
theorem take_snoc' {α : Type} (xs : List α) (i : Nat) (x : α) (h : xs[i]? = some x) : xs.take (i + 1) = xs.take i ++ [x] := by
  rw [List.take_add_one, h]; rfl

/-- a row of the call's own and an error's number -/
def RetRowErr (w0 : World) (e : TypeId) (res : List V × Int) (en : Ending) (w' : World) : Prop :=
  ∃ A c, en = .returned (.tuple #[.slice A res.1.length c, .int .i64 res.2]) ∧ w'.ownsRow w0.heap.size e 3 (.slice A res.1.length c) res.1.length (cellsR res.1) ∧ Ext w0 w'
theorem ownsNil (w : World) (base : Nat) (e : TypeId) : w.ownsRow base e 3 (.slice none 0 0) 0 (cellsR []) := World.ownsRow_nil w base e 3

set_option maxRecDepth 100000 in
theorem proj_any (r : List V) (cols : List Int) (A B : Option Addr) (n m c d : Nat) (w : World) (ha : RowAt w A n r) (hb : NumAt w B m cols) (hn : n ≤ 1048576) (hm : m ≤ 1048576) :
    Calls Tryd.prog 23 #[.slice A n c, .slice B m d] w (RetRowErr w 54 (projR r cols)) := by
  have Ha := hide ha; have Hb := hide hb; have hl := hide (And.intro ha.len hb.len); clear ha hb
  obtain ⟨i0, hi0, hz0, hz1, hz2⟩ := info_parts infoV
  by_cases h30 : m ≤ 30
  · go_enter Tryd.func23, Tryd.ntmps23
    go_wp2
    go_loopw [4, 5, 6, 8, 14] (fun _ _ o _ k w' => ∃ (i : Nat) (A' : Option Addr) (c' : Nat), i ≤ m ∧ k = .int .i64 i ∧ o = .slice A' i c' ∧ Hid (∃ l, projGo r (cols.take i) = some l ∧ w'.ownsRow w.heap.size 54 3 (.slice A' i c') i (cellsR l)) ∧ Hid (Ext w w')) (fun _ _ _ _ k _ => m - (intOf k).toNat)
    case atStart => exact ⟨0, none, 0, by omega, rfl, rfl, ⟨[], rfl, ownsNil _ _ _⟩, Ext.refl _⟩
    case round =>
      obtain ⟨i, A', c', him, rfl, rfl, ho, hw⟩ := hrel
      by_cases h : i < m
      · obtain ⟨b', off', x, rfl, hx, hb2, d0⟩ := (Hb.out.ext hw.out).get h
        have Hx := hide hx; clear hx
        have hi0' : (0 : Int) ≤ (i : Int) := by omega
        have hi1' : (i : Int) < (m : Int) := by omega
        by_cases hbad : x < 0 ∨ (n : Int) ≤ x
        · have hp := hide (projGo_bad r cols i x Hx.out (by have := hl.out.1; omega))
          rcases hbad with hbad | hbad
          · go_wp2_with fail
            go_ret2
            exact ⟨none, 0, by rw [projR, if_neg (by have := hl.out.2; omega), hp.out]; rfl, by rw [projR, if_neg (by have := hl.out.2; omega), hp.out]; exact ownsNil _ _ _, hw.out⟩
          · have hx0 : ¬ x < 0 := by omega
            go_wp2_with fail
            go_ret2
            exact ⟨none, 0, by rw [projR, if_neg (by have := hl.out.2; omega), hp.out]; rfl, by rw [projR, if_neg (by have := hl.out.2; omega), hp.out]; exact ownsNil _ _ _, hw.out⟩
        · obtain ⟨j, rfl⟩ := Int.eq_ofNat_of_zero_le (show 0 ≤ x by omega)
          have hj : j < n := by omega
          have hj1 : (j : Int) < (n : Int) := by omega
          have hj0 : (0 : Int) ≤ (j : Int) := by omega
          clear hbad
          obtain ⟨b, off, v, rfl, hv, hb1, c0, c1, c2⟩ := (Ha.out.ext hw.out).get hj
          have Hv := hide hv; clear hv
          obtain ⟨l, hl1, hown⟩ := ho.out
          have Hl := hide hl1; have Hown := hide hown; clear hl1 hown
          have Hsrc := hide (RowAt.lit wr [v] 54).2
          go_wp2_with (at_builtin; refine wpList_append_sl rfl (.tmp 26) (.tmp 31) _ rfl 54 i0 _ 3 32 Tryd.underlying23 hi0 hz0 hz1 hz2 rfl (by omega) w (hw.out.trans (Ext.alloc _ _)) _ i (cellsR l) rfl (Hown.out.alloc _) _ 1 1 (cellsR [v]) rfl Hsrc.out (cellsR_one _) (by unfold maxLen; omega) (by omega) ?_; intro A8 c8 w8 own8 E8 _ _)
          go_roundw
          case rel => exact ⟨i + 1, A8, c8, by omega, by go_num, rfl, ⟨l ++ [v], by rw [take_snoc' cols i _ Hx.out]; exact projGo_snoc r j v (by have := hl.out.1; omega) Hv.out _ _ Hl.out, by rw [cellsR_append]; exact own8.out⟩, E8.out⟩
          case measure => simp [intOf]; omega
      · go_wp2_with fail
        go_ret2
        obtain ⟨l, hl1, hown⟩ := ho.out
        have him' : i = m := by omega
        rw [List.take_of_length_le (by have := hl.out.2; omega)] at hl1
        have hlen := projGo_len r cols l hl1
        have e : i = l.length := by have := hl.out.2; omega
        have ep : projR r cols = (l, 0) := by rw [projR, if_neg (by have := hl.out.2; omega), hl1]
        rw [ep]
        refine ⟨A', c', ?_, ?_, hw.out⟩
        · rw [e]; rfl
        · rw [e] at hown; exact hown
  · go_enter Tryd.func23, Tryd.ntmps23
    go_wp2
    go_ret2
    exact ⟨none, 0, by rw [projR, if_pos (by have := hl.out.2; omega)]; rfl, by rw [projR, if_pos (by have := hl.out.2; omega)]; exact ownsNil _ _ _, Ext.refl _⟩
set_option maxRecDepth 100000 in
theorem ref_proj_any (r : List V) (cols : List Int) (A B : Option Addr) (n m c d : Nat) (w : World) (ha : RowAt w A n r) (hb : NumAt w B m cols) (hn : n ≤ 1048576) (hm : m ≤ 1048576) :
    Calls Tryd.prog 22 #[.slice A n c, .slice B m d] w (RetRowErr w 54 (projR r cols)) := by
  have Ha := hide ha; have Hb := hide hb; have hl := hide (And.intro ha.len hb.len); clear ha hb
  obtain ⟨i0, hi0, hz0, hz1, hz2⟩ := info_parts infoV
  by_cases h30 : m ≤ 30
  · go_enter Tryd.func22, Tryd.ntmps22
    go_wp2
    go_loopw [4, 5, 6, 7] (fun _ _ o k w' => ∃ (i : Nat) (A' : Option Addr) (c' : Nat), i ≤ m ∧ k = .int .i64 i ∧ o = .slice A' i c' ∧ Hid (∃ l, projGo r (cols.take i) = some l ∧ w'.ownsRow w.heap.size 54 3 (.slice A' i c') i (cellsR l)) ∧ Hid (Ext w w')) (fun _ _ _ k _ => m - (intOf k).toNat)
    case atStart => exact ⟨0, none, 0, by omega, rfl, rfl, ⟨[], rfl, ownsNil _ _ _⟩, Ext.refl _⟩
    case round =>
      obtain ⟨i, A', c', him, rfl, rfl, ho, hw⟩ := hrel
      by_cases h : i < m
      · obtain ⟨b', off', x, rfl, hx, hb2, d0⟩ := (Hb.out.ext hw.out).get h
        have Hx := hide hx; clear hx
        have hi0' : (0 : Int) ≤ (i : Int) := by omega
        have hi1' : (i : Int) < (m : Int) := by omega
        by_cases hbad : x < 0 ∨ (n : Int) ≤ x
        · have hp := hide (projGo_bad r cols i x Hx.out (by have := hl.out.1; omega))
          rcases hbad with hbad | hbad
          · go_wp2_with fail
            go_ret2
            exact ⟨none, 0, by rw [projR, if_neg (by have := hl.out.2; omega), hp.out]; rfl, by rw [projR, if_neg (by have := hl.out.2; omega), hp.out]; exact ownsNil _ _ _, hw.out⟩
          · have hx0 : ¬ x < 0 := by omega
            go_wp2_with fail
            go_ret2
            exact ⟨none, 0, by rw [projR, if_neg (by have := hl.out.2; omega), hp.out]; rfl, by rw [projR, if_neg (by have := hl.out.2; omega), hp.out]; exact ownsNil _ _ _, hw.out⟩
        · obtain ⟨j, rfl⟩ := Int.eq_ofNat_of_zero_le (show 0 ≤ x by omega)
          have hj : j < n := by omega
          have hj1 : (j : Int) < (n : Int) := by omega
          have hj0 : (0 : Int) ≤ (j : Int) := by omega
          clear hbad
          obtain ⟨b, off, v, rfl, hv, hb1, c0, c1, c2⟩ := (Ha.out.ext hw.out).get hj
          have Hv := hide hv; clear hv
          obtain ⟨l, hl1, hown⟩ := ho.out
          have Hl := hide hl1; have Hown := hide hown; clear hl1 hown
          have Hsrc := hide (RowAt.lit wr [v] 54).2
          go_wp2_with (at_builtin; refine wpList_append_sl rfl (.tmp 31) (.tmp 39) _ rfl 54 i0 _ 3 32 Tryd.underlying23 hi0 hz0 hz1 hz2 rfl (by omega) w (hw.out.trans (Ext.alloc _ _)) _ i (cellsR l) rfl (Hown.out.alloc _) _ 1 1 (cellsR [v]) rfl Hsrc.out (cellsR_one _) (by unfold maxLen; omega) (by omega) ?_; intro A8 c8 w8 own8 E8 _ _)
          go_roundw
          case rel => exact ⟨i + 1, A8, c8, by omega, by go_num, rfl, ⟨l ++ [v], by rw [take_snoc' cols i _ Hx.out]; exact projGo_snoc r j v (by have := hl.out.1; omega) Hv.out _ _ Hl.out, by rw [cellsR_append]; exact own8.out⟩, E8.out⟩
          case measure => simp [intOf]; omega
      · go_wp2_with fail
        go_ret2
        obtain ⟨l, hl1, hown⟩ := ho.out
        have him' : i = m := by omega
        rw [List.take_of_length_le (by have := hl.out.2; omega)] at hl1
        have hlen := projGo_len r cols l hl1
        have e : i = l.length := by have := hl.out.2; omega
        have ep : projR r cols = (l, 0) := by rw [projR, if_neg (by have := hl.out.2; omega), hl1]
        rw [ep]
        refine ⟨A', c', ?_, ?_, hw.out⟩
        · rw [e]; rfl
        · rw [e] at hown; exact hown
  · go_enter Tryd.func22, Tryd.ntmps22
    go_wp2
    go_ret2
    exact ⟨none, 0, by rw [projR, if_pos (by have := hl.out.2; omega)]; rfl, by rw [projR, if_pos (by have := hl.out.2; omega)]; exact ownsNil _ _ _, Ext.refl _⟩
end Go.Proofs.YtoahckibhmoikaaDoor
