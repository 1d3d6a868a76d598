/-
  Helpers of the document's answer: places of texts, equal lists, copies of lists.
-/
import Derived.Test.YthjpcnceppmnmaaShape4
import Derived.Test.YthjpcnceppmnmaaSame
namespace Go.Proofs.Ythjpcnceppmnmaa
open Go.RowKit

set_option maxRecDepth 100000 in
theorem ref_at (xs : List ByteArray) (x : ByteArray) (A : Option Addr) (n c : Nat) (w : World) (ha : LAt RS 1 w A n xs) (hn : n ≤ 1125899906842624) :
    Calls Try.prog 44 #[.slice A n c, .string x] w fun e w' => e = .returned (.int .i64 (firstI (eqB x) xs 0)) ∧ w = w' := by
  have Ha := hide ha; clear ha
  go_enter Try.func44, Try.ntmps44
  go_wp2
  go_loop [4, 5] (fun _ k => ∃ i : Nat, i ≤ n ∧ k = .int .i64 i ∧ Hid (firstI (eqB x) xs 0 = firstI (eqB x) (xs.drop i) i)) (fun _ k => n - (intOf k).toNat)
  case atStart => exact ⟨0, by omega, rfl, rfl⟩
  case round =>
    obtain ⟨i, hin, rfl, ho⟩ := hrel
    by_cases h : i < n
    · obtain ⟨b, off, y, rfl, hx, hb1, c0⟩ := Ha.out.str h
      have hd := hide (firstI_drop (eqB x) xs i y hx); clear hx
      by_cases he : x = y
      · subst he
        have HE := hide (show eqB x x = true by simp [eqB])
        go_wp2_with fail
        go_ret
        exact ⟨ret_int (by rw [ho.out, hd.out, if_pos HE.out]), rfl⟩
      · have HE := hide (show eqB x y = false by rw [← eqB_dec]; simp [he])
        have he2 : (y.toList == x.toList) = false := by simpa using fun e => he ((bytes_toList x y).1 e.symm)
        go_wp2_with fail
        go_round
        case rel => exact ⟨i + 1, by omega, by go_num, by rw [Hid, ho.out, hd.out, HE.out]; rfl⟩
        case measure => simp [intOf]; omega
    · go_wp2_with fail
      go_ret
      exact ⟨ret_int (by rw [ho.out, List.drop_of_length_le (by have := Ha.out.len; omega)]; rfl), rfl⟩

theorem ref_in (xs : List ByteArray) (x : ByteArray) (A : Option Addr) (n c : Nat) (w : World) (ha : LAt RS 1 w A n xs) (hn : n ≤ 1125899906842624) :
    Calls Try.prog 46 #[.slice A n c, .string x] w fun e w' => e = .returned (.bool (memB xs x)) ∧ w = w' := by
  have H := hide (ref_at xs x A n c w ha hn); clear ha
  go_enter Try.func46, Try.ntmps46
  go_wp2_with fail
  refine H.out.mono ?_
  rintro e w1 ⟨rfl, rfl⟩
  go_wp2_with fail
  go_ret
  exact ⟨ret_bool (firstI_any (eqB x) xs 0), rfl⟩

/-- the lists agree, element by element -/
def sameBy {α : Type} (p : α → α → Bool) : List α → List α → Bool
  | [], [] => true
  | [], _ :: _ => false
  | _ :: _, [] => false
  | a :: l, b :: m => p a b && sameBy p l m
theorem sameBy_iff {α : Type} {p : α → α → Bool} (hp : ∀ a b, p a b = true ↔ a = b) : ∀ {r s : List α}, sameBy p r s = true ↔ r = s
  | [], [] => by simp [sameBy]
  | [], _ :: _ => by simp [sameBy]
  | _ :: _, [] => by simp [sameBy]
  | a :: r, b :: s => by simp [sameBy, hp, sameBy_iff hp]
theorem sameBy_len {α : Type} {p : α → α → Bool} : ∀ {r s : List α}, r.length ≠ s.length → sameBy p r s = false
  | [], [], h => absurd rfl h
  | [], _ :: _, _ => rfl
  | _ :: _, [], _ => rfl
  | a :: r, b :: s, h => by
    have := sameBy_len (p := p) (r := r) (s := s) (by simpa using h)
    simp [sameBy, this]
theorem sameBy_drop {α : Type} {p : α → α → Bool} (r s : List α) (k : Nat) (a b : α) (ha : r[k]? = some a) (hb : s[k]? = some b) : sameBy p (r.drop k) (s.drop k) = (p a b && sameBy p (r.drop (k + 1)) (s.drop (k + 1))) := by
  obtain ⟨ha, ea⟩ := List.getElem?_eq_some_iff.1 ha
  obtain ⟨hb, eb⟩ := List.getElem?_eq_some_iff.1 hb
  rw [List.drop_eq_getElem_cons ha, List.drop_eq_getElem_cons hb, ea, eb]; rfl
def eqS (a b : ByteArray) : Bool := decide (a = b)
theorem eqS_iff (a b : ByteArray) : eqS a b = true ↔ a = b := by simp [eqS]

set_option maxRecDepth 100000 in
theorem same_texts (r s : List ByteArray) (A B : Option Addr) (n m c d : Nat) (w : World) (ha : LAt RS 1 w A n r) (hb : LAt RS 1 w B m s) (hn : n ≤ 1125899906842624) :
    Calls Try.prog 40 #[.slice A n c, .slice B m d] w fun e w' => e = .returned (.bool (sameBy eqS r s)) ∧ Ext w w' := by
  have Ha := hide ha; have Hb := hide hb; clear ha hb
  by_cases hl : n = m
  · subst hl
    have hne : ((n : Int) != (n : Int)) = false := by simp
    go_enter Try.func40, Try.ntmps40
    go_wp2
    go_loopw [4, 5] (fun _ k w' => ∃ i : Nat, i ≤ n ∧ k = .int .i64 i ∧ Hid (sameBy eqS r s = sameBy eqS (r.drop i) (s.drop i)) ∧ Hid (Ext w w')) (fun _ k _ => n - (intOf k).toNat)
    case atStart => exact ⟨0, by omega, rfl, rfl, Ext.refl _⟩
    case round =>
      obtain ⟨i, hin, rfl, ho, hw⟩ := hrel
      by_cases h : i < n
      · obtain ⟨b, off, x, rfl, hx, hb1, c0⟩ := (Ha.out.ext RS.stab hw.out).str h
        obtain ⟨b', off', y, rfl, hy, hb2, d0⟩ := (Hb.out.ext RS.stab hw.out).str h
        have hd := hide (sameBy_drop (p := eqS) r s i x y hx hy); clear hx hy
        have c0 := cell_ext c0
        have d0 := cell_ext d0
        by_cases he : x = y
        · subst he
          have He := hide (show eqS x x = true by simp [eqS])
          go_wp2_with fail
          refine wp_region_ext 9 (by kernel_rfl) (by kernel_rfl) (by kernel_rfl) ?_
          iterate 9
            refine wpE_k (by kernel_rfl) (by kernel_rfl) ?_
            apply Exists.intro
            refine ⟨fun w1 hw1 => ?_, fun K hK => ?_⟩
            · go_simp; first | done | rfl
            go_simp; refine hK _ _ ?_; clear hK K
          refine wpE_nil ⟨rfl, by kernel_rfl, fun wq hwq => ?_⟩
          simp only [EndQ]
          refine wpList_nil ?_
          have HF := hide (hw.out.trans hwq); clear hwq c0 d0
          go_wp2_with fail
          go_roundw
          case rel => exact ⟨i + 1, by omega, by go_num, by rw [Hid, ho.out, hd.out, He.out]; simp, HF.out⟩
          case measure => simp [intOf]; omega
        · have He := hide (show eqS x y = false by simp [eqS, he])
          have he2 : (x.toList == y.toList) = false := by simpa using fun e => he ((bytes_toList x y).1 e)
          go_wp2_with fail
          refine wp_region_ext 9 (by kernel_rfl) (by kernel_rfl) (by kernel_rfl) ?_
          iterate 9
            refine wpE_k (by kernel_rfl) (by kernel_rfl) ?_
            apply Exists.intro
            refine ⟨fun w1 hw1 => ?_, fun K hK => ?_⟩
            · go_simp; first | done | rfl
            go_simp; refine hK _ _ ?_; clear hK K
          refine wpE_nil ⟨rfl, by kernel_rfl, fun wq hwq => ?_⟩
          simp only [EndQ]
          refine wpList_nil ?_
          have HF := hide (hw.out.trans hwq); clear hwq c0 d0
          go_wp2_with fail
          go_ret
          exact ⟨ret_bool (by rw [ho.out, hd.out, He.out]; simp), HF.out⟩
      · have hlen := hide (And.intro Ha.out.len Hb.out.len)
        go_wp2_with fail
        go_ret
        exact ⟨ret_bool (by rw [ho.out, List.drop_of_length_le (by have := hlen.out; omega), List.drop_of_length_le (by have := hlen.out; omega)]; rfl), hw.out⟩
  · have hne : ((n : Int) != (m : Int)) = true := by simp; omega
    have hs := hide (sameBy_len (p := eqS) (r := r) (s := s) (by have := Ha.out.len; have := Hb.out.len; omega))
    go_enter Try.func40, Try.ntmps40
    go_wp2
    go_ret
    exact ⟨ret_bool hs.out.symm, Ext.refl _⟩

/-- texts in a block of their own are handed back -/
def RetSB (w0 : World) (xs : List ByteArray) (en : Ending) (w' : World) : Prop := ∃ g, en = .returned (.slice (some ⟨g, 0, none⟩) xs.length xs.length) ∧ w0.heap.size ≤ g ∧ Blk w' g 9 (strC xs).toArray ∧ Ext w0 w'

set_option maxRecDepth 100000 in
theorem ref_texts_copy (xs : List ByteArray) (A : Option Addr) (n c : Nat) (w : World) (ha : LAt RS 1 w A n xs) (hn : n ≤ 16777216) :
    Calls Try.prog 35 #[.slice A n c] w (RetSB w xs) := by
  obtain ⟨i0, hi0, hz0, hz1, hz2⟩ := info_parts infoS
  have hmk := run_make_n (P := Try.prog) 22 9 i0 _ Try.underlying22 hi0 hz0 (by omega) .i64 .i64 n hn
  simp only [hz1] at hmk
  have hle := ha.len
  obtain ⟨cells, hels, hsl⟩ := ha.sl
  have hce := hels.flat_eq
  have hcl : cells = strC xs := hce
  subst hcl
  have Ha := hide hsl; have HL := hide (strC_len xs); have Hle := hide hle; clear ha hz1 hz2 hz0 hi0 hsl hels hce hle
  have sizeS : (Try.prog.info? 9).map (·.size) = some 1 := by kernel_rfl
  have Hsz := hide sizeS; clear sizeS
  go_enter Try.func35, Try.ntmps35
  go_wp2_with (refine wpList_copy_sl rfl (.tmp 7) (.tmp 8) 22 22 rfl 9 1 Try.underlying22 Hsz.out A w.heap.size 0 n n n c rfl rfl _ 9 (heap_alloc_new w _) (strC xs) (Ha.out.ext (Ext.alloc w _)) (Nat.le_refl _) (by rw [size_madeCells, Nat.zero_add, Ha.out.1]; omega) (strC_els w xs).one w (Ext.alloc w _) (Nat.le_refl _) ?_; intro w1 hg1 hE1 hs1)
  go_ret
  obtain rfl := Hle.out
  have hg := hg1.out
  rw [splice_all (by rw [Array.length_toList, size_madeCells, HL.out])] at hg
  exact ⟨w.heap.size, rfl, Nat.le_refl _, hg, hE1.out⟩
end Go.Proofs.Ythjpcnceppmnmaa
