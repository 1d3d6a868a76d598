/-
  
  Helpers of the document's answer: places of texts, equal lists, copies of lists.
  Copies of atoms and queries.
  The copy of a query.
-/
import Derived.Test.YtpfjkjmimmklcaaGround
import Derived.Test.YtpfjkjmimmklcaaShapeW
import Derived.Deep.RegionHeld3
import Derived.Deep.AppendLies
namespace Go.Proofs.Ytpfjkjmimmklcaa
open Go.RowKit

theorem toList_iff (a b : ByteArray) : a.toList = b.toList ↔ a = b :=
  ⟨fun h => by
    rw [ByteArray.toList_eq, ByteArray.toList_eq] at h
    obtain ⟨a⟩ := a; obtain ⟨b⟩ := b
    exact congrArg ByteArray.mk (Array.toList_inj.1 h), fun h => by rw [h]⟩

set_option maxRecDepth 100000 in
theorem same_any (r s : List V) (A B : Option Addr) (n m c d : Nat) (w : World) (ha : RowAt w A n r) (hb : RowAt w B m s) (hn : n ≤ 140737488355328) :
    Calls Try.prog 17 #[.slice A n c, .slice B m d] w fun e w' => e = .returned (.bool (sameR r s)) ∧ Ext w w' := by
  have Ha := hide ha; have Hb := hide hb; clear ha hb
  by_cases hl : n = m
  · subst hl
    have hne : ((n : Int) != (n : Int)) = false := by simp
    go_enter Try.func17, Try.ntmps17
    go_wp2
    go_loopw [4, 5] (fun _ k w' => ∃ i : Nat, i ≤ n ∧ k = .int .i64 i ∧ Hid (sameR r s = sameR (r.drop i) (s.drop i)) ∧ Hid (Ext w w')) (fun _ k _ => n - (intOf k).toNat)
    case atStart => exact ⟨0, by omega, rfl, rfl, Ext.refl _⟩
    case round =>
      obtain ⟨i, hin, rfl, ho, hw⟩ := hrel
      by_cases h : i < n
      · obtain ⟨b, off, x, rfl, hx, hb1, c0, c1, c2⟩ := (Ha.out.ext hw.out).get h
        obtain ⟨b', off', y, rfl, hy, hb2, d0, d1, d2⟩ := (Hb.out.ext hw.out).get h
        have hd := hide (sameR_drop r s i x y hx hy); clear hx hy
        have c0 := cell_ext c0
        have c1 := cell_ext c1
        have c2 := cell_ext c2
        have d0 := cell_ext d0
        have d1 := cell_ext d1
        have d2 := cell_ext d2
        go_wp2_with fail
        refine wp_region_ext 9 (by kernel_rfl) (by kernel_rfl) (by kernel_rfl) ?_
        iterate 8
          refine wpE_k (by kernel_rfl) (by kernel_rfl) ?_
          apply Exists.intro
          refine ⟨fun w1 hw1 => ?_, fun K hK => ?_⟩
          · go_simp; first | done | rfl
          go_simp; refine hK _ _ ?_; clear hK K
        refine wpE_k (by kernel_rfl) (by kernel_rfl) ?_
        refine ⟨.bool (!sameV x y), fun w1 hw1 => ?_, fun K hK => ?_⟩
        · clear c0 c1 c2 d0 d1 d2
          go_simp
          unfold sameV
          have ht := toList_iff x.t y.t
          by_cases h1 : x.k = y.k <;> by_cases h2 : x.i = y.i <;> by_cases h3 : x.t = y.t <;> simp [h1, h2, h3, ht]
        clear c0 c1 c2 d0 d1 d2
        go_simp; refine hK _ _ ?_; clear hK K
        refine wpE_nil ⟨rfl, by kernel_rfl, fun w1 hw1 => ?_⟩
        simp only [EndQ]
        refine wpList_nil ?_
        have HF := hide (hw.out.trans hw1); clear hw1
        by_cases he : sameV x y = true
        · have he1 : (!sameV x y) = false := by rw [he]; rfl
          simp only [he1]
          have He := hide he; clear he he1
          go_wp2_with fail
          go_roundw
          case rel => exact ⟨i + 1, by omega, by go_num, by rw [Hid, ho.out, hd.out, He.out]; simp, HF.out⟩
          case measure => simp [intOf]; omega
        · have he2 : sameV x y = false := by simpa using he
          have he1 : (!sameV x y) = true := by rw [he2]; rfl
          simp only [he1]
          have He := hide he2; clear he he2 he1
          go_wp2_with fail
          go_ret
          exact ⟨ret_bool (by rw [ho.out, hd.out, He.out]; simp), HF.out⟩
      · have hlen := hide (And.intro Ha.out.len Hb.out.len)
        go_wp2_with fail
        go_ret
        exact ⟨ret_bool (by rw [ho.out, List.drop_of_length_le (by have := hlen.out; omega), List.drop_of_length_le (by have := hlen.out; omega)]; rfl), hw.out⟩
  · have hne : ((n : Int) != (m : Int)) = true := by simp; omega
    have hs := hide (sameR_len (r := r) (s := s) (by have := Ha.out.len; have := Hb.out.len; omega))
    go_enter Try.func17, Try.ntmps17
    go_wp2
    go_ret
    exact ⟨ret_bool hs.out.symm, Ext.refl _⟩

theorem infoV : (Try.prog.info? 58).map (fun i => (i.zero, i.size, i.bytes)) = some (some (.agg #[.int .i64 0, .int .i64 0, .string .empty]), 3, 32) := by kernel_rfl
theorem sizeV : (Try.prog.info? 58).map (·.size) = some 3 := by kernel_rfl

theorem splice_all {L cs : List Value} (h : L.length = cs.length) : splice L 0 cs = cs := by
  simp [splice, h]

set_option maxRecDepth 100000 in
theorem copy_any (r : List V) (A : Option Addr) (n c : Nat) (w : World) (ha : RowAt w A n r) (hn : n ≤ 16777216) :
    Calls Try.prog 19 #[.slice A n c] w (RetOwn w 58 3 n (cellsR r)) := by
  obtain ⟨i0, hi0, hz0, hz1, hz2⟩ := info_parts infoV
  have hmk := run_make_n (P := Try.prog) 35 58 i0 _ Try.underlying35 hi0 hz0 (by omega) .i64 .i64 n hn
  simp only [hz1] at hmk
  have Ha := hide ha; clear ha hz1 hz2 hz0 hi0
  go_enter Try.func19, Try.ntmps19
  go_wp2_with (refine wpList_copy_sl rfl (.tmp 7) (.tmp 8) 35 35 rfl 58 3 Try.underlying35 sizeV A w.heap.size 0 n n n c rfl rfl _ 58 (heap_alloc_new w _) (cellsR r) (Ha.out.ext (Ext.alloc w _)).2 (Nat.le_refl _) (by rw [size_madeCells, Nat.zero_add, Ha.out.2.1]; exact Nat.le_refl _) (cellsR_one r) w (Ext.alloc w _) (Nat.le_refl _) ?_; intro w1 hg1 hE1 hs1)
  go_ret
  refine ⟨_, _, rfl, ?_, hE1.out⟩
  have hl := Ha.out.2.1
  have hg := hg1.out
  rw [splice_all (by rw [Array.length_toList, size_madeCells]; exact hl.symm)] at hg
  refine ⟨hl, .inr ⟨w.heap.size, n, _, rfl, Nat.le_refl _, hg, Nat.le_refl _, by unfold maxLen; omega, by simpa using hl, ?_⟩⟩
  rw [← hl]; simp
end Go.Proofs.Ytpfjkjmimmklcaa

namespace Go.Proofs.Ytpfjkjmimmklcaa
open Go.RowKit

set_option maxRecDepth 100000 in
theorem ref_at (xs : List ByteArray) (x : ByteArray) (A : Option Addr) (n c : Nat) (w : World) (ha : LAt RS 1 w A n xs) (hn : n ≤ 1125899906842624) :
    Calls Try.prog 34 #[.slice A n c, .string x] w fun e w' => e = .returned (.int .i64 (firstI (eqB x) xs 0)) ∧ w = w' := by
  have Ha := hide ha; clear ha
  go_enter Try.func34, Try.ntmps34
  go_wp2
  go_loop [4, 5] (fun _ k => ∃ i : Nat, i ≤ n ∧ k = .int .i64 i ∧ Hid (firstI (eqB x) xs 0 = firstI (eqB x) (xs.drop i) i)) (fun _ k => n - (intOf k).toNat)
  case atStart => exact ⟨0, by omega, rfl, rfl⟩
  case round =>
    obtain ⟨i, hin, rfl, ho⟩ := hrel
    by_cases h : i < n
    · obtain ⟨b, off, y, rfl, hx, hb1, c0⟩ := Ha.out.str h
      have hd := hide (firstI_drop (eqB x) xs i y hx); clear hx
      by_cases he : x = y
      · subst he
        have HE := hide (show eqB x x = true by simp [eqB])
        go_wp2_with fail
        go_ret
        exact ⟨ret_int (by rw [ho.out, hd.out, if_pos HE.out]), rfl⟩
      · have HE := hide (show eqB x y = false by rw [← eqB_dec]; simp [he])
        have he2 : (y.toList == x.toList) = false := by simpa using fun e => he ((bytes_toList x y).1 e.symm)
        go_wp2_with fail
        go_round
        case rel => exact ⟨i + 1, by omega, by go_num, by rw [Hid, ho.out, hd.out, HE.out]; rfl⟩
        case measure => simp [intOf]; omega
    · go_wp2_with fail
      go_ret
      exact ⟨ret_int (by rw [ho.out, List.drop_of_length_le (by have := Ha.out.len; omega)]; rfl), rfl⟩

theorem ref_in (xs : List ByteArray) (x : ByteArray) (A : Option Addr) (n c : Nat) (w : World) (ha : LAt RS 1 w A n xs) (hn : n ≤ 1125899906842624) :
    Calls Try.prog 45 #[.slice A n c, .string x] w fun e w' => e = .returned (.bool (memB xs x)) ∧ w = w' := by
  have H := hide (ref_at xs x A n c w ha hn); clear ha
  go_enter Try.func45, Try.ntmps45
  go_wp2_with fail
  refine H.out.mono ?_
  rintro e w1 ⟨rfl, rfl⟩
  go_wp2_with fail
  go_ret
  exact ⟨ret_bool (firstI_any (eqB x) xs 0), rfl⟩

/-- the lists agree, element by element -/
def sameBy {α : Type} (p : α → α → Bool) : List α → List α → Bool
  | [], [] => true
  | [], _ :: _ => false
  | _ :: _, [] => false
  | a :: l, b :: m => p a b && sameBy p l m
theorem sameBy_iff {α : Type} {p : α → α → Bool} (hp : ∀ a b, p a b = true ↔ a = b) : ∀ {r s : List α}, sameBy p r s = true ↔ r = s
  | [], [] => by simp [sameBy]
  | [], _ :: _ => by simp [sameBy]
  | _ :: _, [] => by simp [sameBy]
  | a :: r, b :: s => by simp [sameBy, hp, sameBy_iff hp]
theorem sameBy_len {α : Type} {p : α → α → Bool} : ∀ {r s : List α}, r.length ≠ s.length → sameBy p r s = false
  | [], [], h => absurd rfl h
  | [], _ :: _, _ => rfl
  | _ :: _, [], _ => rfl
  | a :: r, b :: s, h => by
    have := sameBy_len (p := p) (r := r) (s := s) (by simpa using h)
    simp [sameBy, this]
theorem sameBy_drop {α : Type} {p : α → α → Bool} (r s : List α) (k : Nat) (a b : α) (ha : r[k]? = some a) (hb : s[k]? = some b) : sameBy p (r.drop k) (s.drop k) = (p a b && sameBy p (r.drop (k + 1)) (s.drop (k + 1))) := by
  obtain ⟨ha, ea⟩ := List.getElem?_eq_some_iff.1 ha
  obtain ⟨hb, eb⟩ := List.getElem?_eq_some_iff.1 hb
  rw [List.drop_eq_getElem_cons ha, List.drop_eq_getElem_cons hb, ea, eb]; rfl
def eqS (a b : ByteArray) : Bool := decide (a = b)
theorem eqS_iff (a b : ByteArray) : eqS a b = true ↔ a = b := by simp [eqS]

/-- texts in a block of their own are handed back -/
def RetSB (w0 : World) (xs : List ByteArray) (en : Ending) (w' : World) : Prop := ∃ g, en = .returned (.slice (some ⟨g, 0, none⟩) xs.length xs.length) ∧ w0.heap.size ≤ g ∧ Blk w' g 9 (strC xs).toArray ∧ Ext w0 w'

set_option maxRecDepth 100000 in
theorem ref_texts_copy (xs : List ByteArray) (A : Option Addr) (n c : Nat) (w : World) (ha : LAt RS 1 w A n xs) (hn : n ≤ 16777216) :
    Calls Try.prog 43 #[.slice A n c] w (RetSB w xs) := by
  obtain ⟨i0, hi0, hz0, hz1, hz2⟩ := info_parts infoS
  have hmk := run_make_n (P := Try.prog) 22 9 i0 _ Try.underlying22 hi0 hz0 (by omega) .i64 .i64 n hn
  simp only [hz1] at hmk
  have hle := ha.len
  obtain ⟨cells, hels, hsl⟩ := ha.sl
  have hce := hels.flat_eq
  have hcl : cells = strC xs := hce
  subst hcl
  have Ha := hide hsl; have HL := hide (strC_len xs); have Hle := hide hle; clear ha hz1 hz2 hz0 hi0 hsl hels hce hle
  have sizeS : (Try.prog.info? 9).map (·.size) = some 1 := by kernel_rfl
  have Hsz := hide sizeS; clear sizeS
  go_enter Try.func43, Try.ntmps43
  go_wp2_with (refine wpList_copy_sl rfl (.tmp 7) (.tmp 8) 22 22 rfl 9 1 Try.underlying22 Hsz.out A w.heap.size 0 n n n c rfl rfl _ 9 (heap_alloc_new w _) (strC xs) (Ha.out.ext (Ext.alloc w _)) (Nat.le_refl _) (by rw [size_madeCells, Nat.zero_add, Ha.out.1]; omega) (strC_els w xs).one w (Ext.alloc w _) (Nat.le_refl _) ?_; intro w1 hg1 hE1 hs1)
  go_ret
  obtain rfl := Hle.out
  have hg := hg1.out
  rw [splice_all (by rw [Array.length_toList, size_madeCells, HL.out])] at hg
  exact ⟨w.heap.size, rfl, Nat.le_refl _, hg, hE1.out⟩
end Go.Proofs.Ytpfjkjmimmklcaa

namespace Go.Proofs.Ytpfjkjmimmklcaa
open Go.RowKit

def tmC (ts : List Tm) : List Value := ts.flatMap Tm.cells
theorem tmC_len (ts : List Tm) : (tmC ts).length = ts.length * 4 := by induction ts with
  | nil => rfl
  | cons t r ih => simp only [tmC, List.flatMap_cons, List.length_append, tm_len, List.length_cons] at *; omega
theorem tmC_els (w : World) (ts : List Tm) : Els RT 4 w (tmC ts) ts := Els.flat (f := Tm.cells) tm_len tm_one ts
theorem infoT : (Try.prog.info? 60).map (fun i => (i.zero, i.size, i.bytes)) = some (some (.agg #[.string .empty, .int .i64 0, .int .i64 0, .string .empty]), 4, 48) := by kernel_rfl
/-- terms of the call's own -/
def OwnT (w0 w : World) (A : Option Addr) (n c : Nat) (ts : List Tm) : Prop := n = ts.length ∧ w.ownsRow w0.heap.size 60 4 (.slice A n c) n (tmC ts)
theorem OwnT.lat {w0 w : World} {A : Option Addr} {n c : Nat} {ts : List Tm} (h : OwnT w0 w A n c ts) : LAt RT 4 w A n ts := LAt.own h.1 (tmC_els w ts) h.2
/-- an atom with terms in a block of their own is handed back -/
def RetA (w0 : World) (a : Atm) (en : Ending) (w' : World) : Prop := ∃ g, en = .returned (.agg #[.string a.rel, .slice (some ⟨g, 0, none⟩) a.terms.length a.terms.length]) ∧ w0.heap.size ≤ g ∧ Blk w' g 60 (tmC a.terms).toArray ∧ Ext w0 w'

set_option maxRecDepth 100000 in
theorem copy_atom (a : Atm) (A : Option Addr) (n c : Nat) (w : World) (ha : LAt RT 4 w A n a.terms) (hn : n ≤ 16777216) :
    Calls Try.prog 22 #[.agg #[.string a.rel, .slice A n c]] w (RetA w a) := by
  obtain ⟨i0, hi0, hz0, hz1, hz2⟩ := info_parts infoT
  have hmk := run_make_n (P := Try.prog) 38 60 i0 _ Try.underlying38 hi0 hz0 (by omega) .i64 .i64 n hn
  simp only [hz1] at hmk
  obtain ⟨rel, ts⟩ := a
  dsimp only at ha
  have hle := ha.len
  obtain ⟨cells, hels, hsl⟩ := ha.sl
  have hce := hels.flat_eq
  have hcl : cells = tmC ts := hce
  subst hcl
  have Ha := hide hsl; have HL := hide (tmC_len ts); have Hle := hide hle; clear ha hz1 hz2 hz0 hi0 hsl hels hce hle
  have sizeT : (Try.prog.info? 60).map (·.size) = some 4 := by kernel_rfl
  have Hsz := hide sizeT; clear sizeT
  generalize hW2 : (w.alloc (.cells #[.string rel, .slice A n c] 40)).alloc (.cells #[.string ⟨#[]⟩, .slice none 0 0] 40) = W2
  have hs2 : W2.heap.size = w.heap.size + 1 + 1 := by rw [← hW2]; simp
  have HE := hide (show Ext w W2 from hW2 ▸ (Ext.alloc w (.cells #[.string rel, .slice A n c] 40)).alloc' (.cells #[.string ⟨#[]⟩, .slice none 0 0] 40))
  have hG := heap_alloc_new W2 (.cells (madeCells #[.string .empty, .int .i64 0, .int .i64 0, .string .empty] (n * 4)) 60)
  rw [hs2] at hG
  have HG := hide hG; clear hG
  have HB0 := hide (show CellsAt W2 w.heap.size [.string rel, .slice A n c] from hW2 ▸ (CellsAt.new w [.string rel, .slice A n c] 40 (0, 0)).ext (Ext.alloc _ _))
  have HB1 := hide (show Blk W2 (w.heap.size + 1) 40 #[.string ⟨#[]⟩, .slice none 0 0] from by
    have := Blk.new (w.alloc (.cells #[.string rel, .slice A n c] 40)) 40 #[.string ⟨#[]⟩, .slice none 0 0]
    rw [World.size_alloc, hW2] at this; exact this)
  have HS2 := hide hs2
  have HW2 := hide hW2; clear hW2 hs2
  go_enter Try.func22, Try.ntmps22
  go_wp2_with (rw [HW2.out]; refine wpList_copy_sl rfl (.tmp 8) (.tmp 10) 38 38 rfl 60 4 Try.underlying38 Hsz.out A (w.heap.size + 1 + 1) 0 n n n c rfl rfl _ 60 HG.out (tmC ts) (Ha.out.ext (HE.out.trans (Ext.alloc _ _))) (Nat.le_refl _) (by rw [size_madeCells, Nat.zero_add, Ha.out.1]; omega) (tmC_els w ts).one W2 (Ext.alloc _ _) (by rw [HS2.out]; omega) ?_; intro w1 hg1 hE1 hs1; have c0 := (HB0.out.ext hE1.out) 0 _ rfl; have hb1 := HB1.out.ext hE1.out; have d0 : w1.cell? ⟨w.heap.size + 1, 0, none⟩ = some (.string ⟨#[]⟩) := hb1.cell 0; have d1 : w1.cell? ⟨w.heap.size + 1, 1, none⟩ = some (.slice none 0 0) := hb1.cell 1; have f0 := hb1.frozen 0; have f1 := hb1.frozen 1; have HB := hide hb1; clear hb1 hs1)
  refine bodyPost_ret (v := .agg #[.string rel, .slice (some ⟨w.heap.size + 1 + 1, 0, none⟩) n n]) (by simp [results, Try.results22, go_sem, d0, d1]) rfl ?_
  obtain rfl := Hle.out
  have hg := hg1.out
  rw [splice_all (by rw [Array.length_toList, size_madeCells, HL.out])] at hg
  have hg2 : Blk w1 (w.heap.size + 1 + 1) 60 (tmC ts).toArray := hg
  refine ⟨w.heap.size + 1 + 1, rfl, by omega, (hg2.far (p := ⟨w.heap.size + 1, 0, none⟩) (by simp) _).far (p := ⟨w.heap.size + 1, 1, none⟩) (by simp) _, ?_⟩
  exact ((HE.out.trans hE1.out).setCell (p := ⟨w.heap.size + 1, 0, none⟩) (by simp) _).setCell (p := ⟨w.heap.size + 1, 1, none⟩) (by simp) _
end Go.Proofs.Ytpfjkjmimmklcaa

namespace Go.Proofs.Ytpfjkjmimmklcaa
open Go.RowKit

theorem own_base {w : World} {b b' : Nat} {e : TypeId} {s n : Nat} {v : Value} {xs : List Value} (h : w.ownsRow b' e s v n xs) (hb : b ≤ b') : w.ownsRow b e s v n xs := by
  refine ⟨h.1, ?_⟩
  rcases h.2 with h1 | ⟨g, cap, cur, h1, h2, h3⟩
  · exact .inl h1
  · exact .inr ⟨g, cap, cur, h1, Nat.le_trans hb h2, h3⟩
theorem OwnS.ext {w0 w w' : World} {A : Option Addr} {n c : Nat} {xs : List ByteArray} (h : OwnS w0 w A n c xs) (hw : Ext w w') : OwnS w0 w' A n c xs := ⟨h.1, own_ext h.2 hw⟩
theorem OwnS.base {w0 w1 w : World} {A : Option Addr} {n c : Nat} {xs : List ByteArray} (h : OwnS w1 w A n c xs) (hw : w0.heap.size ≤ w1.heap.size) : OwnS w0 w A n c xs := ⟨h.1, own_base h.2 hw⟩
theorem OwnT.ext {w0 w w' : World} {A : Option Addr} {n c : Nat} {xs : List Tm} (h : OwnT w0 w A n c xs) (hw : Ext w w') : OwnT w0 w' A n c xs := ⟨h.1, own_ext h.2 hw⟩
theorem OwnT.base {w0 w1 w : World} {A : Option Addr} {n c : Nat} {xs : List Tm} (h : OwnT w1 w A n c xs) (hw : w0.heap.size ≤ w1.heap.size) : OwnT w0 w A n c xs := ⟨h.1, own_base h.2 hw⟩

theorem blk_ne {w : World} {g g' : Nat} {t t' : TypeId} {cs cs' : Array Value} (h : Blk w g t cs) (h' : Blk w g' t' cs') (hne : t ≠ t') : g ≠ g' := fun e => by
  subst e
  unfold Blk at h h'
  rw [h] at h'
  injection h' with h'
  injection h' with _ ht
  exact hne ht
/-- an atom of a copy, and the block in which its terms lie -/
def RCp : World → List Value → Atm × Nat → Prop := fun w cs p => cs = [.string p.1.rel, .slice (some ⟨p.2, 0, none⟩) p.1.terms.length p.1.terms.length] ∧ Blk w p.2 60 (tmC p.1.terms).toArray
theorem RCp.stab : Stab RCp := fun _ _ _ _ hw ⟨h1, h2⟩ => ⟨h1, h2.ext hw⟩
theorem blk_terms {w : World} {g : Nat} {ts : List Tm} (h : Blk w g 60 (tmC ts).toArray) : LAt RT 4 w (some ⟨g, 0, none⟩) ts.length ts :=
  ⟨rfl, tmC ts, tmC_els w ts, by have := h.sl (n := ts.length) (size := 4) (by simp [tmC_len]); simpa using this⟩
theorem blk_texts {w : World} {g : Nat} {xs : List ByteArray} (h : Blk w g 9 (strC xs).toArray) : LAt RS 1 w (some ⟨g, 0, none⟩) xs.length xs :=
  ⟨rfl, strC xs, strC_els w xs, by have := h.sl (n := xs.length) (size := 1) (by simp [strC_len]); simpa using this⟩
theorem cp_one (p : Atm × Nat) : OneCells [.string p.1.rel, .slice (some ⟨p.2, 0, none⟩) p.1.terms.length p.1.terms.length] := fun v h => by
  simp only [List.mem_cons, List.not_mem_nil, or_false] at h
  rcases h with rfl | rfl <;> rfl
theorem RCp.atom {w : World} {cs : List Value} {p : Atm × Nat} (h : RCp w cs p) : RA w cs p.1 := ⟨_, _, _, h.1, blk_terms h.2⟩
theorem els_atoms {w : World} {cells : List Value} {ps : List (Atm × Nat)} (h : Els RCp 2 w cells ps) : Els RA 2 w cells (ps.map (·.1)) := by
  induction h with
  | nil => exact .nil
  | cons h1 h2 h3 _ ih => exact .cons h1 h2 h3.atom ih

/-- a copy of a query: nothing of it is shared -/
structure Copied (w0 w : World) (L : QLoc) (q : Qy) : Prop where
  head : ∃ g, w0.heap.size ≤ g ∧ L.A = some ⟨g, 0, none⟩ ∧ L.n = q.head.length ∧ L.c = q.head.length ∧ Blk w g 9 (strC q.head).toArray
  atoms : ∃ (ps : List (Atm × Nat)) (cells : List Value), ps.map (·.1) = q.atoms ∧ Els RCp 2 w cells ps ∧ L.m = ps.length ∧ w.ownsRow w0.heap.size 40 2 (.slice L.B L.m L.d) L.m cells ∧ (∀ p ∈ ps, w0.heap.size ≤ p.2) ∧ (ps.map (·.2)).Pairwise (· < ·)
theorem Copied.qat {w0 w : World} {L : QLoc} {q : Qy} (h : Copied w0 w L q) : QAt w L q := by
  obtain ⟨g, _, h1, h2, h3, h4⟩ := h.head
  obtain ⟨ps, cells, h5, h6, h7, h8, _, _⟩ := h.atoms
  refine ⟨?_, ?_, by omega⟩
  · rw [h1, h2]; exact blk_texts h4
  · have h9 := els_atoms h6
    rw [h5] at h9
    exact LAt.own (by rw [h7, ← h5, List.length_map]) h9 h8
theorem Copied.ext {w0 w w' : World} {L : QLoc} {q : Qy} (h : Copied w0 w L q) (hw : Ext w w') : Copied w0 w' L q := by
  obtain ⟨g, h0, h1, h2, h3, h4⟩ := h.head
  obtain ⟨ps, cells, h5, h6, h7, h8, h9, h10⟩ := h.atoms
  exact ⟨⟨g, h0, h1, h2, h3, h4.ext hw⟩, ⟨ps, cells, h5, h6.ext RCp.stab hw, h7, own_ext h8 hw, h9, h10⟩⟩
/-- a copy is handed back -/
def RetQ (w0 : World) (q : Qy) (en : Ending) (w' : World) : Prop := ∃ L, en = .returned (qval q.name L) ∧ Copied w0 w' L q ∧ Ext w0 w'

theorem infoA : (Try.prog.info? 40).map (fun i => (i.zero, i.size, i.bytes)) = some (some (.agg #[.string .empty, .slice none 0 0]), 2, 40) := by kernel_rfl

theorem own_far {w : World} {base g : Nat} {e : TypeId} {size n : Nat} {v : Value} {xs : List Value} (h : w.ownsRow base e size v n xs) (hg : g < base) : some g ≠ v.ownBlock := fun he => by
  have := (h.lt g he.symm).1
  omega
theorem take_next {α : Type} (xs : List α) (i : Nat) (x : α) (h : xs[i]? = some x) : xs.take (i + 1) = xs.take i ++ [x] := by
  rw [List.take_add_one, h]; rfl
theorem own_set {w : World} {base g : Nat} {e t : TypeId} {size n : Nat} {v : Value} {xs : List Value} {cs : Array Value} (h : w.ownsRow base e size v n xs) (hb : Blk w g t cs) (hne : e ≠ t) (j : Nat) (u : Value) : (w.setCell ⟨g, j, none⟩ u).ownsRow base e size v n xs :=
  h.kept (row := some g) ⟨rfl, rfl, rfl, by simp, fun k _ hk => Below.heap_setCell _ _ _ _ (fun e => hk (by rw [e]))⟩ (.inr (Ne.symm (own_ne_blk h hb hne)))
/-- a copy that is being filled: the variable's block g, the texts' block gh -/
structure CpInv (W w : World) (g gh : Nat) (nm : ByteArray) (hd : List ByteArray) (as_ : List Atm) (i : Nat) (A : Option Addr) (c : Nat) : Prop where
  var : Blk w g 25 #[.string nm, .slice (some ⟨gh, 0, none⟩) hd.length hd.length, .slice A i c]
  head : Blk w gh 9 (strC hd).toArray
  atoms : ∃ (ps : List (Atm × Nat)) (cells : List Value), ps.map (·.1) = as_.take i ∧ Els RCp 2 w cells ps ∧ w.ownsRow W.heap.size 40 2 (.slice A i c) i cells ∧ (∀ p ∈ ps, W.heap.size ≤ p.2 ∧ p.2 < w.heap.size) ∧ (ps.map (·.2)).Pairwise (· < ·)
  ext : Ext W w

set_option maxRecDepth 100000 in
theorem copy_query (q : Qy) (L : QLoc) (w : World) (hq : QAt w L q) (hM : smallM 1048576 q) :
    Calls Try.prog 14 #[qval q.name L] w (RetQ w q) := by
  obtain ⟨i0, hi0, hz0, hz1, hz2⟩ := info_parts infoA
  have HT := hide (fun w1 (h1 : Ext w w1) => ref_texts_copy q.head L.A L.n L.c w1 (hq.head.ext RS.stab h1) (by have := hM.headL; have := hq.head.len; omega))
  obtain ⟨nm, hd, as_⟩ := q
  obtain ⟨A, n, c, B, m, d⟩ := L
  simp only [qval] at *
  have hml := hide (show m ≤ 1048576 by have := hM.atomsL; have := hq.atoms.len; simp only at *; omega)
  have hma := hide (show m = as_.length from hq.atoms.len)
  generalize hW2 : (w.alloc (.cells #[.string nm, .slice A n c, .slice B m d] 25)).alloc (.cells #[.string ⟨#[]⟩, .slice none 0 0, .slice none 0 0] 25) = W2
  have hs2 : W2.heap.size = w.heap.size + 1 + 1 := by rw [← hW2]; simp
  have HE := hide (show Ext w W2 from hW2 ▸ (Ext.alloc w (.cells #[.string nm, .slice A n c, .slice B m d] 25)).alloc' (.cells #[.string ⟨#[]⟩, .slice none 0 0, .slice none 0 0] 25))
  have HB0 := hide (show CellsAt W2 w.heap.size [.string nm, .slice A n c, .slice B m d] from hW2 ▸ (CellsAt.new w [.string nm, .slice A n c, .slice B m d] 25 (0, 0)).ext (Ext.alloc _ _))
  have HB1 := hide (show Blk W2 (w.heap.size + 1) 25 #[.string ⟨#[]⟩, .slice none 0 0, .slice none 0 0] from by
    have := Blk.new (w.alloc (.cells #[.string nm, .slice A n c, .slice B m d] 25)) 25 #[.string ⟨#[]⟩, .slice none 0 0, .slice none 0 0]
    rw [World.size_alloc, hW2] at this; exact this)
  have HS2 := hide hs2
  have HW2 := hide hW2; clear hW2 hs2
  have HQ := hide hq; have HM := hide hM; clear hq hM
  go_enter Try.func14, Try.ntmps14
  go_wp2_with fail
  rw [HW2.out]
  have c0 := cell_ext (HB0.out 0 _ rfl)
  have c1 := cell_ext (HB0.out 1 _ rfl)
  refine wp_region_ext 7 (by kernel_rfl) (by kernel_rfl) (by kernel_rfl) ?_
  iterate 4
    refine wpE_k (by kernel_rfl) (by kernel_rfl) ?_
    apply Exists.intro
    refine ⟨fun w1 hw1 => ?_, fun K hK => ?_⟩
    · go_simp; first | done | rfl
    go_simp; refine hK _ _ ?_; clear hK K
  refine wpE_p [] (fun u w1 => ∃ g1, u = .slice (some ⟨g1, 0, none⟩) hd.length hd.length ∧ W2.heap.size ≤ g1 ∧ Blk w1 g1 9 (strC hd).toArray) (fun u w1 w2 _ h2 ⟨g1, h3, h4, h5⟩ => ⟨g1, h3, h4, h5.ext h2⟩) rfl (by kernel_rfl) (fun w1 hw1 => ?_) ?_
  · simp only [LookQ]
    clear c0 c1
    go_simp
    refine ⟨Ext.refl _, (HT.out w1 (HE.out.trans hw1)).mono ?_⟩
    rintro e w2 ⟨g1, rfl, h1, h2, h3⟩
    exact ⟨_, rfl, h3, g1, rfl, Nat.le_trans hw1.size h1, h2⟩
  refine wpE_p [9] (fun u w1 => ∃ g1, u = .agg #[.string nm, .slice (some ⟨g1, 0, none⟩) hd.length hd.length, .slice none 0 0] ∧ W2.heap.size ≤ g1 ∧ Blk w1 g1 9 (strC hd).toArray) (fun u w1 w2 _ h2 ⟨g1, h3, h4, h5⟩ => ⟨g1, h3, h4, h5.ext h2⟩) rfl (by kernel_rfl) (fun w1 hw1 => ?_) ?_
  · simp only [LookQ]
    intro u hu
    obtain ⟨g1, rfl, hg1, hO⟩ := hu _ rfl
    clear c0 c1 hu
    go_simp
    exact Ext.refl _
  refine wpE_p [] (fun u w1 => ∃ g, u = .pointer (some ⟨g, 0, none⟩) ∧ W2.heap.size ≤ g ∧ Blk w1 g 25 #[.string ⟨#[]⟩, .slice none 0 0, .slice none 0 0]) (fun u w1 w2 _ h2 ⟨g, h3, h4, h5⟩ => ⟨g, h3, h4, h5.ext h2⟩) rfl (by kernel_rfl) (fun w1 hw1 => ?_) ?_
  · simp only [LookQ]
    clear c0 c1
    go_simp
    exact ⟨Ext.alloc _ _, hw1.size, Blk.new _ _ _⟩
  refine wpE_nil ⟨rfl, by kernel_rfl, fun wq hwq => ?_⟩
  simp only [EndQ]
  rintro _ ⟨g, rfl, hg, hB⟩ _ ⟨gh, rfl, hgh, hO⟩ _ ⟨g9, rfl, _, _⟩
  clear c0 c1
  simp only [List.drop]
  have d0 : wq.cell? ⟨g, 0, none⟩ = some (.string ⟨#[]⟩) := hB.cell 0
  have d1 : wq.cell? ⟨g, 1, none⟩ = some (.slice none 0 0) := hB.cell 1
  have d2 : wq.cell? ⟨g, 2, none⟩ = some (.slice none 0 0) := hB.cell 2
  have f0 := hB.frozen 0
  have f1 := hB.frozen 1
  have f2 := hB.frozen 2
  have HB := hide hB; have HO := hide hO; have HG := hide hg; have HGH := hide hgh; have Hwq := hide hwq; clear hB hO hwq hg hgh
  go_wp2_with fail
  have HS := hide (show CpInv W2 (((wq.setCell ⟨g, 0, none⟩ (.string nm)).setCell ⟨g, 1, none⟩ (.slice (some ⟨gh, 0, none⟩) hd.length hd.length)).setCell ⟨g, 2, none⟩ (.slice none 0 0)) g gh nm hd as_ 0 none 0 from by
    refine CpInv.mk ?_ ?_ ⟨[], [], rfl, .nil, World.ownsRow_nil _ _ _ _, fun p h => (by cases h), .nil⟩ ?_
    · have := ((HB.out.set_ 0 (.string nm)).set_ 1 (.slice (some ⟨gh, 0, none⟩) hd.length hd.length)).set_ 2 (.slice none 0 0)
      simpa using this
    · have hne := blk_ne (g := gh) (g' := g) HO.out HB.out (by decide)
      exact ((HO.out.far (p := ⟨g, 0, none⟩) hne _).far (p := ⟨g, 1, none⟩) hne _).far (p := ⟨g, 2, none⟩) hne _
    · exact ((Hwq.out.setCell (p := ⟨g, 0, none⟩) HG.out _).setCell (p := ⟨g, 1, none⟩) HG.out _).setCell (p := ⟨g, 2, none⟩) HG.out _)
  go_loopw [4] (fun k w' => ∃ (i : Nat) (A' : Option Addr) (c' : Nat), i ≤ m ∧ k = .int .i64 i ∧ Hid (CpInv W2 w' g gh nm hd as_ i A' c')) (fun k _ => m - (intOf k).toNat)
  case atStart => exact ⟨0, none, 0, by omega, rfl, HS.out⟩
  case round =>
    obtain ⟨i, A', c', him, rfl, hI⟩ := hrel
    have b2 := HB0.out.ext hI.out.ext 2 _ rfl
    by_cases h : i < m
    · obtain ⟨b, off, a, B1, m1, d1, rfl, hx, hb1, c0, c1, hT⟩ := HQ.out.atoms.at_ h
      have c0 := (HE.out.trans hI.out.ext).cell c0
      have c1 := (HE.out.trans hI.out.ext).cell c1
      have v2 : wr.cell? ⟨g, 2, none⟩ = some (.slice A' i c') := hI.out.var.cell 2
      have HCA := hide (fun w1 (h1 : Ext wr w1) => copy_atom a B1 m1 d1 w1 (hT.ext RT.stab (HE.out.trans (hI.out.ext.trans h1))) (by have := (HM.out.atoms a (List.mem_of_getElem? hx)).len; have := hT.len; omega))
      have Hx := hide hx; clear hx hT
      obtain ⟨ps, cells, p1, p2, p3, p4, p5⟩ := hI.out.atoms
      have P1 := hide p1; have P2 := hide p2; have P3 := hide p3; have P4 := hide p4; have P5 := hide p5; clear p1 p2 p3 p4 p5
      have hn2 : some g ≠ (Value.slice A' i c').ownBlock := own_ne_blk P3.out hI.out.var (by decide)
      have hi20 : i + 1 ≤ 1048576 := by have := hml.out; omega
      have f2 : wr.frozen? ⟨g, 2, none⟩ = false := hI.out.var.frozen 2
      have hgb : g < wr.heap.size := hI.out.var.lt
      go_wp2_with fail
      refine wp_region_ext 9 (by kernel_rfl) (by kernel_rfl) (by kernel_rfl) ?_
      have b2 := cell_ext b2
      have v2 := cell_ext v2
      have c0 := cell_ext c0
      have c1 := cell_ext c1
      iterate 7
        refine wpE_k (by kernel_rfl) (by kernel_rfl) ?_
        apply Exists.intro
        refine ⟨fun w1 hw1 => ?_, fun K hK => ?_⟩
        · go_simp; first | done | rfl
        go_simp; refine hK _ _ ?_; clear hK K
      clear b2 v2 c0 c1
      refine wpE_p [] (fun u w1 => ∃ g5, u = .agg #[.string a.rel, .slice (some ⟨g5, 0, none⟩) a.terms.length a.terms.length] ∧ wr.heap.size ≤ g5 ∧ Blk w1 g5 60 (tmC a.terms).toArray) (fun u w1 w2 _ h2 ⟨g5, h3, h4, h5⟩ => ⟨g5, h3, h4, h5.ext h2⟩) rfl (by kernel_rfl) (fun w1 hw1 => ?_) ?_
      · simp only [LookQ]
        go_simp
        refine ⟨Ext.refl _, (HCA.out w1 hw1).mono ?_⟩
        rintro e w2 ⟨g5, rfl, h1, h2, h3⟩
        exact ⟨_, rfl, h3, g5, rfl, Nat.le_trans hw1.size h1, h2⟩
      refine wpE_p [25] (fun u w1 => ∃ gb g5, u = .slice (some ⟨gb, 0, none⟩) 1 1 ∧ wr.heap.size ≤ gb ∧ Blk w1 gb 40 #[.string a.rel, .slice (some ⟨g5, 0, none⟩) a.terms.length a.terms.length] ∧ wr.heap.size ≤ g5 ∧ Blk w1 g5 60 (tmC a.terms).toArray)
        (fun u w1 w2 _ h2 ⟨gb, g5, h3, h4, h5, h6, h7⟩ => ⟨gb, g5, h3, h4, h5.ext h2, h6, h7.ext h2⟩) rfl (by kernel_rfl) (fun w1 hw1 => ?_) ?_
      · simp only [LookQ]
        intro u hu
        obtain ⟨g5, rfl, hg5, hB5⟩ := hu _ rfl
        clear hu
        go_simp
        exact ⟨Ext.alloc _ _, hw1.size, g5, Blk.new _ _ _, hg5, hB5.ext (Ext.alloc _ _)⟩
      refine wpE_nil ⟨rfl, by kernel_rfl, fun w1 hw1 => ?_⟩
      simp only [EndQ]
      rintro _ ⟨gb, g5, rfl, hgb2, hBb, hg5, hB5⟩ _ ⟨_, rfl, _, _⟩
      simp only [List.drop]
      have Hsrc := hide (show Sl w1 (some ⟨gb, 0, none⟩) 1 2 [.string a.rel, .slice (some ⟨g5, 0, none⟩) a.terms.length a.terms.length] from hBb.sl (n := 1) (size := 2) rfl)
      have HB5 := hide hB5; have HW1 := hide hw1; have HG5 := hide hg5
      clear hBb hB5 hw1 hg5
      have v2 : w1.cell? ⟨g, 2, none⟩ = some (.slice A' i c') := (hI.out.var.ext HW1.out).cell 2
      go_wp2_with (at_builtin; refine wpList_append_sl rfl (.tmp 19) (.tmp 26) _ rfl 40 i0 _ 2 40 Try.underlying23 hi0 hz0 hz1 hz2 rfl (by omega) W2 (hI.out.ext.trans HW1.out) (.slice A' i c') i cells rfl (own_ext P3.out HW1.out) _ 1 1 _ rfl Hsrc.out (cp_one (a, g5)) (by unfold maxLen; omega) (by omega) ?_; intro A8 c8 w8 own8 E8 G8 L8; have v8 : w8.cell? ⟨g, 2, none⟩ = some (.slice A' i c') := G8.out.cell v2 hn2; have f8 : w8.frozen? ⟨g, 2, none⟩ = false := (World.frozen?_of_block (a := ⟨g, 2, none⟩) (G8.out.block g (Nat.lt_of_lt_of_le hgb HW1.out.size) hn2)).trans ((HW1.out.frozen (p := ⟨g, 2, none⟩) hgb).trans f2))
      go_roundw
      case rel =>
        refine ⟨i + 1, A8, c8, by omega, by go_num, ?_⟩
        have V8 : Blk w8 g 25 _ := (hI.out.var.ext HW1.out).grown G8.out hn2
        have O1 := own_ext P3.out HW1.out
        have step : ∀ (g' : Nat) (t : TypeId) (cs : Array Value), 40 ≠ t → t ≠ 25 → Blk w1 g' t cs → Blk (w8.setCell ⟨g, 2, none⟩ (.slice A8 (i + 1) c8)) g' t cs := fun g' t cs ht ht2 hb => by
          have h8 := hb.grown G8.out (own_ne_blk O1 hb ht)
          exact h8.far (p := ⟨g, 2, none⟩) (blk_ne h8 V8 ht2) _
        refine CpInv.mk ?_ (step _ _ _ (by decide) (by decide) (hI.out.head.ext HW1.out)) ⟨ps ++ [(a, g5)], cells ++ [.string a.rel, .slice (some ⟨g5, 0, none⟩) a.terms.length a.terms.length], ?_, ?_, ?_, ?_, ?_⟩ ?_
        · have := V8.set_ 2 (.slice A8 (i + 1) c8)
          simpa using this
        · rw [List.map_append, P1.out, take_next as_ i a Hx.out]; rfl
        · refine Els.snoc (x := (a, g5)) ((P2.out.ext RCp.stab HW1.out).mono fun cs p hp => ⟨hp.1, step _ _ _ (by decide) (by decide) hp.2⟩) rfl (cp_one (a, g5)) ⟨rfl, step _ _ _ (by decide) (by decide) HB5.out⟩
        · exact own_set own8.out V8 (by decide) 2 _
        · intro p hp
          have hs1 := HW1.out.size
          have hs8 := G8.out.size
          have hs0 := hI.out.ext.size
          rcases List.mem_append.1 hp with hp | hp
          · obtain ⟨k1, k2⟩ := P4.out p hp
            exact ⟨k1, by simp; omega⟩
          · obtain rfl := List.mem_singleton.1 hp
            have := HB5.out.lt
            have := HG5.out
            exact ⟨by simp only; omega, by simp; omega⟩
        · rw [List.map_append, List.pairwise_append]
          refine ⟨P5.out, by simp, fun x hx y hy => ?_⟩
          obtain ⟨p, hp, rfl⟩ := List.mem_map.1 hx
          obtain rfl : y = g5 := by simpa using hy
          have := (P4.out p hp).2
          have := HG5.out
          omega
        · exact E8.out.setCell (p := ⟨g, 2, none⟩) (by have := HG.out; exact this) _
      case measure => simp [intOf]; omega
    · have v0 : wr.cell? ⟨g, 0, none⟩ = some (.string nm) := hI.out.var.cell 0
      have v1 : wr.cell? ⟨g, 1, none⟩ = some (.slice (some ⟨gh, 0, none⟩) hd.length hd.length) := hI.out.var.cell 1
      have v2 : wr.cell? ⟨g, 2, none⟩ = some (.slice A' i c') := hI.out.var.cell 2
      have r := HB1.out.ext hI.out.ext
      have r0 : wr.cell? ⟨w.heap.size + 1, 0, none⟩ = some (.string ⟨#[]⟩) := r.cell 0
      have r1 : wr.cell? ⟨w.heap.size + 1, 1, none⟩ = some (.slice none 0 0) := r.cell 1
      have r2 : wr.cell? ⟨w.heap.size + 1, 2, none⟩ = some (.slice none 0 0) := r.cell 2
      have q0 := r.frozen 0
      have q1 := r.frozen 1
      have q2 := r.frozen 2
      have HR := hide r; clear r
      go_wp2_with fail
      refine bodyPost_ret (v := .agg #[.string nm, .slice (some ⟨gh, 0, none⟩) hd.length hd.length, .slice A' i c']) (by simp [results, Try.results14, go_sem, r0, r1, r2]) rfl ?_
      obtain rfl : i = m := by omega
      obtain ⟨ps, cells, p1, p2, p3, p4, p5⟩ := hI.out.atoms
      rw [List.take_of_length_le (by have := hma.out; omega)] at p1
      have hws : w.heap.size ≤ W2.heap.size := HE.out.size
      have step : ∀ (g' : Nat) (t : TypeId) (cs : Array Value), t ≠ 25 → Blk wr g' t cs → Blk (((wr.setCell ⟨w.heap.size + 1, 0, none⟩ (.string nm)).setCell ⟨w.heap.size + 1, 1, none⟩ (.slice (some ⟨gh, 0, none⟩) hd.length hd.length)).setCell ⟨w.heap.size + 1, 2, none⟩ (.slice A' i c')) g' t cs := fun g' t cs ht hb => by
        have hne := blk_ne hb HR.out ht
        exact ((hb.far (p := ⟨w.heap.size + 1, 0, none⟩) hne _).far (p := ⟨w.heap.size + 1, 1, none⟩) hne _).far (p := ⟨w.heap.size + 1, 2, none⟩) hne _
      have HR1 := HR.out.set_ 0 (.string nm)
      have HR2 := HR1.set_ 1 (.slice (some ⟨gh, 0, none⟩) hd.length hd.length)
      refine ⟨⟨some ⟨gh, 0, none⟩, hd.length, hd.length, A', i, c'⟩, rfl, ⟨⟨gh, ?_, rfl, rfl, rfl, step _ _ _ (by decide) hI.out.head⟩, ⟨ps, cells, p1, p2.mono fun cs p hp => ⟨hp.1, step _ _ _ (by decide) hp.2⟩, ?_, ?_, fun p hp => Nat.le_trans hws (p4 p hp).1, p5⟩⟩, ?_⟩
      · have := HGH.out; omega
      · have h1 := congrArg List.length p1
        have := hma.out
        simp only [List.length_map] at h1
        simp only; omega
      · exact own_base (own_set (own_set (own_set p3 HR.out (by decide) 0 _) HR1 (by decide) 1 _) HR2 (by decide) 2 _) hws
      · exact (((HE.out.trans hI.out.ext).setCell (p := ⟨w.heap.size + 1, 0, none⟩) (by simp) _).setCell (p := ⟨w.heap.size + 1, 1, none⟩) (by simp) _).setCell (p := ⟨w.heap.size + 1, 2, none⟩) (by simp) _
end Go.Proofs.Ytpfjkjmimmklcaa
