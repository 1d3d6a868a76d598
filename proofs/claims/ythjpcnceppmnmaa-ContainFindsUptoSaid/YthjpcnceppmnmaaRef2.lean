/-
  Copies of atoms and queries.
-/
import Derived.Test.YthjpcnceppmnmaaRef1
import Derived.Deep.RegionHeld3
import Derived.Deep.AppendLies
namespace Go.Proofs.Ythjpcnceppmnmaa
open Go.RowKit

def tmC (ts : List Tm) : List Value := ts.flatMap Tm.cells
theorem tmC_len (ts : List Tm) : (tmC ts).length = ts.length * 4 := by induction ts with
  | nil => rfl
  | cons t r ih => simp only [tmC, List.flatMap_cons, List.length_append, tm_len, List.length_cons] at *; omega
theorem tmC_els (w : World) (ts : List Tm) : Els RT 4 w (tmC ts) ts := Els.flat (f := Tm.cells) tm_len tm_one ts
theorem infoT : (Try.prog.info? 76).map (fun i => (i.zero, i.size, i.bytes)) = some (some (.agg #[.string .empty, .int .i64 0, .int .i64 0, .string .empty]), 4, 48) := by kernel_rfl
/-- terms of the call's own -/
def OwnT (w0 w : World) (A : Option Addr) (n c : Nat) (ts : List Tm) : Prop := n = ts.length ∧ w.ownsRow w0.heap.size 76 4 (.slice A n c) n (tmC ts)
theorem OwnT.lat {w0 w : World} {A : Option Addr} {n c : Nat} {ts : List Tm} (h : OwnT w0 w A n c ts) : LAt RT 4 w A n ts := LAt.own h.1 (tmC_els w ts) h.2
/-- an atom with terms in a block of their own is handed back -/
def RetA (w0 : World) (a : Atm) (en : Ending) (w' : World) : Prop := ∃ g, en = .returned (.agg #[.string a.rel, .slice (some ⟨g, 0, none⟩) a.terms.length a.terms.length]) ∧ w0.heap.size ≤ g ∧ Blk w' g 76 (tmC a.terms).toArray ∧ Ext w0 w'

set_option maxRecDepth 100000 in
theorem copy_atom (a : Atm) (A : Option Addr) (n c : Nat) (w : World) (ha : LAt RT 4 w A n a.terms) (hn : n ≤ 16777216) :
    Calls Try.prog 23 #[.agg #[.string a.rel, .slice A n c]] w (RetA w a) := by
  obtain ⟨i0, hi0, hz0, hz1, hz2⟩ := info_parts infoT
  have hmk := run_make_n (P := Try.prog) 41 76 i0 _ Try.underlying41 hi0 hz0 (by omega) .i64 .i64 n hn
  simp only [hz1] at hmk
  obtain ⟨rel, ts⟩ := a
  dsimp only at ha
  have hle := ha.len
  obtain ⟨cells, hels, hsl⟩ := ha.sl
  have hce := hels.flat_eq
  have hcl : cells = tmC ts := hce
  subst hcl
  have Ha := hide hsl; have HL := hide (tmC_len ts); have Hle := hide hle; clear ha hz1 hz2 hz0 hi0 hsl hels hce hle
  have sizeT : (Try.prog.info? 76).map (·.size) = some 4 := by kernel_rfl
  have Hsz := hide sizeT; clear sizeT
  generalize hW2 : (w.alloc (.cells #[.string rel, .slice A n c] 43)).alloc (.cells #[.string ⟨#[]⟩, .slice none 0 0] 43) = W2
  have hs2 : W2.heap.size = w.heap.size + 1 + 1 := by rw [← hW2]; simp
  have HE := hide (show Ext w W2 from hW2 ▸ (Ext.alloc w (.cells #[.string rel, .slice A n c] 43)).alloc' (.cells #[.string ⟨#[]⟩, .slice none 0 0] 43))
  have hG := heap_alloc_new W2 (.cells (madeCells #[.string .empty, .int .i64 0, .int .i64 0, .string .empty] (n * 4)) 76)
  rw [hs2] at hG
  have HG := hide hG; clear hG
  have HB0 := hide (show CellsAt W2 w.heap.size [.string rel, .slice A n c] from hW2 ▸ (CellsAt.new w [.string rel, .slice A n c] 43 (0, 0)).ext (Ext.alloc _ _))
  have HB1 := hide (show Blk W2 (w.heap.size + 1) 43 #[.string ⟨#[]⟩, .slice none 0 0] from by
    have := Blk.new (w.alloc (.cells #[.string rel, .slice A n c] 43)) 43 #[.string ⟨#[]⟩, .slice none 0 0]
    rw [World.size_alloc, hW2] at this; exact this)
  have HS2 := hide hs2
  have HW2 := hide hW2; clear hW2 hs2
  go_enter Try.func23, Try.ntmps23
  go_wp2_with (rw [HW2.out]; refine wpList_copy_sl rfl (.tmp 8) (.tmp 10) 41 41 rfl 76 4 Try.underlying41 Hsz.out A (w.heap.size + 1 + 1) 0 n n n c rfl rfl _ 76 HG.out (tmC ts) (Ha.out.ext (HE.out.trans (Ext.alloc _ _))) (Nat.le_refl _) (by rw [size_madeCells, Nat.zero_add, Ha.out.1]; omega) (tmC_els w ts).one W2 (Ext.alloc _ _) (by rw [HS2.out]; omega) ?_; intro w1 hg1 hE1 hs1; have c0 := (HB0.out.ext hE1.out) 0 _ rfl; have hb1 := HB1.out.ext hE1.out; have d0 : w1.cell? ⟨w.heap.size + 1, 0, none⟩ = some (.string ⟨#[]⟩) := hb1.cell 0; have d1 : w1.cell? ⟨w.heap.size + 1, 1, none⟩ = some (.slice none 0 0) := hb1.cell 1; have f0 := hb1.frozen 0; have f1 := hb1.frozen 1; have HB := hide hb1; clear hb1 hs1)
  refine bodyPost_ret (v := .agg #[.string rel, .slice (some ⟨w.heap.size + 1 + 1, 0, none⟩) n n]) (by simp [results, Try.results23, go_sem, d0, d1]) rfl ?_
  obtain rfl := Hle.out
  have hg := hg1.out
  rw [splice_all (by rw [Array.length_toList, size_madeCells, HL.out])] at hg
  have hg2 : Blk w1 (w.heap.size + 1 + 1) 76 (tmC ts).toArray := hg
  refine ⟨w.heap.size + 1 + 1, rfl, by omega, (hg2.far (p := ⟨w.heap.size + 1, 0, none⟩) (by simp) _).far (p := ⟨w.heap.size + 1, 1, none⟩) (by simp) _, ?_⟩
  exact ((HE.out.trans hE1.out).setCell (p := ⟨w.heap.size + 1, 0, none⟩) (by simp) _).setCell (p := ⟨w.heap.size + 1, 1, none⟩) (by simp) _
end Go.Proofs.Ythjpcnceppmnmaa
