/-
  contain.without: a query without one of its atoms.
-/
import Derived.Test.YtpfjkjmimmklcaaDelete
import Derived.Test.YtpfjkjmimmklcaaHomG
import Derived.Deep.RegionHeld3
import Derived.Deep.AppendLies
import Derived.IntWalk
namespace Go.Proofs.Ytpfjkjmimmklcaa
open Go.RowKit

/-- a query is handed back, its atoms in a new row: the cells but for those of the i-th atom -/
def RetWo (w0 : World) (nm : ByteArray) (A : Option Addr) (n c m i : Nat) (cells : List Value) (en : Ending) (w' : World) : Prop :=
  ∃ g d, en = .returned (.agg #[.string nm, .slice A n c, .slice (some ⟨g, 0, none⟩) (m - 1) d]) ∧ w'.ownsRow w0.heap.size 40 2 (.slice (some ⟨g, 0, none⟩) (m - 1) d) (m - 1) (cells.take (i * 2) ++ cells.drop ((i + 1) * 2)) ∧ Ext w0 w'

set_option maxHeartbeats 2000000 in
set_option maxRecDepth 100000 in
theorem without_any (nm : ByteArray) (A B : Option Addr) (n c m d i : Nat) (cells : List Value) (w : World) (hsl : Sl w B m 2 cells) (h1 : OneCells cells) (hmm : m ≤ 1048576) (hmi : i < m) :
    Calls Try.prog 69 #[.agg #[.string nm, .slice A n c, .slice B m d], .int .i64 (i : Int)] w (RetWo w nm A n c m i cells) := by
  have HCL := hide (fun w1 (hw : Ext w w1) => cloneA cells B m d w1 (hsl.ext hw) h1 (by omega))
  have HDEL := hide (show ∀ (g c base : Nat) (w1 : World), w1.ownsRow base 40 2 (.slice (some ⟨g, 0, none⟩) m c) m cells → Calls Try.prog 97 #[.slice (some ⟨g, 0, none⟩) m c, .int .i64 (i : Int), .int .i64 ((i : Int) + 1)] w1 fun e w' => e = .returned (.slice (some ⟨g, 0, none⟩) (m - 1) c) ∧ w'.ownsRow base 40 2 (.slice (some ⟨g, 0, none⟩) (m - 1) c) (m - 1) (cells.take (i * 2) ++ cells.drop ((i + 1) * 2)) ∧ w1.grownBy w' (some g) from
    fun g c base w1 ho => delete_atoms cells g c m i base w1 ho hmi (by omega) h1)
  have hi20 : i ≤ 1048576 := by omega
  clear hsl h1 hmm
  have hm0 : 0 < m := by omega
  have hwr : IntKind.i64.wrap ((i : Int) + 1) = (i : Int) + 1 := IntWalk.i64_in _ (by omega)
  have Hmi := hide hmi; clear hmi
  generalize hW2 : (w.alloc (.cells #[.string nm, .slice A n c, .slice B m d] 25)).alloc (.cells #[.string ⟨#[]⟩, .slice none 0 0, .slice none 0 0] 25) = W2
  have HE := hide (show Ext w W2 from hW2 ▸ (Ext.alloc w (.cells #[.string nm, .slice A n c, .slice B m d] 25)).alloc' (.cells #[.string ⟨#[]⟩, .slice none 0 0, .slice none 0 0] 25))
  have HB0 := hide (show Blk W2 w.heap.size 25 #[.string nm, .slice A n c, .slice B m d] from hW2 ▸ (Blk.new w 25 #[.string nm, .slice A n c, .slice B m d]).ext (Ext.alloc _ _))
  have HB1 := hide (show Blk W2 (w.heap.size + 1) 25 #[.string ⟨#[]⟩, .slice none 0 0, .slice none 0 0] from by
    have := Blk.new (w.alloc (.cells #[.string nm, .slice A n c, .slice B m d] 25)) 25 #[.string ⟨#[]⟩, .slice none 0 0, .slice none 0 0]
    rw [World.size_alloc, hW2] at this; exact this)
  have HW2 := hide hW2; clear hW2
  go_enter Try.func69, Try.ntmps69
  go_wp2_with fail
  rw [HW2.out]
  have S0 : Hid (W2.cell? ⟨w.heap.size, 0, none⟩ = some (.string nm) ∧ W2.cell? ⟨w.heap.size, 1, none⟩ = some (.slice A n c) ∧ W2.cell? ⟨w.heap.size, 2, none⟩ = some (.slice B m d)) := ⟨HB0.out.cell 0, HB0.out.cell 1, HB0.out.cell 2⟩
  have S1 : W2.cell? ⟨w.heap.size, 0, none⟩ = some (.string nm) := S0.out.1
  have S2 : W2.cell? ⟨w.heap.size, 1, none⟩ = some (.slice A n c) := S0.out.2.1
  have S3 : W2.cell? ⟨w.heap.size, 2, none⟩ = some (.slice B m d) := S0.out.2.2
  have q0 : W2.cell? ⟨w.heap.size + 1, 0, none⟩ = some (.string ⟨#[]⟩) := HB1.out.cell 0
  go_region_held3 (fun w' => w'.cell? ⟨w.heap.size, 0, none⟩ = some (.string nm) ∧ w'.cell? ⟨w.heap.size, 1, none⟩ = some (.slice A n c) ∧ w'.cell? ⟨w.heap.size, 2, none⟩ = some (.slice B m d))
    (first
      | (exact ⟨h7.out.cell S0.out.1, h7.out.cell S0.out.2.1, h7.out.cell S0.out.2.2⟩)
      | (exact ⟨h5.cell S0.out.1, h5.cell S0.out.2.1, h5.cell S0.out.2.2⟩)
      | go_keep)
    (first
      | (go_at_call 98; refine (HCL.out _ (Ext.drew' HE.out)).mono ?_; rintro e w5 ⟨A5, c5, rfl, o5, x5⟩; have h5 := (Ext.drew W2).trans x5; obtain ⟨g5, c6, hf5, _, _⟩ := World.ownsRow.form o5 hm0; rw [hf5] at o5; rw [hf5]; have p5 := own_base o5 (Ext.drew W2).size; have P5 := hide p5; clear hf5 o5 x5 p5)
      | (go_at_call 97; refine (HDEL.out g5 c6 _ w5 P5.out).mono ?_; rintro e w7 ⟨rfl, o7, g7⟩; have h7 := hide (show Ext W2 w7 from Below.grown h5 g7 h5.size (fun k hk => by cases hk; exact (P5.out.lt g5 rfl).1)); have O7 := hide o7; clear o7 g7; have B7 := HB1.out.ext h7.out; have z0 : w7.cell? ⟨w.heap.size + 1, 0, none⟩ = some (.string ⟨#[]⟩) := B7.cell 0; have z1 : w7.cell? ⟨w.heap.size + 1, 1, none⟩ = some (.slice none 0 0) := B7.cell 1; have z2 : w7.cell? ⟨w.heap.size + 1, 2, none⟩ = some (.slice none 0 0) := B7.cell 2; have f0 := B7.frozen 0; have f1 := B7.frozen 1; have f2 := B7.frozen 2; have BB7 := hide B7; clear B7))
  go_wp2_with fail
  refine bodyPost_ret (v := .agg #[.string nm, .slice A n c, .slice (some ⟨g5, 0, none⟩) (m - 1) c6]) (by simp [results, Try.results69, go_sem, z0, z1, z2]) rfl ?_
  have step : ∀ (g' : Nat) (t : TypeId) (cs : Array Value), t ≠ 25 → Blk w7 g' t cs → Blk (((w7.setCell ⟨w.heap.size + 1, 0, none⟩ (.string nm)).setCell ⟨w.heap.size + 1, 1, none⟩ (.slice A n c)).setCell ⟨w.heap.size + 1, 2, none⟩ (.slice (some ⟨g5, 0, none⟩) (m - 1) c6)) g' t cs := fun g' t cs ht hb => by
    have hne := blk_ne hb BB7.out ht
    exact ((hb.far (p := ⟨w.heap.size + 1, 0, none⟩) hne _).far (p := ⟨w.heap.size + 1, 1, none⟩) hne _).far (p := ⟨w.heap.size + 1, 2, none⟩) hne _
  have E7 : Ext w w7 := HE.out.trans h7.out
  have E10 : Ext w (((w7.setCell ⟨w.heap.size + 1, 0, none⟩ (.string nm)).setCell ⟨w.heap.size + 1, 1, none⟩ (.slice A n c)).setCell ⟨w.heap.size + 1, 2, none⟩ (.slice (some ⟨g5, 0, none⟩) (m - 1) c6)) :=
    ((E7.setCell (p := ⟨w.heap.size + 1, 0, none⟩) (by simp) _).setCell (p := ⟨w.heap.size + 1, 1, none⟩) (by simp) _).setCell (p := ⟨w.heap.size + 1, 2, none⟩) (by simp) _
  have BB8 := BB7.out.set_ 0 (.string nm)
  have BB9 := BB8.set_ 1 (.slice A n c)
  have o := own_set (own_set (own_set O7.out BB7.out (by decide) 0 (.string nm)) BB8 (by decide) 1 (.slice A n c)) BB9 (by decide) 2 (.slice (some ⟨g5, 0, none⟩) (m - 1) c6)
  exact ⟨g5, c6, rfl, own_base o HE.out.size, E10⟩
end Go.Proofs.Ytpfjkjmimmklcaa
