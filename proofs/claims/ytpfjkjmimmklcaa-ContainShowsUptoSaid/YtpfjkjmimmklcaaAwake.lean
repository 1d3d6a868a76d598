/-
  awake: Find on a small fixed query.
-/
import Derived.Test.YtpfjkjmimmklcaaCon
import Derived.Test.YtpfjkjmimmklcaaInts
import Derived.Test.YtpfjkjmimmklcaaRefB
namespace Go.Proofs.Ytpfjkjmimmklcaa
open Go.RowKit

def awT : Tm := ⟨⟨#[120]⟩, ⟨0, 0, .empty⟩⟩
def awA : Atm := ⟨⟨#[82]⟩, [awT]⟩
def awQ : Qy := ⟨⟨#[81]⟩, [⟨#[120]⟩], [awA]⟩
theorem aw_find : findR awQ awQ = ([0], true, 0) := by decide +kernel

theorem aw_small : smallM 1048576 awQ := by
  refine ⟨by decide, by decide, ?_, by decide, ?_⟩
  · intro h hh
    obtain rfl := List.mem_singleton.1 hh
    decide
  · intro a ha
    obtain rfl := List.mem_singleton.1 ha
    refine ⟨by decide, by decide, ?_⟩
    intro t ht
    obtain rfl := List.mem_singleton.1 ht
    exact ⟨by decide, by decide, ⟨by decide, by decide⟩⟩
theorem blkAt {w : World} {g : Nat} {t : TypeId} {cs : Array Value} (h : w.heap.size = g) : Blk (w.alloc (.cells cs t)) g t cs := h ▸ Blk.new w t cs
theorem aw_at (w : World) : QAt ((((w.alloc (.cells #[.string ⟨#[120]⟩] 9)).alloc (.cells #[.string ⟨#[120]⟩, .int .i64 0, .int .i64 0, .string ⟨#[]⟩] 60)).alloc (.cells #[.string ⟨#[82]⟩, .slice (some ⟨w.heap.size + 1, 0, none⟩) 1 1] 40)).alloc
      (.cells #[.string ⟨#[81]⟩, .slice (some ⟨w.heap.size, 0, none⟩) 1 1, .slice (some ⟨w.heap.size + 1 + 1, 0, none⟩) 1 1] 25)) ⟨some ⟨w.heap.size, 0, none⟩, 1, 1, some ⟨w.heap.size + 1 + 1, 0, none⟩, 1, 1⟩ awQ := by
  generalize hc0 : (#[.string ⟨#[120]⟩] : Array Value) = c0
  generalize hc1 : (#[.string ⟨#[120]⟩, .int .i64 0, .int .i64 0, .string ⟨#[]⟩] : Array Value) = c1
  generalize hc2 : (#[.string ⟨#[82]⟩, .slice (some ⟨w.heap.size + 1, 0, none⟩) 1 1] : Array Value) = c2
  generalize hc3 : (#[.string ⟨#[81]⟩, .slice (some ⟨w.heap.size, 0, none⟩) 1 1, .slice (some ⟨w.heap.size + 1 + 1, 0, none⟩) 1 1] : Array Value) = c3
  have b0 := (((Blk.new w 9 c0).ext (Ext.alloc _ (.cells c1 60))).ext (Ext.alloc _ (.cells c2 40))).ext (Ext.alloc _ (.cells c3 25))
  have b1 := ((blkAt (t := 60) (cs := c1) (World.size_alloc w (.cells c0 9))).ext (Ext.alloc _ (.cells c2 40))).ext (Ext.alloc _ (.cells c3 25))
  have b2 := (blkAt (w := (w.alloc (.cells c0 9)).alloc (.cells c1 60)) (t := 40) (cs := c2) (g := w.heap.size + 1 + 1) (by simp)).ext (Ext.alloc _ (.cells c3 25))
  generalize (((w.alloc (.cells c0 9)).alloc (.cells c1 60)).alloc (.cells c2 40)).alloc (.cells c3 25) = W at *
  subst hc0; subst hc1; subst hc2
  have h1 : LAt RT 4 W (some ⟨w.heap.size + 1, 0, none⟩) 1 [awT] := blk_terms (ts := [awT]) b1
  refine ⟨blk_texts (xs := [⟨#[120]⟩]) b0, ⟨rfl, [.string ⟨#[82]⟩, .slice (some ⟨w.heap.size + 1, 0, none⟩) 1 1], Els.single (x := awA) rfl ?_ ⟨_, _, _, rfl, h1⟩, ?_⟩, Nat.le_refl _⟩
  · intro v hv
    simp only [List.mem_cons, List.not_mem_nil, or_false] at hv
    rcases hv with rfl | rfl <;> rfl
  · exact b2.sl (n := 1) (size := 2) rfl

set_option maxHeartbeats 2000000 in
set_option maxRecDepth 100000 in
theorem awake_any (w : World) : Calls Try.prog 37 #[] w fun e w' => e = .returned (.bool true) ∧ Ext w w' := by
  have HF := hide (find_any awQ awQ _ _ _ (aw_at w) (aw_at w) aw_small aw_small)
  rw [aw_find] at HF
  simp only [qval, awQ] at HF
  have HE := hide ((((Ext.alloc w (.cells #[.string ⟨#[120]⟩] 9)).alloc' (.cells #[.string ⟨#[120]⟩, .int .i64 0, .int .i64 0, .string ⟨#[]⟩] 60)).alloc' (.cells #[.string ⟨#[82]⟩, .slice (some ⟨w.heap.size + 1, 0, none⟩) 1 1] 40)).alloc'
      (.cells #[.string ⟨#[81]⟩, .slice (some ⟨w.heap.size, 0, none⟩) 1 1, .slice (some ⟨w.heap.size + 1 + 1, 0, none⟩) 1 1] 25))
  go_enter Try.func37, Try.ntmps37
  go_wp2_with fail
  refine HF.out.mono ?_
  rintro e w1 ⟨A, c, rfl, ho, h2⟩
  have E1 := hide h2
  obtain ⟨b, off, x, rfl, hx, hb, hc⟩ := (own_num rfl ho).num (i := 0) (by decide)
  obtain rfl : 0 = x := by simpa using hx
  rw [Nat.add_zero] at hc
  have hc2 : w1.cell? ⟨b, off, none⟩ = some (.int .i64 0) := hc
  clear h2 ho hx hc
  simp only [List.length_cons, List.length_nil]
  go_wp2_with fail
  go_ret
  exact ⟨rfl, HE.out.trans E1.out⟩
end Go.Proofs.Ytpfjkjmimmklcaa
