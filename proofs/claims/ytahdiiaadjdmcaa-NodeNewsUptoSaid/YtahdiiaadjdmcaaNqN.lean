/-
  NodeNews: the law's walk.
-/
import Derived.Test.YtahdiiaadjdmcaaNgJ
import Derived.Test.YtahdiiaadjdmcaaNgK
namespace Go.Proofs.Ytahdiiaadjdmcaa
open Go.RowKit

set_option maxRecDepth 100000 in
set_option maxHeartbeats 4000000 in
theorem law_newsN (s : SP) (L : SPL) (w : World) (hs : SpecAt w s L) :
    Calls Try.prog 3 #[.agg (specC s L)] w fun e w' => e = .returned (.bool true) ∧ Ext w w' := by
  obtain ⟨g, hg⟩ : ∃ g, w.heap.size = g := ⟨_, rfl⟩
  obtain ⟨w1, hw1⟩ : ∃ w1, w.alloc (.cells (specC s L) 25) = w1 := ⟨_, rfl⟩
  have hb := Blk.new w 25 (specC s L)
  have he := Ext.alloc w (.cells (specC s L) 25)
  rw [hw1] at hb he
  rw [hg] at hb
  have HE := hide he
  have HMD := hide (made_any (hs.ext he))
  have b0 : w1.cell? ⟨g, 0, none⟩ = some (.int .i64 s.kind) := hb.cell 0
  have b1 : w1.cell? ⟨g, 1, none⟩ = some (.int .i64 s.inn) := hb.cell 1
  have b2 : w1.cell? ⟨g, 2, none⟩ = some (.slice L.kA s.keep.length L.kC) := hb.cell 2
  have b3 : w1.cell? ⟨g, 3, none⟩ = some (.slice L.sA s.side.length L.sC) := hb.cell 3
  have b4 : w1.cell? ⟨g, 4, none⟩ = some (.slice L.uA s.up.length L.uC) := hb.cell 4
  have b5 : w1.cell? ⟨g, 5, none⟩ = some (.int .i64 s.most) := hb.cell 5
  clear hs hb he
  unfold specC at *
  go_enter Try.func3, Try.ntmps3
  go_upto_region 1 with fail
  clear hw1 hg
  go_wp2_with fail
  refine HMD.out.mono ?_
  rintro e w2 h2
  clear b0 b1 b2 b3 b4 b5 HMD
  rcases h2 with ⟨hx, ⟨-, rfl⟩ | ⟨-, n, d, B, b, rfl, h3, h4, h5, -⟩⟩
  · have X2 := hide hx
    clear hx
    go_wp2_with fail
    refine (awake_nd _).mono ?_
    rintro e w3 ⟨rfl, x3⟩
    have X3 := hide x3
    clear x3
    go_wp2_with fail
    go_ret
    exact ⟨rfl, HE.out.trans (X2.out.trans X3.out)⟩
  · obtain ⟨l, hl⟩ := NP.of h3 (fun x hx2 => (h4 x hx2).1) hx
    have N2 := hide hl
    have hst := hl.stored
    rw [show storedN (nkOf s) emptyN.now = 0 from by unfold storedN; split <;> rfl] at hst
    have HST := hide hst
    clear h3 h4 h5 hx hst hl
    go_wp2_with fail
    refine HST.out.mono ?_
    rintro e w3 ⟨rfl, x3⟩
    have N3 := hide (N2.out.ext x3)
    have c0 := N3.out.cell0
    have HRW := hide N3.out.rows
    clear x3 HST
    go_wp2_with ((with_reducible refine HRW.out.mono ?_); rintro e w4 ⟨A4, c4, M4, rfl, -, h4, -, -⟩; have N4 := hide h4; clear h4)
    refine (awake_nd _).mono ?_
    rintro e w5 ⟨rfl, x5⟩
    have X5 := hide (N4.out.ext0.trans x5)
    clear x5
    go_wp2_with fail
    go_ret
    exact ⟨rfl, HE.out.trans X5.out⟩
end Go.Proofs.Ytahdiiaadjdmcaa
