import Derived.Test.YtoahckibhmoikaaDoorShow0
import Derived.Test.YtoahckibhmoikaaDoorSame
namespace Go.Proofs.YtoahckibhmoikaaDoor
open Go.RowKit

/-- what a Copy hands back is a row -/
theorem RetOwn.row {w0 w' : World} {e : TypeId} {n : Nat} {r : List V} {en : Ending} (h : RetOwn w0 e 3 n (cellsR r) en w') : ∃ A c, en = .returned (.slice A n c) ∧ RowAt w' A n r ∧ Ext w0 w' := by
  obtain ⟨A, c, he, ho, hE⟩ := h
  exact ⟨A, c, he, RowAt.own ho, hE⟩

theorem law_valids (r : List V) (A : Option Addr) (n c : Nat) (w : World) (ha : RowAt w A n r) (hn : n ≤ 1048576) (hs : smallR r) (_hw : wfR r) :
    Calls Tryd.prog 3 #[.slice A n c] w fun e w' => e = .returned (.bool true) ∧ Ext w w' := by
  have Ha := hide ha; have Hs := hide hs; clear ha hs _hw
  go_enter Tryd.func3, Tryd.ntmps3
  go_wp2_with fail
  refine (awake_any _).mono ?_
  rintro e w1 ⟨rfl, h1⟩
  have E1 := hide h1; clear h1
  go_wp2_with fail
  refine (copy_any r A n c _ (Ha.out.ext E1.out) (by omega)).mono ?_
  intro e w2 h2
  obtain ⟨A2, c2, rfl, h2, h3⟩ := h2.row
  have R2 := hide h2
  have E2 := hide (E1.out.trans h3); clear h2 h3
  go_wp2_with fail
  refine (row_valid r A2 n c2 _ R2.out (by omega) Hs.out).mono ?_
  rintro e w3 ⟨rfl, h1⟩
  have E3 := hide (E2.out.trans h1); clear h1
  go_wp2_with fail
  refine (ref_valid r A n c _ (Ha.out.ext E3.out) (by omega) Hs.out).mono ?_
  rintro e w4 ⟨rfl, h1⟩
  have E4 := hide (E3.out.trans h1); clear h1
  go_wp2_with fail
  go_ret
  exact ⟨by simp, E4.out⟩
end Go.Proofs.YtoahckibhmoikaaDoor
