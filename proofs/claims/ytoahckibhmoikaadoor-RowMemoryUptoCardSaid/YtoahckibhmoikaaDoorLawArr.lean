/-
  RowArranges, RowSets: the walks.
-/
import Derived.Test.YtoahckibhmoikaaDoorArrW
import Derived.Test.YtoahckibhmoikaaDoorArrR
import Derived.Test.YtoahckibhmoikaaDoorRowsB
import Derived.Test.YtoahckibhmoikaaDoorLawValids
namespace Go.Proofs.YtoahckibhmoikaaDoor
open Go.RowKit

def RowsOk (rows : List (List V)) : Prop := ∀ r ∈ rows, r.length ≤ 1048576 ∧ smallR r
theorem RowsOk.arr {rows : List (List V)} (h : RowsOk rows) : RowsOk (arrP rows) := fun r hr => h r (mem_arr.1 hr)
theorem RetRows.out {w0 w' : World} {rows : List (List V)} {en : Ending} (h : RetRows w0 rows en w') : ∃ A c, en = .returned (.slice A rows.length c) ∧ LAt RRow 1 w' A rows.length rows ∧ Ext w0 w' := by
  obtain ⟨A, n, c, cells, rfl, rfl, h3, h4, h5⟩ := h
  exact ⟨A, c, rfl, mine_lat rfl h3 h4, h5⟩
theorem copy_out_rows {rows : List (List V)} {A : Option Addr} {n c : Nat} {w : World} (ha : LAt RRow 1 w A n rows) (hn : n ≤ 1048576) (hr : RowsOk rows) :
    Calls Tryd.prog 32 #[.slice A n c] w fun e w' => ∃ A' c', e = .returned (.slice A' rows.length c') ∧ LAt RRow 1 w' A' rows.length rows ∧ Ext w w' :=
  (copy_all rows A n c w ha (by omega) (fun r h => by have := (hr r h).1; omega)).mono fun _ _ h => h.out
theorem arr_out {rows : List (List V)} {A : Option Addr} {n c : Nat} {w : World} (ha : LAt RRow 1 w A n rows) (hn : n ≤ 2097152) (hr : RowsOk rows) :
    Calls Tryd.prog 33 #[.slice A n c] w fun e w' => ∃ A' c', e = .returned (.slice A' (arrP rows).length c') ∧ LAt RRow 1 w' A' (arrP rows).length (arrP rows) ∧ Ext w w' :=
  (arrange_any rows A n c w ha (by omega) (fun r h => by have := (hr r h).1; omega)).mono fun _ _ h => h.out
theorem ref_arr_out {rows : List (List V)} {A : Option Addr} {n c : Nat} {w : World} (ha : LAt RRow 1 w A n rows) (hc : n ≤ c) (hn : n ≤ 1048576) (hr : RowsOk rows) :
    Calls Tryd.prog 35 #[.slice A n c] w fun e w' => ∃ A' c', e = .returned (.slice A' (arrP rows).length c') ∧ LAt RRow 1 w' A' (arrP rows).length (arrP rows) ∧ Ext w w' :=
  (ref_arrange rows.length rows A n c w (Nat.le_refl _) ha hc hn hr).mono fun _ _ h => h.out
theorem same_self {rows : List (List V)} {A B : Option Addr} {n m c d : Nat} {w : World} (ha : LAt RRow 1 w A n rows) (hb : LAt RRow 1 w B m rows) (hn : n ≤ 1048576) (hr : RowsOk rows) :
    Calls Tryd.prog 34 #[.slice A n c, .slice B m d] w fun e w' => e = .returned (.bool true) ∧ Ext w w' := by
  have h := same_all rows rows A B n m c d w ha hb (by omega) (fun r hr' => by have := (hr r hr').1; omega)
  rw [sameRs_iff.2 rfl] at h
  exact h

set_option maxHeartbeats 4000000 in
set_option maxRecDepth 100000 in
theorem law_arranges (rows : List (List V)) (A : Option Addr) (n c : Nat) (w : World) (ha : LAt RRow 1 w A n rows) (hc : n ≤ c) (hn : n ≤ 1048576) (hr : RowsOk rows) (_hw : ∀ r ∈ rows, wfR r) :
    Calls Tryd.prog 13 #[.slice A n c] w fun e w' => e = .returned (.bool true) ∧ Ext w w' := by
  obtain rfl := ha.len
  have hal := arr_len rows
  have HCP := hide (fun w1 (h1 : Ext w w1) => copy_out_rows (c := c) (ha.ext RRow.stab h1) hn hr)
  have HAR := hide (fun A1 c1 w1 (h1 : LAt RRow 1 w1 A1 rows.length rows) => arr_out (c := c1) h1 (by omega) hr)
  have HRA := hide (fun w1 (h1 : Ext w w1) => ref_arr_out (ha.ext RRow.stab h1) hc hn hr)
  have HS1 := hide (fun A1 c1 A2 c2 w1 (h1 : LAt RRow 1 w1 A1 (arrP rows).length (arrP rows)) (h2 : LAt RRow 1 w1 A2 (arrP rows).length (arrP rows)) => same_self (c := c1) (d := c2) h1 h2 (by omega) hr.arr)
  have HS2 := hide (fun A1 c1 w1 (h1 : LAt RRow 1 w1 A1 rows.length rows) (h2 : Ext w w1) => same_self (c := c1) (d := c) h1 (ha.ext RRow.stab h2) (by omega) hr)
  clear ha hr _hw
  go_enter Tryd.func13, Tryd.ntmps13
  go_wp2_with fail
  refine (HCP.out _ (Ext.refl _)).mono ?_
  rintro e w1 ⟨A1, c1, rfl, l1, x1⟩; have X1 := hide x1; have L1 := hide l1; clear x1 l1
  go_wp2_with fail
  refine (HAR.out A1 c1 _ L1.out).mono ?_
  rintro e w2 ⟨A2, c2, rfl, l2, x2⟩; have X2 := hide (X1.out.trans x2); have L2 := hide l2; have L12 := hide (L1.out.ext RRow.stab x2); clear x2 l2
  go_wp2_with fail
  refine (awake_any _).mono ?_
  rintro e w3 ⟨rfl, x3⟩; have X3 := hide (X2.out.trans x3); have L23 := hide (L2.out.ext RRow.stab x3); have L13 := hide (L12.out.ext RRow.stab x3); clear x3
  go_wp2_with fail
  refine (HRA.out _ X3.out).mono ?_
  rintro e w4 ⟨A4, c4, rfl, l4, x4⟩; have X4 := hide (X3.out.trans x4); have L4 := hide l4; have L24 := hide (L23.out.ext RRow.stab x4); have L14 := hide (L13.out.ext RRow.stab x4); clear x4 l4
  go_wp2_with fail
  refine (HS1.out A2 c2 A4 c4 _ L24.out L4.out).mono ?_
  rintro e w5 ⟨rfl, x5⟩; have X5 := hide (X4.out.trans x5); have L15 := hide (L14.out.ext RRow.stab x5); clear x5
  go_wp2_with fail
  refine (HS2.out A1 c1 _ L15.out X5.out).mono ?_
  rintro e w6 ⟨rfl, x6⟩; have X6 := hide (X5.out.trans x6); clear x6
  go_wp2_with fail
  go_ret
  exact ⟨rfl, X6.out⟩
end Go.Proofs.YtoahckibhmoikaaDoor
