/-
  Does a row stand in a list?
-/
import Derived.Test.YtahdiiaadjdmcaaGreatGaD
namespace Go.Proofs.YtahdiiaadjdmcaaGreat
open Go.RowKit

/-- where it stands first, or -1 -/
def plcR (r : List V) : List (List V) → Nat → Int
  | [], _ => -1
  | s :: l, i => if sameR s r then i else plcR r l (i + 1)
theorem plcR_drop (r : List V) (xs : List (List V)) (i : Nat) (x : List V) (h : xs[i]? = some x) : plcR r (xs.drop i) i = if sameR x r then (i : Int) else plcR r (xs.drop (i + 1)) (i + 1) := by
  obtain ⟨h, e⟩ := List.getElem?_eq_some_iff.1 h
  rw [List.drop_eq_getElem_cons h, e]; rfl
set_option maxRecDepth 100000 in
theorem place_rows (xs : List (List V)) (r : List V) (A B : Option Addr) (n m c d : Nat) (w : World) (ha : LAt RRow 1 w A n xs) (hb : RowAt w B m r) (hn : n ≤ 140737488355328) (hr : ∀ s ∈ xs, s.length ≤ 140737488355328) :
    Calls Tryz.prog 17 #[.slice A n c, .slice B m d] w fun e w' => e = .returned (.int .i64 (plcR r xs 0)) ∧ Ext w w' := by
  have Ha := hide ha; have Hb := hide hb; have Hr := hide hr; clear ha hb hr
  go_enter Tryz.func17, Tryz.ntmps17
  go_wp2
  go_loopw [4, 5] (fun _ k w' => ∃ i : Nat, i ≤ n ∧ k = .int .i64 i ∧ Hid (plcR r xs 0 = plcR r (xs.drop i) i) ∧ Hid (Ext w w')) (fun _ k _ => n - (intOf k).toNat)
  case atStart => exact ⟨0, by omega, rfl, rfl, Ext.refl _⟩
  case round =>
    obtain ⟨i, hin, rfl, ho, hw⟩ := hrel
    by_cases h : i < n
    · obtain ⟨b, off, x, A1, n1, c1, rfl, hx, hb1, d0, hR1⟩ := (Ha.out.ext RRow.stab hw.out).row_ h
      have hd := hide (plcR_drop r xs i x hx)
      have hxl : n1 ≤ 140737488355328 := by have := Hr.out x (List.mem_of_getElem? hx); have := hR1.len; omega
      have HS := hide (same_any x r A1 B n1 m c1 d wr hR1 (Hb.out.ext hw.out) hxl)
      clear hx hR1 hb1
      go_wp2_with fail
      refine HS.out.mono ?_
      rintro e w1 ⟨rfl, h1⟩
      have E1 := hide (hw.out.trans h1); clear h1 d0
      cases hv : sameR x r with
      | true =>
        have Hv := hide hv; clear hv
        go_wp2_with fail
        go_ret
        exact ⟨ret_int (by rw [ho.out, hd.out]; simp [Hv.out]), E1.out⟩
      | false =>
        have Hv := hide hv; clear hv
        go_wp2_with fail
        go_roundw
        case rel => exact ⟨i + 1, by omega, by go_num, by rw [Hid, ho.out, hd.out]; simp [Hv.out], E1.out⟩
        case measure => simp [intOf]; omega
    · go_wp2_with fail
      go_ret
      exact ⟨ret_int (by rw [ho.out, List.drop_of_length_le (by have := Ha.out.len; omega)]; rfl), hw.out⟩

end Go.Proofs.YtahdiiaadjdmcaaGreat
