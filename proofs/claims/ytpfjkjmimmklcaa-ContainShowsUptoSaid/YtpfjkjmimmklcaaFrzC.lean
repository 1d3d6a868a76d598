/-
  Freeze's closures.
-/
import Derived.Test.YtpfjkjmimmklcaaIdxB
import Derived.Test.YtpfjkjmimmklcaaFrzM
import Derived.Test.YtpfjkjmimmklcaaDigits
import Derived.Test.YtpfjkjmimmklcaaArrG
namespace Go.Proofs.Ytpfjkjmimmklcaa
open Go.RowKit

set_option maxRecDepth 100000 in
theorem ice_any (vs : List ByteArray) (x : ByteArray) (g : Nat) (A : Option Addr) (n c : Nat) (w : World) (hc : w.cell? ⟨g, 0, none⟩ = some (.slice A n c)) (hv : LAt RS 1 w A n vs) (hn : n ≤ 1125899906842624) :
    Calls Try.prog 62 #[.string x, .pointer (some ⟨g, 0, none⟩)] w fun e w' => e = .returned (.agg #[.int .i64 3, .int .i64 (firstI (eqB x) vs 0), .string ⟨#[]⟩]) ∧ Ext w w' := by
  have HI := hide (index_str vs x A n c (w.alloc (.cells #[.int .i64 0, .int .i64 0, .string ⟨#[]⟩] 58)) (hv.ext RS.stab (Ext.alloc _ _)) hn)
  have hr := firstI_le (eqB x) vs 0
  have hl := hv.len
  have hb1 : -9223372036854775808 ≤ firstI (eqB x) vs 0 := by omega
  have hb2 : firstI (eqB x) vs 0 ≤ 9223372036854775807 := by omega
  have hc2 : (w.alloc (.cells #[.int .i64 0, .int .i64 0, .string ⟨#[]⟩] 58)).cell? ⟨g, 0, none⟩ = some (.slice A n c) := (Ext.alloc _ _).cell hc
  clear hr hl hv hc
  generalize firstI (eqB x) vs 0 = k at *
  go_enter Try.func62, Try.ntmps62
  go_wp2_with ((with_reducible refine HI.out.mono ?_); rintro e w1 ⟨rfl, rfl⟩)
  refine bodyPost_ret (v := .agg #[.int .i64 3, .int .i64 k, .string ⟨#[]⟩]) (by simp [results, Try.results62, go_sem]) rfl ?_
  exact ⟨rfl, Ext.alloc _ _⟩

theorem freeze2 (t : Tbl) (rel : ByteArray) (v : Value) (g : Nat) (w : World) (hc : w.cell? ⟨g, 0, none⟩ = some (.string rel)) (hv : VB w v t) :
    Calls Try.prog 65 #[v, .pointer (some ⟨g, 0, none⟩)] w fun e w' => e = .returned (.bool (relB rel t)) ∧ Ext w w' := by
  obtain ⟨A, n, c, rfl, _⟩ := hv
  have hb : relB rel t = (t.rel.toList == rel.toList) := by
    unfold relB
    rw [Bool.eq_iff_iff, decide_eq_true_iff, beq_iff_eq, toList_iff]
  have hc2 : (w.alloc (.cells #[.string t.rel, .slice A n c] 43)).cell? ⟨g, 0, none⟩ = some (.string rel) := (Ext.alloc _ _).cell hc
  have HB := hide hb; clear hb hc
  go_enter Try.func65, Try.ntmps65
  go_wp2_with fail
  go_ret
  exact ⟨ret_bool (by rw [HB.out]), Ext.alloc _ _⟩

theorem freeze3 (r s : List V) (v : Value) (g : Nat) (A : Option Addr) (n c : Nat) (w : World) (hc : w.cell? ⟨g, 0, none⟩ = some (.slice A n c)) (hr : RowAt w A n r) (hv : VR w v s) (hn : n ≤ 140737488355328) (hs : s.length ≤ 140737488355328) :
    Calls Try.prog 67 #[v, .pointer (some ⟨g, 0, none⟩)] w fun e w' => e = .returned (.bool (sameR s r)) ∧ Ext w w' := by
  obtain ⟨A1, n1, c1, rfl, h1⟩ := hv
  have HC := hide (row_cmp r s A A1 n n1 c c1 w hr h1 hn (by have := h1.len; omega))
  have hb : sameR s r = (cmpR r s == 0) := by
    rw [Bool.eq_iff_iff, beq_iff_eq, sameR_iff, isCmp_row.eq]
    exact eq_comm
  have HB := hide hb
  clear hb hr h1
  generalize cmpR r s = k at *
  go_enter Try.func67, Try.ntmps67
  go_wp2_with fail
  refine HC.out.mono ?_
  rintro e w1 ⟨rfl, x1⟩
  have X1 := hide x1; clear x1
  go_wp2_with fail
  go_ret
  exact ⟨ret_bool (by rw [HB.out]), X1.out⟩
end Go.Proofs.Ytpfjkjmimmklcaa
