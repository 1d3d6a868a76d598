/-
  slices.Clone: the same cells in a row of its own.
-/
import Derived.Test.YtahdiiaadjdmcaaStoI
namespace Go.Proofs.Ytahdiiaadjdmcaa
open Go.RowKit

set_option maxRecDepth 100000 in
theorem cloneI (cells : List Value) (A : Option Addr) (n c : Nat) (w : World) (ha : Sl w A n 1 cells) (h1 : OneCells cells) (hn : n ≤ 16777216) :
    Calls Try.prog 19 #[.slice A n c] w (RetOwn w 3 1 n cells) := by
  obtain ⟨i0, hi0, hz0, hz1, hz2⟩ := info_parts infoI
  have Ha := hide ha; have H1 := hide h1
  have heq : ∀ (w : World) (a : Option Addr) (n c n' c' : Nat), (binOp .eql 23 (.slice a n c) (.slice none n' c')).run Try.prog w = .ok (.bool a.isNone) w := fun w a n c n' c' => Lib.run_eql_slice_nil w _ _ a n c n' c' Try.underlying23
  clear ha h1
  cases A with
  | none =>
    have hn0 : n = 0 := by
      rcases Nat.eq_zero_or_pos n with h | h
      · exact h
      · obtain ⟨b, off, hA, _⟩ := Ha.out.2 h; cases hA
    subst hn0
    have hc : cells = [] := List.eq_nil_of_length_eq_zero (by have := Ha.out.1; omega)
    subst hc
    go_enter Try.func19, Try.ntmps19
    go_wp2_with fail
    go_ret
    exact ⟨none, 0, rfl, World.ownsRow_nil _ _ _ _, Ext.refl _⟩
  | some a =>
    have hown := hide (show (w.alloc (.cells #[] 3)).ownsRow w.heap.size 3 1 (.slice (some ⟨w.heap.size, 0, none⟩) 0 0) 0 [] from ⟨rfl, .inr ⟨w.heap.size, 0, #[], rfl, Nat.le_refl _, heap_alloc_new w _, Nat.le_refl _, by unfold maxLen; omega, rfl, rfl⟩⟩)
    go_enter Try.func19, Try.ntmps19
    go_wp2_with (at_builtin; refine wpList_append_sl rfl (.tmp 5) (.tmp 6) _ rfl 3 i0 _ 1 8 Try.underlying23 hi0 hz0 hz1 hz2 rfl (by omega) w (Ext.alloc _ _) _ 0 [] rfl hown.out _ n c cells rfl (Ha.out.ext (Ext.alloc _ _)) H1.out (by unfold maxLen; omega) (by omega) ?_; intro A8 c8 w8 own8 E8 G8 L8)
    go_ret
    have o := own8.out
    simp only [Nat.zero_add, List.nil_append] at o
    exact ⟨A8, c8, by simp, o, E8.out⟩

end Go.Proofs.Ytahdiiaadjdmcaa
