/-
  Valid: of a value, of a row: the program's and the document's.
-/
import Derived.Test.YtoahckibhmoikaaDoorGround
namespace Go.Proofs.YtoahckibhmoikaaDoor
open Go.RowKit

def validV (v : V) : Bool := if v.k = 1 then v.t.toList.isEmpty else if v.k = 2 then (if v.i = 0 then decide ((v.t.size : Int) ≤ 64) else false) else false
def validR (r : List V) : Bool := decide (r.length ≤ 30) && r.all validV

set_option maxRecDepth 100000 in
theorem val_valid (v : V) (w : World) (hs : v.t.size ≤ 1048576) : Calls Tryd.prog 40 #[v.val] w fun e w' => e = .returned (.bool (validV v)) ∧ Ext w w' := by
  obtain ⟨k, i, t⟩ := v
  simp only [V.val]
  dsimp only at hs
  by_cases h1 : k = 1
  · subst h1
    go_enter Tryd.func40, Tryd.ntmps40
    go_wp2
    go_ret
    exact ⟨ret_bool (by simp [validV]), Ext.alloc _ _⟩
  · have h1' : (k == 1) = false := by simpa using h1
    have H1 := hide h1; clear h1
    by_cases h2 : k = 2
    · subst h2
      clear H1
      by_cases h3 : i = 0
      · subst h3
        go_enter Tryd.func40, Tryd.ntmps40
        go_wp2
        go_ret
        exact ⟨ret_bool (by simp [validV]), Ext.alloc _ _⟩
      · have h3' : (i == 0) = false := by simpa using h3
        have H3 := hide h3; clear h3
        go_enter Tryd.func40, Tryd.ntmps40
        go_wp2
        go_ret
        exact ⟨ret_bool (by simp [validV, H3.out]), Ext.alloc _ _⟩
    · have h2' : (k == 2) = false := by simpa using h2
      have H2 := hide h2; clear h2
      go_enter Tryd.func40, Tryd.ntmps40
      go_wp2
      go_ret
      exact ⟨ret_bool (by simp [validV, H1.out, H2.out]), Ext.alloc _ _⟩

theorem size0 (t : ByteArray) : ((t.size : Int) == 0) = t.toList.isEmpty := by
  rw [ByteArray.toList_eq, Bool.eq_iff_iff, List.isEmpty_iff]
  simp only [beq_iff_eq]
  have : t.data.toList.length = t.size := Array.length_toList
  constructor
  · intro h; exact List.eq_nil_of_length_eq_zero (by omega)
  · intro h; rw [h] at this; simp at this; omega

set_option maxRecDepth 100000 in
theorem ref_val_valid (v : V) (w : World) (hs : v.t.size ≤ 1048576) : Calls Tryd.prog 41 #[v.val] w fun e w' => e = .returned (.bool (validV v)) ∧ Ext w w' := by
  obtain ⟨k, i, t⟩ := v
  simp only [V.val]
  dsimp only at hs
  by_cases h1 : k = 1
  · subst h1
    have hz := hide (size0 t)
    go_enter Tryd.func41, Tryd.ntmps41
    go_wp2
    go_ret
    exact ⟨ret_bool (by simp [validV, ← hz.out]), Ext.alloc _ _⟩
  · have h1' : (k == 1) = false := by simpa using h1
    have H1 := hide h1; clear h1
    by_cases h2 : k = 2
    · subst h2
      clear H1
      by_cases h3 : i = 0
      · subst h3
        go_enter Tryd.func41, Tryd.ntmps41
        go_wp2
        go_ret
        exact ⟨ret_bool (by simp [validV]), Ext.alloc _ _⟩
      · have h3' : (i == 0) = false := by simpa using h3
        have H3 := hide h3; clear h3
        go_enter Tryd.func41, Tryd.ntmps41
        go_wp2
        go_ret
        exact ⟨ret_bool (by simp [validV, H3.out]), Ext.alloc _ _⟩
    · have h2' : (k == 2) = false := by simpa using h2
      have H2 := hide h2; clear h2
      go_enter Tryd.func41, Tryd.ntmps41
      go_wp2
      go_ret
      exact ⟨ret_bool (by simp [validV, H1.out, H2.out]), Ext.alloc _ _⟩
end Go.Proofs.YtoahckibhmoikaaDoor
