import Derived.Test.YtoahckibhmoikaaDoorProj
import Derived.Test.YtoahckibhmoikaaDoorLawValids
namespace Go.Proofs.YtoahckibhmoikaaDoor
open Go.RowKit

theorem RetOwn.nums {w0 w' : World} {e : TypeId} {n : Nat} {r : List Int} {en : Ending} (h : RetOwn w0 e 1 n (r.map (Value.int .i64)) en w') : ∃ A c, en = .returned (.slice A n c) ∧ NumAt w' A n r ∧ Ext w0 w' := by
  obtain ⟨A, c, he, ho, hE⟩ := h
  exact ⟨A, c, he, NumAt.own ho, hE⟩
theorem RetRowErr.row {w0 w' : World} {e : TypeId} {res : List V × Int} {en : Ending} (h : RetRowErr w0 e res en w') : ∃ A c, en = .returned (.tuple #[.slice A res.1.length c, .int .i64 res.2]) ∧ RowAt w' A res.1.length res.1 ∧ Ext w0 w' := by
  obtain ⟨A, c, he, ho, hE⟩ := h
  exact ⟨A, c, he, RowAt.own ho, hE⟩
theorem projR_len (r : List V) (cols : List Int) : (projR r cols).1.length ≤ cols.length := by
  unfold projR
  split
  · simp
  · split
    · rename_i l h; exact Nat.le_of_eq (projGo_len r cols l h)
    · simp
theorem projR_err (r : List V) (cols : List Int) : (projR r cols).2 = 0 ∨ (projR r cols).2 = 20 ∨ (projR r cols).2 = 23 := by
  unfold projR
  split
  · simp
  · split <;> simp
theorem sameR_refl (r : List V) : sameR r r = true := sameR_iff.2 rfl

theorem law_projects (r : List V) (cols : List Int) (A B : Option Addr) (n m c d : Nat) (w : World) (ha : RowAt w A n r) (hn : n ≤ 1048576) (_hs : smallR r) (_hw : wfR r) (hb : NumAt w B m cols) (hm : m ≤ 1048576) (_hwb : wfI cols) :
    Calls Tryd.prog 5 #[.slice A n c, .slice B m d] w fun e w' => e = .returned (.bool true) ∧ Ext w w' := by
  have Ha := hide ha; have Hb := hide hb; have hpl := projR_len r cols; have Hl := hide hb.len; clear ha hb _hs _hw _hwb
  obtain ⟨p, Hp⟩ : ∃ p, Hid (p = projR r cols) := ⟨_, rfl⟩
  have hpl : p.1.length ≤ 1048576 := by rw [Hp.out]; have := Hl.out; omega
  have he := projR_err r cols
  rw [← Hp.out] at he
  have he1 : 0 ≤ p.2 := by omega
  have he2 : p.2 ≤ 100 := by omega
  clear he
  go_enter Tryd.func5, Tryd.ntmps5
  go_wp2_with fail
  refine (ref_proj_any r cols A B n m c d _ Ha.out Hb.out (by omega) (by omega)).mono ?_
  intro e w1 h2
  obtain ⟨A1, c1, rfl, h2, h3⟩ := h2.row
  rw [← Hp.out] at h2 ⊢
  have R1 := hide h2
  have E1 := hide h3; clear h2 h3
  go_wp2_with fail
  refine (copy_any r A n c _ (Ha.out.ext E1.out) (by omega)).mono ?_
  intro e w2 h2
  obtain ⟨A2, c2, rfl, h2, h3⟩ := h2.row
  have R2 := hide h2
  have E2 := hide (E1.out.trans h3); have E12 := hide h3; clear h2 h3
  go_wp2_with fail
  refine (ints_any cols B m d _ (Hb.out.ext E2.out) (by omega)).mono ?_
  intro e w3 h2
  obtain ⟨A3, c3, rfl, h2, h3⟩ := h2.nums
  have R3 := hide h2
  have E3 := hide (E2.out.trans h3); have E23 := hide h3; clear h2 h3
  go_wp2_with fail
  refine (proj_any r cols A2 A3 n m c2 c3 _ (R2.out.ext E23.out) R3.out (by omega) (by omega)).mono ?_
  intro e w4 h2
  obtain ⟨A4, c4, rfl, h2, h3⟩ := h2.row
  rw [← Hp.out] at h2 ⊢
  have R4 := hide h2
  have E4 := hide (E3.out.trans h3); have E14 := hide ((E12.out.trans E23.out).trans h3); clear h2 h3
  go_wp2_with fail
  refine (awake_any _).mono ?_
  rintro e w5 ⟨rfl, h1⟩
  have E5 := hide (E4.out.trans h1); have E45 := hide h1; clear h1
  go_wp2_with fail
  refine (same_any p.1 p.1 A4 A1 _ _ c4 c1 _ (R4.out.ext E45.out) (R1.out.ext (E14.out.trans E45.out)) (by omega)).mono ?_
  rintro e w6 ⟨rfl, h1⟩
  have E6 := hide (E5.out.trans h1); clear h1
  rw [sameR_refl]
  go_wp2_with fail
  go_ret
  exact ⟨rfl, E6.out⟩
end Go.Proofs.YtoahckibhmoikaaDoor
