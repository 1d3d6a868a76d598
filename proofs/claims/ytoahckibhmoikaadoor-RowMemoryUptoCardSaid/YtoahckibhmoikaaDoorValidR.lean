import Derived.Test.YtoahckibhmoikaaDoorValid
namespace Go.Proofs.YtoahckibhmoikaaDoor
open Go.RowKit

def smallR (r : List V) : Prop := ∀ v ∈ r, v.t.size ≤ 1048576
theorem smallR.get {r : List V} (h : smallR r) {i : Nat} {v : V} (hv : r[i]? = some v) : v.t.size ≤ 1048576 := h v (List.mem_of_getElem? hv)

theorem valid_closure (v : V) (w : World) (hs : v.t.size ≤ 1048576) : Calls Tryd.prog 39 #[v.val] w fun e w' => e = .returned (.bool (!validV v)) ∧ Ext w w' := by
  have H := hide (val_valid v (w.alloc (.cells #[.int .i64 v.k, .int .i64 v.i, .string v.t] 54)) hs)
  have HE := hide (Ext.alloc w (.cells #[.int .i64 v.k, .int .i64 v.i, .string v.t] 54))
  simp only [V.val] at *
  go_enter Tryd.func39, Tryd.ntmps39
  go_wp2_with fail
  refine H.out.mono ?_
  rintro e w1 ⟨rfl, h1⟩
  have E1 := hide (HE.out.trans h1); clear h1
  go_wp2_with fail
  go_ret
  exact ⟨rfl, E1.out⟩

def firstBad : List V → Nat → Int
  | [], _ => -1
  | v :: r, i => if validV v then firstBad r (i + 1) else i
theorem firstBad_drop (r : List V) (i : Nat) (v : V) (h : r[i]? = some v) : firstBad (r.drop i) i = if validV v then firstBad (r.drop (i + 1)) (i + 1) else (i : Int) := by
  rw [List.getElem?_eq_some_iff] at h
  obtain ⟨h, e⟩ := h
  rw [List.drop_eq_getElem_cons h, e]; rfl
theorem firstBad_iff : ∀ (r : List V) (i : Nat), 0 ≤ firstBad r i ↔ r.all validV = false
  | [], _ => by simp [firstBad]
  | v :: r, i => by
    have ih := firstBad_iff r (i + 1)
    by_cases h : validV v = true
    · simp only [firstBad, h, if_true, List.all_cons, Bool.true_and]; exact ih
    · have h : validV v = false := by simpa using h
      simp [firstBad, h]
theorem firstBad_all (r : List V) (i : Nat) : decide (0 ≤ firstBad r i) = !r.all validV := by
  rw [Bool.eq_iff_iff, decide_eq_true_iff, firstBad_iff]; simp

set_option maxRecDepth 100000 in
theorem index_func (r : List V) (A : Option Addr) (n c : Nat) (w : World) (ha : RowAt w A n r) (hn : n ≤ 1048576) (hs : smallR r) :
    Calls Tryd.prog 54 #[.slice A n c, .func (.func 39) #[] #[]] w fun e w' => e = .returned (.int .i64 (firstBad r 0)) ∧ Ext w w' := by
  have Ha := hide ha; have Hs := hide hs; clear ha hs
  go_enter Tryd.func54, Tryd.ntmps54
  go_wp2
  go_loopw [4, 5, 8] (fun _ _ k w' => ∃ i : Nat, i ≤ n ∧ k = .int .i64 i ∧ Hid (firstBad r 0 = firstBad (r.drop i) i) ∧ Hid (Ext w w')) (fun _ _ k _ => n - (intOf k).toNat)
  case atStart => exact ⟨0, by omega, rfl, rfl, Ext.refl _⟩
  case round =>
    obtain ⟨i, hin, rfl, ho, hw⟩ := hrel
    by_cases h : i < n
    · obtain ⟨b, off, x, rfl, hx, hb1, c0, c1, c2⟩ := (Ha.out.ext hw.out).get h
      have hd := hide (firstBad_drop r i x hx)
      have hsx := hide (Hs.out.get hx); clear hx
      go_wp2_with fail
      refine (valid_closure x _ hsx.out).mono ?_
      rintro e w1 ⟨rfl, h1⟩
      have E1 := hide (hw.out.trans h1)
      clear h1 c0 c1 c2 hb1
      cases hv : validV x with
      | true =>
        have Hv := hide hv; clear hv
        go_wp2_with fail
        go_roundw
        case rel => exact ⟨i + 1, by omega, by go_num, by rw [Hid, ho.out, hd.out, Hv.out]; rfl, E1.out⟩
        case measure => simp [intOf]; omega
      | false =>
        have Hv := hide hv; clear hv
        go_wp2_with fail
        go_ret
        exact ⟨ret_int (by rw [ho.out, hd.out, Hv.out]; rfl), E1.out⟩
    · go_wp2_with fail
      go_ret
      exact ⟨ret_int (by rw [ho.out, List.drop_of_length_le (by have := Ha.out.len; omega)]; rfl), hw.out⟩

theorem contains_func (r : List V) (A : Option Addr) (n c : Nat) (w : World) (ha : RowAt w A n r) (hn : n ≤ 1048576) (hs : smallR r) :
    Calls Tryd.prog 38 #[.slice A n c, .func (.func 39) #[] #[]] w fun e w' => e = .returned (.bool (!r.all validV)) ∧ Ext w w' := by
  have H := hide (index_func r A n c w ha hn hs); clear ha hs
  go_enter Tryd.func38, Tryd.ntmps38
  go_wp2_with fail
  refine H.out.mono ?_
  rintro e w1 ⟨rfl, h1⟩
  have E1 := hide h1; clear h1
  go_wp2_with fail
  go_ret
  exact ⟨ret_bool (firstBad_all r 0), E1.out⟩

theorem row_valid (r : List V) (A : Option Addr) (n c : Nat) (w : World) (ha : RowAt w A n r) (hn : n ≤ 1048576) (hs : smallR r) :
    Calls Tryd.prog 17 #[.slice A n c] w fun e w' => e = .returned (.bool (validR r)) ∧ Ext w w' := by
  have H := hide (contains_func r A n c w ha hn hs)
  have hl := hide ha.len; clear ha hs
  by_cases h : n ≤ 30
  · go_enter Tryd.func17, Tryd.ntmps17
    go_wp2_with fail
    refine H.out.mono ?_
    rintro e w1 ⟨rfl, h1⟩
    have E1 := hide h1; clear h1
    go_wp2_with fail
    go_ret
    exact ⟨ret_bool (by simp [validR, ← hl.out, h]), E1.out⟩
  · go_enter Tryd.func17, Tryd.ntmps17
    go_wp2_with fail
    go_ret
    exact ⟨ret_bool (by simp [validR, ← hl.out, h]), Ext.refl _⟩

theorem all_drop (r : List V) (i : Nat) (v : V) (h : r[i]? = some v) : (r.drop i).all validV = (validV v && (r.drop (i + 1)).all validV) := by
  rw [List.getElem?_eq_some_iff] at h
  obtain ⟨h, e⟩ := h
  rw [List.drop_eq_getElem_cons h, e]; rfl

set_option maxRecDepth 100000 in
theorem ref_valid (r : List V) (A : Option Addr) (n c : Nat) (w : World) (ha : RowAt w A n r) (hn : n ≤ 1048576) (hs : smallR r) :
    Calls Tryd.prog 19 #[.slice A n c] w fun e w' => e = .returned (.bool (validR r)) ∧ Ext w w' := by
  have Ha := hide ha; have Hs := hide hs; have hl := hide ha.len; clear ha hs
  by_cases h30 : n ≤ 30
  · go_enter Tryd.func19, Tryd.ntmps19
    go_wp2
    go_loopw [2, 3] (fun _ k w' => ∃ i : Nat, i ≤ n ∧ k = .int .i64 i ∧ Hid (r.all validV = (r.drop i).all validV) ∧ Hid (Ext w w')) (fun _ k _ => n - (intOf k).toNat)
    case atStart => exact ⟨0, by omega, rfl, rfl, Ext.refl _⟩
    case round =>
      obtain ⟨i, hin, rfl, ho, hw⟩ := hrel
      by_cases h : i < n
      · obtain ⟨b, off, x, rfl, hx, hb1, c0, c1, c2⟩ := (Ha.out.ext hw.out).get h
        have hd := hide (all_drop r i x hx)
        have hsx := hide (Hs.out.get hx); clear hx
        go_wp2_with fail
        refine (ref_val_valid x _ hsx.out).mono ?_
        rintro e w1 ⟨rfl, h1⟩
        have E1 := hide (hw.out.trans h1)
        clear h1 c0 c1 c2 hb1
        cases hv : validV x with
        | true =>
          have Hv := hide hv; clear hv
          go_wp2_with fail
          go_roundw
          case rel => exact ⟨i + 1, by omega, by go_num, by rw [Hid, ho.out, hd.out, Hv.out]; simp, E1.out⟩
          case measure => simp [intOf]; omega
        | false =>
          have Hv := hide hv; clear hv
          go_wp2_with fail
          go_ret
          exact ⟨ret_bool (by rw [validR, ho.out, hd.out, Hv.out]; simp), E1.out⟩
      · go_wp2_with fail
        go_ret
        exact ⟨ret_bool (by rw [validR, ho.out, List.drop_of_length_le (by have := hl.out; omega)]; simp [← hl.out, h30]), hw.out⟩
  · go_enter Tryd.func19, Tryd.ntmps19
    go_wp2
    go_ret
    exact ⟨ret_bool (by simp [validR, ← hl.out, h30]), Ext.refl _⟩
end Go.Proofs.YtoahckibhmoikaaDoor
