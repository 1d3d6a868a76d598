/-
  slices.IndexFunc, slices.ContainsFunc: the first element that a function holds of, whatever the function.
-/
import Derived.Test.YtpfjkjmimmklcaaHomG
namespace Go.Proofs.Ytpfjkjmimmklcaa
open Go.RowKit

set_option maxRecDepth 100000 in
theorem index_funcR (xs : List (List V)) (p : List V → Bool) (g : FuncId) (cb : Array Value) (A : Option Addr) (n c : Nat) (w : World) (ha : LAt RRow 1 w A n xs) (hn : n ≤ 1048576)
    (eg : ∀ args w, (callFunc g args).run Try.prog w = .ok (.enter g args) w)
    (hf : ∀ (x : List V) (v : Value) (w1 : World), x ∈ xs → Ext w w1 → VR w1 v x → Calls Try.prog g (#[v] ++ cb) w1 fun e w2 => e = .returned (.bool (p x)) ∧ Ext w1 w2) :
    Calls Try.prog 96 #[.slice A n c, .func (.func g) #[] cb] w fun e w' => e = .returned (.int .i64 (firstI p xs 0)) ∧ Ext w w' := by
  have Ha := hide ha; have Hf := hide hf; clear ha hf
  go_enter Try.func96, Try.ntmps96
  go_wp2
  go_loopw [4, 5, 8] (fun _ _ k w' => ∃ i : Nat, i ≤ n ∧ k = .int .i64 i ∧ Hid (firstI p xs 0 = firstI p (xs.drop i) i) ∧ Hid (Ext w w')) (fun _ _ k _ => n - (intOf k).toNat)
  case atStart => exact ⟨0, by omega, rfl, rfl, Ext.refl _⟩
  case round =>
    obtain ⟨i, hin, rfl, ho, hw⟩ := hrel
    by_cases h : i < n
    · obtain ⟨b, off, x, cs, rfl, hx, hb1, hcl, hone, ⟨A9, n9, c9, rfl, hL⟩, hcell⟩ := (Ha.out.ext RRow.stab hw.out).get (by omega) h
      have c0 := hcell 0 (by omega)
      simp only [Nat.mul_one, Nat.add_zero, List.getElem?_cons_zero, List.getElem?_cons_succ] at c0
      have hd := hide (firstI_drop p xs i x hx)
      have hm := hide (List.mem_of_getElem? hx)
      clear hcell hx hcl hone
      go_wp2_with fail
      refine (Hf.out x _ wr hm.out hw.out ⟨A9, n9, c9, rfl, hL⟩).mono ?_
      rintro e w1 ⟨rfl, h1⟩
      have E1 := hide (hw.out.trans h1)
      clear h1 c0 hb1
      cases hv : p x with
      | true =>
        have Hv := hide hv; clear hv
        go_wp2_with fail
        go_ret
        exact ⟨ret_int (by rw [ho.out, hd.out, if_pos Hv.out]), E1.out⟩
      | false =>
        have Hv := hide hv; clear hv
        go_wp2_with fail
        go_roundw
        case rel => exact ⟨i + 1, by omega, by go_num, by rw [Hid, ho.out, hd.out, Hv.out]; rfl, E1.out⟩
        case measure => simp [intOf]; omega
    · go_wp2_with fail
      go_ret
      exact ⟨ret_int (by rw [ho.out, List.drop_of_length_le (by have := Ha.out.len; omega)]; rfl), hw.out⟩

theorem contains_funcR (xs : List (List V)) (p : List V → Bool) (g : FuncId) (cb : Array Value) (A : Option Addr) (n c : Nat) (w : World) (ha : LAt RRow 1 w A n xs) (hn : n ≤ 1048576)
    (eg : ∀ args w, (callFunc g args).run Try.prog w = .ok (.enter g args) w)
    (hf : ∀ (x : List V) (v : Value) (w1 : World), x ∈ xs → Ext w w1 → VR w1 v x → Calls Try.prog g (#[v] ++ cb) w1 fun e w2 => e = .returned (.bool (p x)) ∧ Ext w1 w2) :
    Calls Try.prog 66 #[.slice A n c, .func (.func g) #[] cb] w fun e w' => e = .returned (.bool (xs.any p)) ∧ Ext w w' := by
  have H := hide (index_funcR xs p g cb A n c w ha hn eg hf); clear ha hf eg
  go_enter Try.func66, Try.ntmps66
  go_wp2_with fail
  refine H.out.mono ?_
  rintro e w1 ⟨rfl, h1⟩
  have E1 := hide h1; clear h1
  go_wp2_with fail
  go_ret
  exact ⟨ret_bool (firstI_any p xs 0), E1.out⟩

set_option maxRecDepth 100000 in
theorem index_funcB (xs : List (Tbl)) (p : Tbl → Bool) (g : FuncId) (cb : Array Value) (A : Option Addr) (n c : Nat) (w : World) (ha : LAt RB 2 w A n xs) (hn : n ≤ 1048576)
    (eg : ∀ args w, (callFunc g args).run Try.prog w = .ok (.enter g args) w)
    (hf : ∀ (x : Tbl) (v : Value) (w1 : World), x ∈ xs → Ext w w1 → VB w1 v x → Calls Try.prog g (#[v] ++ cb) w1 fun e w2 => e = .returned (.bool (p x)) ∧ Ext w1 w2) :
    Calls Try.prog 64 #[.slice A n c, .func (.func g) #[] cb] w fun e w' => e = .returned (.int .i64 (firstI p xs 0)) ∧ Ext w w' := by
  have Ha := hide ha; have Hf := hide hf; clear ha hf
  go_enter Try.func64, Try.ntmps64
  go_wp2
  go_loopw [4, 5, 8] (fun _ _ k w' => ∃ i : Nat, i ≤ n ∧ k = .int .i64 i ∧ Hid (firstI p xs 0 = firstI p (xs.drop i) i) ∧ Hid (Ext w w')) (fun _ _ k _ => n - (intOf k).toNat)
  case atStart => exact ⟨0, by omega, rfl, rfl, Ext.refl _⟩
  case round =>
    obtain ⟨i, hin, rfl, ho, hw⟩ := hrel
    by_cases h : i < n
    · obtain ⟨b, off, x, cs, rfl, hx, hb1, hcl, hone, ⟨A9, n9, c9, rfl, hL⟩, hcell⟩ := (Ha.out.ext RB.stab hw.out).get (by omega) h
      have c0 := hcell 0 (by omega)
      have c1 := hcell 1 (by omega)
      simp only [Nat.mul_one, Nat.add_zero, List.getElem?_cons_zero, List.getElem?_cons_succ] at c0 c1
      have hd := hide (firstI_drop p xs i x hx)
      have hm := hide (List.mem_of_getElem? hx)
      clear hcell hx hcl hone
      go_wp2_with fail
      refine (Hf.out x _ wr hm.out hw.out ⟨A9, n9, c9, rfl, hL⟩).mono ?_
      rintro e w1 ⟨rfl, h1⟩
      have E1 := hide (hw.out.trans h1)
      clear h1 c0 c1 hb1
      cases hv : p x with
      | true =>
        have Hv := hide hv; clear hv
        go_wp2_with fail
        go_ret
        exact ⟨ret_int (by rw [ho.out, hd.out, if_pos Hv.out]), E1.out⟩
      | false =>
        have Hv := hide hv; clear hv
        go_wp2_with fail
        go_roundw
        case rel => exact ⟨i + 1, by omega, by go_num, by rw [Hid, ho.out, hd.out, Hv.out]; rfl, E1.out⟩
        case measure => simp [intOf]; omega
    · go_wp2_with fail
      go_ret
      exact ⟨ret_int (by rw [ho.out, List.drop_of_length_le (by have := Ha.out.len; omega)]; rfl), hw.out⟩

end Go.Proofs.Ytpfjkjmimmklcaa