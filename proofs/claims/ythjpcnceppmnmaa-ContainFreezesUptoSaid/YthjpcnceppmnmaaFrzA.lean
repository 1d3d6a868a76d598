/-
  Lists of rows, and tables: are they the same; does a row stand in a list.
-/
import Derived.Test.YthjpcnceppmnmaaFreezeP
import Derived.Test.YthjpcnceppmnmaaRefA
namespace Go.Proofs.Ythjpcnceppmnmaa
open Go.RowKit

def RB : World → List Value → Tbl → Prop := fun w cs t => ∃ A n c, cs = [.string t.rel, .slice A n c] ∧ LAt RRow 1 w A n t.rows
theorem RB.stab : Stab RB := fun _ _ _ _ hw ⟨A, n, c, h1, h2⟩ => ⟨A, n, c, h1, h2.ext RRow.stab hw⟩
def VB : World → Value → Tbl → Prop := fun w v t => ∃ A n c, v = .agg #[.string t.rel, .slice A n c] ∧ LAt RRow 1 w A n t.rows
theorem VB.ext {w w' : World} {v : Value} {t : Tbl} (h : VB w v t) (hw : Ext w w') : VB w' v t := by
  obtain ⟨A, n, c, h1, h2⟩ := h
  exact ⟨A, n, c, h1, h2.ext RRow.stab hw⟩
theorem LAt.row_ {w : World} {A : Option Addr} {n : Nat} {xs : List (List V)} (h : LAt RRow 1 w A n xs) {i : Nat} (hi : i < n) :
    ∃ b off r A9 n9 c9, A = some ⟨b, off, none⟩ ∧ xs[i]? = some r ∧ b < w.heap.size ∧ w.cell? ⟨b, off + i, none⟩ = some (.slice A9 n9 c9) ∧ RowAt w A9 n9 r := by
  obtain ⟨b, off, r, cs, hA, hx, hb1, _, _, ⟨A9, n9, c9, rfl, hR⟩, hcell⟩ := h.get (by omega) hi
  have := hcell 0 (by omega)
  rw [Nat.mul_one, Nat.add_zero] at this
  exact ⟨b, off, r, A9, n9, c9, hA, hx, hb1, this, hR⟩
theorem LAt.tab_ {w : World} {A : Option Addr} {n : Nat} {xs : List Tbl} (h : LAt RB 2 w A n xs) {i : Nat} (hi : i < n) :
    ∃ b off t A9 n9 c9, A = some ⟨b, off, none⟩ ∧ xs[i]? = some t ∧ b < w.heap.size ∧ w.cell? ⟨b, off + i * 2, none⟩ = some (.string t.rel) ∧ w.cell? ⟨b, off + i * 2 + 1, none⟩ = some (.slice A9 n9 c9) ∧ LAt RRow 1 w A9 n9 t.rows := by
  obtain ⟨b, off, r, cs, hA, hx, hb1, _, _, ⟨A9, n9, c9, rfl, hR⟩, hcell⟩ := h.get (by omega) hi
  exact ⟨b, off, r, A9, n9, c9, hA, hx, hb1, hcell 0 (by omega), hcell 1 (by omega), hR⟩

set_option maxRecDepth 100000 in
theorem same_all (xs ys : List (List V)) (A B : Option Addr) (n m c d : Nat) (w : World) (ha : LAt RRow 1 w A n xs) (hb : LAt RRow 1 w B m ys) (hn : n ≤ 140737488355328) (hr : ∀ r ∈ xs, r.length ≤ 140737488355328) :
    Calls Try.prog 34 #[.slice A n c, .slice B m d] w fun e w' => e = .returned (.bool (sameRs xs ys)) ∧ Ext w w' := by
  have Ha := hide ha; have Hb := hide hb; have Hr := hide hr; clear ha hb hr
  by_cases hl : n = m
  · subst hl
    have hne : ((n : Int) != (n : Int)) = false := by simp
    go_enter Try.func34, Try.ntmps34
    go_wp2
    go_loopw [4, 5] (fun _ k w' => ∃ i : Nat, i ≤ n ∧ k = .int .i64 i ∧ Hid (sameRs xs ys = sameRs (xs.drop i) (ys.drop i)) ∧ Hid (Ext w w')) (fun _ k _ => n - (intOf k).toNat)
    case atStart => exact ⟨0, by omega, rfl, rfl, Ext.refl _⟩
    case round =>
      obtain ⟨i, hin, rfl, ho, hw⟩ := hrel
      by_cases h : i < n
      · obtain ⟨b, off, x, A1, n1, c1, rfl, hx, hb1, d0, hR1⟩ := (Ha.out.ext RRow.stab hw.out).row_ h
        obtain ⟨b', off', y, A2, n2, c2, rfl, hy, hb2, d1, hR2⟩ := (Hb.out.ext RRow.stab hw.out).row_ h
        have hd := hide (sameRs_drop xs ys i x y hx hy)
        have hxl : n1 ≤ 140737488355328 := by have := Hr.out x (List.mem_of_getElem? hx); have := hR1.len; omega
        have HS := hide (fun w1 (h1 : Ext wr w1) => same_any x y A1 A2 n1 n2 c1 c2 w1 (hR1.ext h1) (hR2.ext h1) hxl)
        have d0 := cell_ext d0
        have d1 := cell_ext d1
        clear hx hy hR1 hR2 hb1 hb2
        go_wp2_with fail
        refine wp_region_ext 10 (by kernel_rfl) (by kernel_rfl) (by kernel_rfl) ?_
        iterate 10
          refine wpE_k (by kernel_rfl) (by kernel_rfl) ?_
          apply Exists.intro
          refine ⟨fun w1 hw1 => ?_, fun K hK => ?_⟩
          · go_simp; first | done | rfl | exact HS.out w1 hw1
          go_simp; refine hK _ _ ?_; clear hK K
        refine wpE_nil ⟨rfl, by kernel_rfl, fun w1 hw1 => ?_⟩
        simp only [EndQ]
        refine wpList_nil ?_
        clear d0 d1
        have HF := hide (hw.out.trans hw1); clear hw1
        by_cases he : sameR x y = true
        · have he1 : (!sameR x y) = false := by rw [he]; rfl
          simp only [he1]
          have He := hide he; clear he he1
          go_wp2_with fail
          go_roundw
          case rel => exact ⟨i + 1, by omega, by go_num, by rw [Hid, ho.out, hd.out, He.out]; simp, HF.out⟩
          case measure => simp [intOf]; omega
        · have he2 : sameR x y = false := by simpa using he
          have he1 : (!sameR x y) = true := by rw [he2]; rfl
          simp only [he1]
          have He := hide he2; clear he he2 he1
          go_wp2_with fail
          go_ret
          exact ⟨ret_bool (by rw [ho.out, hd.out, He.out]; simp), HF.out⟩
      · have hlen := hide (And.intro Ha.out.len Hb.out.len)
        go_wp2_with fail
        go_ret
        exact ⟨ret_bool (by rw [ho.out, List.drop_of_length_le (by have := hlen.out; omega), List.drop_of_length_le (by have := hlen.out; omega)]; rfl), hw.out⟩
  · have hne : ((n : Int) != (m : Int)) = true := by simp; omega
    have hs := hide (sameRs_len (r := xs) (s := ys) (by have := Ha.out.len; have := Hb.out.len; omega))
    go_enter Try.func34, Try.ntmps34
    go_wp2
    go_ret
    exact ⟨ret_bool hs.out.symm, Ext.refl _⟩

set_option maxRecDepth 100000 in
theorem same_tabs (xs ys : List Tbl) (A B : Option Addr) (n m c d : Nat) (w : World) (ha : LAt RB 2 w A n xs) (hb : LAt RB 2 w B m ys) (hn : n ≤ 140737488355328) (hr : ∀ t ∈ xs, t.rows.length ≤ 140737488355328 ∧ ∀ r ∈ t.rows, r.length ≤ 140737488355328) :
    Calls Try.prog 29 #[.slice A n c, .slice B m d] w fun e w' => e = .returned (.bool (sameTb xs ys)) ∧ Ext w w' := by
  have Ha := hide ha; have Hb := hide hb; have Hr := hide hr; clear ha hb hr
  by_cases hl : n = m
  · subst hl
    have hne : ((n : Int) != (n : Int)) = false := by simp
    go_enter Try.func29, Try.ntmps29
    go_wp2
    go_loopw [4, 5] (fun _ k w' => ∃ i : Nat, i ≤ n ∧ k = .int .i64 i ∧ Hid (sameTb xs ys = sameTb (xs.drop i) (ys.drop i)) ∧ Hid (Ext w w')) (fun _ k _ => n - (intOf k).toNat)
    case atStart => exact ⟨0, by omega, rfl, rfl, Ext.refl _⟩
    case round =>
      obtain ⟨i, hin, rfl, ho, hw⟩ := hrel
      by_cases h : i < n
      · obtain ⟨b, off, x, A1, n1, c1, rfl, hx, hb1, d0, e0, hR1⟩ := (Ha.out.ext RB.stab hw.out).tab_ h
        obtain ⟨b', off', y, A2, n2, c2, rfl, hy, hb2, d1, e1, hR2⟩ := (Hb.out.ext RB.stab hw.out).tab_ h
        have hd := hide (sameTb_drop xs ys i x y hx hy)
        have hx1 := Hr.out x (List.mem_of_getElem? hx)
        have HS := hide (fun w1 (h1 : Ext wr w1) => same_all x.rows y.rows A1 A2 n1 n2 c1 c2 w1 (hR1.ext RRow.stab h1) (hR2.ext RRow.stab h1) (by have := hR1.len; have := hx1.1; omega) hx1.2)
        have d0 := cell_ext d0
        have d1 := cell_ext d1
        have e0 := cell_ext e0
        have e1 := cell_ext e1
        have ht := hide (toList_iff x.rel y.rel)
        clear hx hy hR1 hR2 hb1 hb2 hx1
        by_cases hrel : x.rel = y.rel
        · have Hrel := hide hrel
          clear hrel
          go_wp2_with fail
          refine wp_region_ext 25 (by kernel_rfl) (by kernel_rfl) (by kernel_rfl) ?_
          iterate 10
            refine wpE_k (by kernel_rfl) (by kernel_rfl) ?_
            apply Exists.intro
            refine ⟨fun w1 hw1 => ?_, fun K hK => ?_⟩
            · go_simp; first | done | rfl
            go_simp; refine hK _ _ ?_; clear hK K
          refine wpE_k (by kernel_rfl) (by kernel_rfl) ?_
          refine ⟨.bool false, fun w1 hw1 => ?_, fun K hK => ?_⟩
          · clear d0 d1 e0 e1
            go_simp
            first | done | simp [ht.out, Hrel.out]
          go_simp; refine hK _ _ ?_; clear hK K
          iterate 14
            refine wpE_k (by kernel_rfl) (by kernel_rfl) ?_
            apply Exists.intro
            refine ⟨fun w1 hw1 => ?_, fun K hK => ?_⟩
            · go_simp; first | done | rfl | exact HS.out w1 hw1
            go_simp; refine hK _ _ ?_; clear hK K
          refine wpE_nil ⟨rfl, by kernel_rfl, fun w1 hw1 => ?_⟩
          simp only [EndQ]
          refine wpList_nil ?_
          clear d0 d1 e0 e1
          have HF := hide (hw.out.trans hw1); clear hw1
          by_cases he : sameRs x.rows y.rows = true
          · have he1 : (!sameRs x.rows y.rows) = false := by rw [he]; rfl
            simp only [he1]
            have He := hide he; clear he he1
            go_wp2_with fail
            go_roundw
            case rel => exact ⟨i + 1, by omega, by go_num, by rw [Hid, ho.out, hd.out, He.out]; simp [Hrel.out], HF.out⟩
            case measure => simp [intOf]; omega
          · have he2 : sameRs x.rows y.rows = false := by simpa using he
            have he1 : (!sameRs x.rows y.rows) = true := by rw [he2]; rfl
            simp only [he1]
            have He := hide he2; clear he he2 he1
            go_wp2_with fail
            go_ret
            exact ⟨ret_bool (by rw [ho.out, hd.out, He.out]; simp), HF.out⟩
        · have Hrel := hide hrel
          clear hrel
          go_wp2_with fail
          refine wp_region_ext 25 (by kernel_rfl) (by kernel_rfl) (by kernel_rfl) ?_
          iterate 10
            refine wpE_k (by kernel_rfl) (by kernel_rfl) ?_
            apply Exists.intro
            refine ⟨fun w1 hw1 => ?_, fun K hK => ?_⟩
            · go_simp; first | done | rfl
            go_simp; refine hK _ _ ?_; clear hK K
          refine wpE_k (by kernel_rfl) (by kernel_rfl) ?_
          refine ⟨.bool true, fun w1 hw1 => ?_, fun K hK => ?_⟩
          · clear d0 d1 e0 e1
            go_simp
            first | done | simp [ht.out, Hrel.out]
          go_simp; refine hK _ _ ?_; clear hK K
          iterate 14
            refine wpE_k (by kernel_rfl) (by kernel_rfl) ?_
            apply Exists.intro
            refine ⟨fun w1 hw1 => ?_, fun K hK => ?_⟩
            · go_simp; first | done | rfl
            go_simp; refine hK _ _ ?_; clear hK K
          refine wpE_nil ⟨rfl, by kernel_rfl, fun w1 hw1 => ?_⟩
          simp only [EndQ]
          refine wpList_nil ?_
          clear d0 d1 e0 e1
          have HF := hide (hw.out.trans hw1); clear hw1
          go_wp2_with fail
          go_ret
          exact ⟨ret_bool (by rw [ho.out, hd.out]; simp [Hrel.out]), HF.out⟩
      · have hlen := hide (And.intro Ha.out.len Hb.out.len)
        go_wp2_with fail
        go_ret
        exact ⟨ret_bool (by rw [ho.out, List.drop_of_length_le (by have := hlen.out; omega), List.drop_of_length_le (by have := hlen.out; omega)]; rfl), hw.out⟩
  · have hne : ((n : Int) != (m : Int)) = true := by simp; omega
    have hs := hide (sameTb_len (r := xs) (s := ys) (by have := Ha.out.len; have := Hb.out.len; omega))
    go_enter Try.func29, Try.ntmps29
    go_wp2
    go_ret
    exact ⟨ret_bool hs.out.symm, Ext.refl _⟩

set_option maxRecDepth 100000 in
theorem place_any (xs : List (List V)) (r : List V) (A B : Option Addr) (n m c d : Nat) (w : World) (ha : LAt RRow 1 w A n xs) (hb : RowAt w B m r) (hn : n ≤ 140737488355328) (hr : ∀ s ∈ xs, s.length ≤ 140737488355328) :
    Calls Try.prog 86 #[.slice A n c, .slice B m d] w fun e w' => e = .returned (.int .i64 (firstI (fun s => sameR s r) xs 0)) ∧ Ext w w' := by
  have Ha := hide ha; have Hb := hide hb; have Hr := hide hr; clear ha hb hr
  go_enter Try.func86, Try.ntmps86
  go_wp2
  go_loopw [4, 5] (fun _ k w' => ∃ i : Nat, i ≤ n ∧ k = .int .i64 i ∧ Hid (firstI (fun s => sameR s r) xs 0 = firstI (fun s => sameR s r) (xs.drop i) i) ∧ Hid (Ext w w')) (fun _ k _ => n - (intOf k).toNat)
  case atStart => exact ⟨0, by omega, rfl, rfl, Ext.refl _⟩
  case round =>
    obtain ⟨i, hin, rfl, ho, hw⟩ := hrel
    by_cases h : i < n
    · obtain ⟨b, off, x, A1, n1, c1, rfl, hx, hb1, d0, hR1⟩ := (Ha.out.ext RRow.stab hw.out).row_ h
      have hd := hide (firstI_drop (fun s => sameR s r) xs i x hx)
      have hxl : n1 ≤ 140737488355328 := by have := Hr.out x (List.mem_of_getElem? hx); have := hR1.len; omega
      have HS := hide (same_any x r A1 B n1 m c1 d wr hR1 (Hb.out.ext hw.out) hxl)
      clear hx hR1 hb1
      go_wp2_with fail
      refine HS.out.mono ?_
      rintro e w1 ⟨rfl, h1⟩
      have E1 := hide (hw.out.trans h1); clear h1 d0
      cases hv : sameR x r with
      | true =>
        have Hv := hide hv; clear hv
        go_wp2_with fail
        go_ret
        exact ⟨ret_int (by rw [ho.out, hd.out]; simp [Hv.out]), E1.out⟩
      | false =>
        have Hv := hide hv; clear hv
        go_wp2_with fail
        go_roundw
        case rel => exact ⟨i + 1, by omega, by go_num, by rw [Hid, ho.out, hd.out]; simp [Hv.out], E1.out⟩
        case measure => simp [intOf]; omega
    · go_wp2_with fail
      go_ret
      exact ⟨ret_int (by rw [ho.out, List.drop_of_length_le (by have := Ha.out.len; omega)]; rfl), hw.out⟩

theorem has_any (xs : List (List V)) (r : List V) (A B : Option Addr) (n m c d : Nat) (w : World) (ha : LAt RRow 1 w A n xs) (hb : RowAt w B m r) (hn : n ≤ 140737488355328) (hr : ∀ s ∈ xs, s.length ≤ 140737488355328) :
    Calls Try.prog 60 #[.slice A n c, .slice B m d] w fun e w' => e = .returned (.bool (hasR xs r)) ∧ Ext w w' := by
  have H := hide (place_any xs r A B n m c d w ha hb hn hr); clear ha hb hr
  go_enter Try.func60, Try.ntmps60
  go_wp2_with fail
  refine H.out.mono ?_
  rintro e w1 ⟨rfl, h1⟩
  have E1 := hide h1; clear h1
  go_wp2_with fail
  go_ret
  exact ⟨ret_bool (firstI_any (fun s => sameR s r) xs 0), E1.out⟩
end Go.Proofs.Ythjpcnceppmnmaa
