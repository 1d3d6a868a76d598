/-
  The document's Compare.
-/
import Derived.Test.YtpfjkjmimmklcaaLawValids
import Derived.Test.YtpfjkjmimmklcaaCmpG
namespace Go.Proofs.Ytpfjkjmimmklcaa
open Go.RowKit

theorem cb_drop (a b : List UInt8) (i : Nat) (x y : UInt8) (hx : a[i]? = some x) (hy : b[i]? = some y) : Lib.compareBytes (a.drop i) (b.drop i) = if (x.toNat : Int) < (y.toNat : Int) then -1 else if (y.toNat : Int) < (x.toNat : Int) then 1 else Lib.compareBytes (a.drop (i + 1)) (b.drop (i + 1)) := by
  rw [List.getElem?_eq_some_iff] at hx hy
  obtain ⟨hx, ex⟩ := hx
  obtain ⟨hy, ey⟩ := hy
  rw [List.drop_eq_getElem_cons hx, List.drop_eq_getElem_cons hy, ex, ey]
  have h1 : (x < y) ↔ ((x.toNat : Int) < y.toNat) := by rw [UInt8.lt_iff_toNat_lt]; omega
  have h2 : (y < x) ↔ ((y.toNat : Int) < x.toNat) := by rw [UInt8.lt_iff_toNat_lt]; omega
  simp only [Lib.compareBytes, h1, h2]
theorem cb_end (a b : List UInt8) (i : Nat) (h : a.length ≤ i ∨ b.length ≤ i) (h2 : i ≤ a.length ∧ i ≤ b.length) : Lib.compareBytes (a.drop i) (b.drop i) = if a.length < b.length then -1 else if b.length < a.length then 1 else 0 := by
  rcases h with h | h
  · rw [List.drop_of_length_le h]
    by_cases h3 : i < b.length
    · rw [List.drop_eq_getElem_cons h3, if_pos (by omega)]; rfl
    · rw [List.drop_of_length_le (by omega), if_neg (by omega), if_neg (by omega)]; rfl
  · rw [List.drop_of_length_le h]
    by_cases h3 : i < a.length
    · rw [List.drop_eq_getElem_cons h3, if_neg (by omega), if_pos (by omega)]; rfl
    · rw [List.drop_of_length_le (by omega), if_neg (by omega), if_neg (by omega)]; rfl

theorem byte_get (s : ByteArray) (i : Nat) (h : i < s.size) : s.data.toList[i]? = some s[i] := by
  rw [List.getElem?_eq_getElem (by rw [Array.length_toList]; exact h)]; rfl
theorem len_data (s : ByteArray) : s.data.toList.length = s.size := Array.length_toList

set_option maxRecDepth 100000 in
theorem ref_texts (a b : ByteArray) (w : World) (ha : a.size ≤ 1048576) (hb : b.size ≤ 1048576) : Calls Try.prog 85 #[.string a, .string b] w fun e w' => e = .returned (.int .i64 (cmpB a b)) ∧ Ext w w' := by
  go_enter Try.func85, Try.ntmps85
  go_wp2
  go_loopw [4, 5] (fun _ k w' => ∃ i : Nat, i ≤ a.size ∧ i ≤ b.size ∧ k = .int .i64 i ∧ Hid (cmpB a b = Lib.compareBytes (a.data.toList.drop i) (b.data.toList.drop i)) ∧ Hid (Ext w w')) (fun _ k _ => a.size - (intOf k).toNat)
  case atStart => exact ⟨0, by omega, by omega, rfl, rfl, Ext.refl _⟩
  case round =>
    obtain ⟨i, hia, hib, rfl, ho, hw⟩ := hrel
    by_cases h1 : i < a.size
    · by_cases h2 : i < b.size
      · have hd := hide (cb_drop _ _ i _ _ (byte_get a i h1) (byte_get b i h2))
        by_cases h3 : (a[i].toNat : Int) < (b[i].toNat : Int)
        · go_wp2_with fail
          refine wp_region_ext 7 (by kernel_rfl) (by kernel_rfl) (by kernel_rfl) ?_
          iterate 7
            refine wpE_k (by kernel_rfl) (by kernel_rfl) ?_
            apply Exists.intro
            refine ⟨fun w1 hw1 => ?_, fun K hK => ?_⟩
            · go_simp; first | done | rfl
            go_simp; refine hK _ _ ?_; clear hK K
          refine wpE_nil ⟨rfl, by kernel_rfl, fun wq hwq => ?_⟩
          simp only [EndQ]
          refine wpList_nil ?_
          have E1 := hide (hw.out.trans hwq); clear hwq
          go_wp2_with fail
          go_ret
          exact ⟨ret_int (by rw [ho.out, hd.out, if_pos (by omega)]), E1.out⟩
        · by_cases h4 : (b[i].toNat : Int) < (a[i].toNat : Int)
          · go_wp2_with fail
            refine wp_region_ext 7 (by kernel_rfl) (by kernel_rfl) (by kernel_rfl) ?_
            iterate 7
              refine wpE_k (by kernel_rfl) (by kernel_rfl) ?_
              apply Exists.intro
              refine ⟨fun w1 hw1 => ?_, fun K hK => ?_⟩
              · go_simp; first | done | rfl
              go_simp; refine hK _ _ ?_; clear hK K
            refine wpE_nil ⟨rfl, by kernel_rfl, fun wq hwq => ?_⟩
            simp only [EndQ]
            refine wpList_nil ?_
            have E1 := hide (hw.out.trans hwq); clear hwq
            go_wp2_with fail
            refine wp_region_ext 7 (by kernel_rfl) (by kernel_rfl) (by kernel_rfl) ?_
            iterate 7
              refine wpE_k (by kernel_rfl) (by kernel_rfl) ?_
              apply Exists.intro
              refine ⟨fun w1 hw1 => ?_, fun K hK => ?_⟩
              · go_simp; first | done | rfl
              go_simp; refine hK _ _ ?_; clear hK K
            refine wpE_nil ⟨rfl, by kernel_rfl, fun wq hwq => ?_⟩
            simp only [EndQ]
            refine wpList_nil ?_
            have E2 := hide (E1.out.trans hwq); clear hwq
            go_wp2_with fail
            go_ret
            exact ⟨ret_int (by rw [ho.out, hd.out, if_neg (by omega), if_pos (by omega)]), E2.out⟩
          · go_wp2_with fail
            refine wp_region_ext 7 (by kernel_rfl) (by kernel_rfl) (by kernel_rfl) ?_
            iterate 7
              refine wpE_k (by kernel_rfl) (by kernel_rfl) ?_
              apply Exists.intro
              refine ⟨fun w1 hw1 => ?_, fun K hK => ?_⟩
              · go_simp; first | done | rfl
              go_simp; refine hK _ _ ?_; clear hK K
            refine wpE_nil ⟨rfl, by kernel_rfl, fun wq hwq => ?_⟩
            simp only [EndQ]
            refine wpList_nil ?_
            have E1 := hide (hw.out.trans hwq); clear hwq
            go_wp2_with fail
            refine wp_region_ext 7 (by kernel_rfl) (by kernel_rfl) (by kernel_rfl) ?_
            iterate 7
              refine wpE_k (by kernel_rfl) (by kernel_rfl) ?_
              apply Exists.intro
              refine ⟨fun w1 hw1 => ?_, fun K hK => ?_⟩
              · go_simp; first | done | rfl
              go_simp; refine hK _ _ ?_; clear hK K
            refine wpE_nil ⟨rfl, by kernel_rfl, fun wq hwq => ?_⟩
            simp only [EndQ]
            refine wpList_nil ?_
            have E2 := hide (E1.out.trans hwq); clear hwq
            go_wp2_with fail
            go_roundw
            case rel => exact ⟨i + 1, by omega, by omega, by go_num, by rw [Hid, ho.out, hd.out, if_neg (by omega), if_neg (by omega)], E2.out⟩
            case measure => simp [intOf]; omega
      · have hd := hide (cb_end a.data.toList b.data.toList i (.inr (by rw [len_data]; omega)) (by rw [len_data, len_data]; exact ⟨hia, hib⟩))
        have h3 : b.size < a.size := by omega
        have h4 : ¬ a.size < b.size := by omega
        go_wp2_with fail
        go_ret
        exact ⟨ret_int (by rw [ho.out, hd.out, len_data, len_data, if_neg (by omega), if_pos (by omega)]), hw.out⟩
    · have hd := hide (cb_end a.data.toList b.data.toList i (.inl (by rw [len_data]; omega)) (by rw [len_data, len_data]; exact ⟨hia, hib⟩))
      by_cases h3 : a.size < b.size
      · go_wp2_with fail
        go_ret
        exact ⟨ret_int (by rw [ho.out, hd.out, len_data, len_data, if_pos (by omega)]), hw.out⟩
      · have h4 : ¬ b.size < a.size := by omega
        go_wp2_with fail
        go_ret
        exact ⟨ret_int (by rw [ho.out, hd.out, len_data, len_data, if_neg (by omega), if_neg (by omega)]), hw.out⟩

set_option maxRecDepth 100000 in
theorem ref_val_cmp (a b : V) (w : World) (ha : a.t.size ≤ 1048576) (hb : b.t.size ≤ 1048576) : Calls Try.prog 50 #[a.val, b.val] w fun e w' => e = .returned (.int .i64 (cmpV a b)) ∧ Ext w w' := by
  obtain ⟨ak, ai, at_⟩ := a
  obtain ⟨bk, bi, bt⟩ := b
  simp only [V.val]
  dsimp only at ha hb
  have HT := hide (fun w => ref_texts at_ bt w ha hb)
  have hk : cmpV ⟨ak, ai, at_⟩ ⟨bk, bi, bt⟩ = if ak = bk then (if ai = bi then cmpB at_ bt else if ai < bi then -1 else 1) else if ak < bk then -1 else 1 := by
    simp only [cmpV, orI, cmpI]
    by_cases h1 : ak = bk
    · by_cases h2 : ai = bi
      · subst h1 h2; simp; intro h; rw [h]
      · subst h1
        have : ai < bi ∨ bi < ai := by omega
        rcases this with h | h
        · simp [h2, h]
        · simp [h2, h]; rw [if_neg (by omega)]; simp
    · have : ak < bk ∨ bk < ak := by omega
      rcases this with h | h
      · simp [h1, h]
      · simp [h1, h]; rw [if_neg (by omega)]; simp
  have Hk := hide hk; clear hk
  have HE := hide ((Ext.alloc w (.cells #[.int .i64 ak, .int .i64 ai, .string at_] 58)).alloc' (.cells #[.int .i64 bk, .int .i64 bi, .string bt] 58))
  by_cases h1 : ak = bk
  · subst h1
    by_cases h2 : ai = bi
    · subst h2
      go_enter Try.func50, Try.ntmps50
      go_wp2_with fail
      refine (HT.out _).mono ?_
      rintro e w1 ⟨rfl, h1⟩
      have HE1 := hide (HE.out.trans h1); clear h1
      go_wp2_with fail
      go_ret
      exact ⟨ret_int (by rw [Hk.out]; simp), HE1.out⟩
    · have h2b : (ai != bi) = true := by simpa using h2
      have H2 := hide h2; clear h2
      by_cases h3 : ai < bi
      · go_enter Try.func50, Try.ntmps50
        go_wp2_with fail
        go_ret
        exact ⟨ret_int (by rw [Hk.out, if_pos (by trivial), if_neg H2.out, if_pos (by omega)]), HE.out⟩
      · go_enter Try.func50, Try.ntmps50
        go_wp2_with fail
        go_ret
        exact ⟨ret_int (by rw [Hk.out, if_pos (by trivial), if_neg H2.out, if_neg (by omega)]), HE.out⟩
  · have h1b : (ak != bk) = true := by simpa using h1
    have H1 := hide h1; clear h1
    by_cases h3 : ak < bk
    · go_enter Try.func50, Try.ntmps50
      go_wp2_with fail
      go_ret
      exact ⟨ret_int (by rw [Hk.out, if_neg H1.out, if_pos (by omega)]), HE.out⟩
    · go_enter Try.func50, Try.ntmps50
      go_wp2_with fail
      go_ret
      exact ⟨ret_int (by rw [Hk.out, if_neg H1.out, if_neg (by omega)]), HE.out⟩

set_option maxRecDepth 100000 in
theorem ref_cmp (as_ bs : List V) (A B : Option Addr) (n m c d : Nat) (w : World) (ha : RowAt w A n as_) (hb : RowAt w B m bs) (hn : n ≤ 1048576) (hm : m ≤ 1048576) (hsa : smallR as_) (hsb : smallR bs) :
    Calls Try.prog 27 #[.slice A n c, .slice B m d] w fun e w' => e = .returned (.int .i64 (cmpR as_ bs)) ∧ Ext w w' := by
  have Ha := hide ha; have Hb := hide hb; have Hsa := hide hsa; have Hsb := hide hsb; clear ha hb hsa hsb
  go_enter Try.func27, Try.ntmps27
  go_wp2
  go_loopw [4, 5, 6] (fun _ k _ w' => ∃ i : Nat, i ≤ n ∧ i ≤ m ∧ k = .int .i64 i ∧ Hid (cmpR as_ bs = cmpR (as_.drop i) (bs.drop i)) ∧ Hid (Ext w w')) (fun _ k _ _ => n - (intOf k).toNat)
  case atStart => exact ⟨0, by omega, by omega, rfl, rfl, Ext.refl _⟩
  case round =>
    obtain ⟨i, hin, him, rfl, ho, hw⟩ := hrel
    by_cases h : i < n
    · obtain ⟨b, off, x, rfl, hx, hb1, c0, c1, c2⟩ := (Ha.out.ext hw.out).get h
      have Hx := hide hx; have hsx := hide (Hsa.out.get hx); clear hx
      by_cases h2 : i < m
      · obtain ⟨b', off', y, rfl, hy, hb2, d0, d1, d2⟩ := (Hb.out.ext hw.out).get h2
        have hd := hide (cmpR_drop as_ bs i x y Hx.out hy); have hsy := hide (Hsb.out.get hy); clear hy
        have c0 := cell_ext c0
        have c1 := cell_ext c1
        have c2 := cell_ext c2
        have d0 := cell_ext d0
        have d1 := cell_ext d1
        have d2 := cell_ext d2
        go_wp2_with fail
        refine wp_region_ext 10 (by kernel_rfl) (by kernel_rfl) (by kernel_rfl) ?_
        iterate 10
          refine wpE_k (by kernel_rfl) (by kernel_rfl) ?_
          apply Exists.intro
          refine ⟨fun w1 hw1 => ?_, fun K hK => ?_⟩
          · go_simp; first | done | rfl | exact ref_val_cmp x y _ hsx.out hsy.out
          go_simp; refine hK _ _ ?_; clear hK K
        refine wpE_nil ⟨rfl, by kernel_rfl, fun wq hwq => ?_⟩
        simp only [EndQ]
        refine wpList_nil ?_
        have HF := hide (hw.out.trans hwq)
        clear hwq c0 c1 c2 d0 d1 d2 hw hb1 hb2
        by_cases hz : cmpV x y = 0
        · have hz1 : (cmpV x y != 0) = false := by rw [hz]; rfl
          have Hz := hide hz; clear hz
          go_wp2_with fail
          go_roundw
          case rel => exact ⟨i + 1, by omega, by omega, by go_num, by rw [Hid, ho.out, hd.out, if_pos Hz.out], HF.out⟩
          case measure => simp [intOf]; omega
        · have hz1 : (cmpV x y != 0) = true := by simpa using hz
          have Hz := hide hz; clear hz
          go_wp2_with fail
          go_ret
          exact ⟨ret_int (by rw [ho.out, hd.out, if_neg Hz.out]), HF.out⟩
      · have hd := hide (cmpR_left as_ bs i x Hx.out (by have := Hb.out.len; omega))
        go_wp2_with fail
        go_ret
        exact ⟨ret_int (by rw [ho.out, hd.out]), hw.out⟩
    · have hd := hide (cmpR_end as_ bs i (by have := Ha.out.len; omega) (by have := Hb.out.len; omega))
      have hlen := hide Hb.out.len
      by_cases h2 : n < m
      · go_wp2_with fail
        go_ret
        exact ⟨ret_int (by rw [ho.out, hd.out, if_pos (by have := hlen.out; omega)]), hw.out⟩
      · go_wp2_with fail
        go_ret
        exact ⟨ret_int (by rw [ho.out, hd.out, if_neg (by have := hlen.out; omega)]), hw.out⟩

end Go.Proofs.Ytpfjkjmimmklcaa
