/-
  Equal atoms, equal queries.
-/
import Derived.Test.YtpfjkjmimmklcaaGreatRefB
namespace Go.Proofs.YtpfjkjmimmklcaaGreat
open Go.RowKit

def sameA (a b : Atm) : Bool := eqS a.rel b.rel && sameBy sameT a.terms b.terms
theorem sameA_iff (a b : Atm) : sameA a b = true ↔ a = b := by
  obtain ⟨r, ts⟩ := a
  obtain ⟨r', ts'⟩ := b
  simp [sameA, eqS, sameBy_iff (fun _ _ => sameT_iff)]
def sameQ (a b : Qy) : Bool := eqS a.name b.name && sameBy eqS a.head b.head && sameBy sameA a.atoms b.atoms
theorem sameQ_iff (a b : Qy) : sameQ a b = true ↔ a = b := by
  obtain ⟨n, h, as_⟩ := a
  obtain ⟨n', h', bs⟩ := b
  simp [sameQ, eqS, sameBy_iff eqS_iff, sameBy_iff sameA_iff, and_assoc]

set_option maxRecDepth 100000 in
theorem same_atom (a b : Atm) (A B : Option Addr) (n m c d : Nat) (w : World) (ha : LAt RT 4 w A n a.terms) (hb : LAt RT 4 w B m b.terms) (hn : n ≤ 1048576) :
    Calls Tryz.prog 26 #[.agg #[.string a.rel, .slice A n c], .agg #[.string b.rel, .slice B m d]] w fun e w' => e = .returned (.bool (sameA a b)) ∧ Ext w w' := by
  obtain ⟨ra, ta⟩ := a
  obtain ⟨rb, tb⟩ := b
  dsimp only at *
  have Ha := hide ha; have Hb := hide hb; clear ha hb
  generalize hW2 : (w.alloc (.cells #[.string ra, .slice A n c] 52)).alloc (.cells #[.string rb, .slice B m d] 52) = W2
  have HE := hide (show Ext w W2 from hW2 ▸ (Ext.alloc w (.cells #[.string ra, .slice A n c] 52)).alloc' (.cells #[.string rb, .slice B m d] 52))
  have HB0 := hide (show CellsAt W2 w.heap.size [.string ra, .slice A n c] from hW2 ▸ (CellsAt.new w [.string ra, .slice A n c] 52 (0, 0)).ext (Ext.alloc _ _))
  have HB1 := hide (show CellsAt W2 (w.heap.size + 1) [.string rb, .slice B m d] from by
    have := CellsAt.new (w.alloc (.cells #[.string ra, .slice A n c] 52)) [.string rb, .slice B m d] 52 (0, 0)
    rw [World.size_alloc] at this
    rw [← hW2]; exact this)
  have HW2 := hide hW2; clear hW2
  by_cases hr : ra = rb
  · subst hr
    by_cases hl : n = m
    · subst hl
      have hne : ((n : Int) != (n : Int)) = false := by simp
      go_enter Tryz.func26, Tryz.ntmps26
      go_wp2_with fail
      rw [HW2.out]
      go_loopw [4, 5] (fun _ k w' => ∃ i : Nat, i ≤ n ∧ k = .int .i64 i ∧ Hid (sameA ⟨ra, ta⟩ ⟨ra, tb⟩ = sameBy sameT (ta.drop i) (tb.drop i)) ∧ Hid (Ext W2 w')) (fun _ k _ => n - (intOf k).toNat)
      case atStart => exact ⟨0, by omega, rfl, by simp [Hid, sameA, eqS], Ext.refl _⟩
      case round =>
        obtain ⟨i, hin, rfl, ho, hw⟩ := hrel
        have b1 := HB0.out.ext hw.out 1 _ rfl
        by_cases h : i < n
        · obtain ⟨b, off, x, rfl, hx, hb1, c0, c1, c2, c3⟩ := (Ha.out.ext RT.stab (HE.out.trans hw.out)).tm h
          obtain ⟨b', off', y, rfl, hy, hb2, d0, d1, d2, d3⟩ := (Hb.out.ext RT.stab (HE.out.trans hw.out)).tm h
          have hd := hide (sameBy_drop (p := sameT) ta tb i x y hx hy); clear hx hy
          have e1 := HB1.out.ext hw.out 1 _ rfl
          have c0 := cell_ext c0
          have c1 := cell_ext c1
          have c2 := cell_ext c2
          have c3 := cell_ext c3
          have d0 := cell_ext d0
          have d1 := cell_ext d1
          have d2 := cell_ext d2
          have d3 := cell_ext d3
          go_wp2_with fail
          have b1 := cell_ext b1
          have e1 := cell_ext e1
          refine wp_region_ext 11 (by kernel_rfl) (by kernel_rfl) (by kernel_rfl) ?_
          iterate 10
            refine wpE_k (by kernel_rfl) (by kernel_rfl) ?_
            apply Exists.intro
            refine ⟨fun w1 hw1 => ?_, fun K hK => ?_⟩
            · go_simp; first | done | rfl
            go_simp; refine hK _ _ ?_; clear hK K
          clear c0 c1 c2 c3 d0 d1 d2 d3 b1 e1
          refine wpE_k (by kernel_rfl) (by kernel_rfl) ?_
          refine ⟨.bool (!sameT x y), fun w1 hw1 => ?_, fun K hK => ?_⟩
          · go_simp
            unfold sameT sameV
            have ht := toList_iff x.c.t y.c.t
            have hv := toList_iff x.v y.v
            by_cases h0 : x.v = y.v <;> by_cases h1 : x.c.k = y.c.k <;> by_cases h2 : x.c.i = y.c.i <;> by_cases h3 : x.c.t = y.c.t <;> simp [h0, h1, h2, h3, ht, hv]
          go_simp; refine hK _ _ ?_; clear hK K
          refine wpE_nil ⟨rfl, by kernel_rfl, fun wq hwq => ?_⟩
          simp only [EndQ]
          refine wpList_nil ?_
          have HF := hide (hw.out.trans hwq); clear hwq
          by_cases he : sameT x y = true
          · have he1 : (!sameT x y) = false := by rw [he]; rfl
            simp only [he1]
            have He := hide he; clear he he1
            go_wp2_with fail
            go_roundw
            case rel => exact ⟨i + 1, by omega, by go_num, by rw [Hid, ho.out, hd.out, He.out]; simp, HF.out⟩
            case measure => simp [intOf]; omega
          · have he2 : sameT x y = false := by simpa using he
            have he1 : (!sameT x y) = true := by rw [he2]; rfl
            simp only [he1]
            have He := hide he2; clear he he2 he1
            go_wp2_with fail
            go_ret
            exact ⟨ret_bool (by rw [ho.out, hd.out, He.out]; simp), HE.out.trans HF.out⟩
        · have hlen := hide (And.intro Ha.out.len Hb.out.len)
          go_wp2_with fail
          go_ret
          exact ⟨ret_bool (by rw [ho.out, List.drop_of_length_le (by have := hlen.out; omega), List.drop_of_length_le (by have := hlen.out; omega)]; rfl), HE.out.trans hw.out⟩
    · have hne : ((n : Int) != (m : Int)) = true := by simp; omega
      have hs := hide (sameBy_len (p := sameT) (r := ta) (s := tb) (by have := Ha.out.len; have := Hb.out.len; omega))
      go_enter Tryz.func26, Tryz.ntmps26
      go_wp2_with fail
      rw [HW2.out]
      go_ret
      exact ⟨ret_bool (by rw [sameA, hs.out]; simp), HE.out⟩
  · have hs := hide (show sameA ⟨ra, ta⟩ ⟨rb, tb⟩ = false by simp [sameA, eqS, hr])
    have hr2 : (ra.toList == rb.toList) = false := by simpa using fun e => hr ((bytes_toList ra rb).1 e)
    have Hr := hide hr; clear hr
    go_enter Tryz.func26, Tryz.ntmps26
    go_wp2_with fail
    rw [HW2.out]
    go_ret
    exact ⟨ret_bool (by rw [hs.out]), HE.out⟩

set_option maxRecDepth 100000 in
theorem same_query (a b : Qy) (La Lb : QLoc) (w : World) (ha : QAt w La a) (hb : QAt w Lb b) (hMa : smallM 1048576 a) :
    Calls Tryz.prog 11 #[qval a.name La, qval b.name Lb] w fun e w' => e = .returned (.bool (sameQ a b)) ∧ Ext w w' := by
  have HST := hide (fun w1 (h1 : Ext w w1) => same_texts a.head b.head La.A Lb.A La.n Lb.n La.c Lb.c w1 (ha.head.ext RS.stab h1) (hb.head.ext RS.stab h1) (by have := hMa.headL; have := ha.head.len; omega))
  obtain ⟨na, hda, aa⟩ := a
  obtain ⟨nb, hdb, ab⟩ := b
  obtain ⟨A, n, c, B, m, d⟩ := La
  obtain ⟨A', n', c', B', m', d'⟩ := Lb
  simp only [qval] at *
  have hml : m ≤ 1048576 := by have := hMa.atomsL; have := ha.atoms.len; simp only at *; omega
  have hla := hide (And.intro ha.atoms.len hb.atoms.len)
  have Ha := hide ha; have Hb := hide hb; have HMa := hide hMa; clear ha hb hMa
  generalize hW2 : (w.alloc (.cells #[.string na, .slice A n c, .slice B m d] 25)).alloc (.cells #[.string nb, .slice A' n' c', .slice B' m' d'] 25) = W2
  have HE := hide (show Ext w W2 from hW2 ▸ (Ext.alloc w (.cells #[.string na, .slice A n c, .slice B m d] 25)).alloc' (.cells #[.string nb, .slice A' n' c', .slice B' m' d'] 25))
  have HB0 := hide (show CellsAt W2 w.heap.size [.string na, .slice A n c, .slice B m d] from hW2 ▸ (CellsAt.new w [.string na, .slice A n c, .slice B m d] 25 (0, 0)).ext (Ext.alloc _ _))
  have HB1 := hide (show CellsAt W2 (w.heap.size + 1) [.string nb, .slice A' n' c', .slice B' m' d'] from by
    have := CellsAt.new (w.alloc (.cells #[.string na, .slice A n c, .slice B m d] 25)) [.string nb, .slice A' n' c', .slice B' m' d'] 25 (0, 0)
    rw [World.size_alloc] at this
    rw [← hW2]; exact this)
  have HW2 := hide hW2; clear hW2
  by_cases hr : na = nb
  · subst hr
    cases hst : sameBy eqS hda hdb with
    | false =>
      have hs := hide (show sameQ ⟨na, hda, aa⟩ ⟨na, hdb, ab⟩ = false by simp [sameQ, hst])
      rw [hst] at HST
      clear hst
      go_enter Tryz.func11, Tryz.ntmps11
      go_wp2_with (rw [HW2.out]; refine (HST.out _ HE.out).mono ?_; rintro e w1 ⟨rfl, h1⟩; have E1 := hide (HE.out.trans h1); clear h1)
      go_ret
      exact ⟨ret_bool (by rw [hs.out]), E1.out⟩
    | true =>
      have hsq := hide (show sameQ ⟨na, hda, aa⟩ ⟨na, hdb, ab⟩ = sameBy sameA aa ab by simp [sameQ, hst, eqS])
      rw [hst] at HST
      clear hst
      by_cases hl : m = m'
      · subst hl
        have hne : ((m : Int) != (m : Int)) = false := by simp
        go_enter Tryz.func11, Tryz.ntmps11
        go_wp2_with (rw [HW2.out]; refine (HST.out _ HE.out).mono ?_; rintro e w1 ⟨rfl, h1⟩; have E1 := hide h1; have b2 := HB0.out.ext h1 2 _ rfl; have e2 := HB1.out.ext h1 2 _ rfl; clear h1)
        clear b2 e2
        go_loopw [4, 5] (fun _ k w' => ∃ i : Nat, i ≤ m ∧ k = .int .i64 i ∧ Hid (sameBy sameA aa ab = sameBy sameA (aa.drop i) (ab.drop i)) ∧ Hid (Ext W2 w')) (fun _ k _ => m - (intOf k).toNat)
        case atStart => exact ⟨0, by omega, rfl, rfl, E1.out⟩
        case round =>
          obtain ⟨i, hin, rfl, ho, hw⟩ := hrel
          have b2 := HB0.out.ext hw.out 2 _ rfl
          by_cases h : i < m
          · obtain ⟨b, off, x, B1, m1, d1, rfl, hx, hb1, c0, c1, hT⟩ := (Ha.out.atoms.ext RA.stab (HE.out.trans hw.out)).at_ h
            obtain ⟨b', off', y, B2, m2, d2, rfl, hy, hb2, g0, g1, hT2⟩ := (Hb.out.atoms.ext RA.stab (HE.out.trans hw.out)).at_ h
            have hd := hide (sameBy_drop (p := sameA) aa ab i x y hx hy)
            have hm1 : m1 ≤ 1048576 := by have := (HMa.out.atoms x (List.mem_of_getElem? hx)).len; have := hT.len; omega
            have HSA := hide (fun w1 (h1 : Ext wr w1) => same_atom x y B1 B2 m1 m2 d1 d2 w1 (hT.ext RT.stab h1) (hT2.ext RT.stab h1) hm1)
            clear hx hy hT hT2
            have e2 := HB1.out.ext hw.out 2 _ rfl
            go_wp2_with fail
            have b2 := cell_ext b2
            have e2 := cell_ext e2
            have c0 := cell_ext c0
            have c1 := cell_ext c1
            have g0 := cell_ext g0
            have g1 := cell_ext g1
            refine wp_region_ext 12 (by kernel_rfl) (by kernel_rfl) (by kernel_rfl) ?_
            iterate 12
              refine wpE_k (by kernel_rfl) (by kernel_rfl) ?_
              apply Exists.intro
              refine ⟨fun w1 hw1 => ?_, fun K hK => ?_⟩
              · go_simp; first | done | rfl | exact HSA.out _ ‹_›
              go_simp; refine hK _ _ ?_; clear hK K
            refine wpE_nil ⟨rfl, by kernel_rfl, fun wq hwq => ?_⟩
            simp only [EndQ]
            refine wpList_nil ?_
            have HF := hide (hw.out.trans hwq); clear hwq c0 c1 g0 g1 b2 e2
            cases he : sameA x y with
            | true =>
              have He := hide he; clear he
              go_wp2_with fail
              go_roundw
              case rel => exact ⟨i + 1, by omega, by go_num, by rw [Hid, ho.out, hd.out, He.out]; simp, HF.out⟩
              case measure => simp [intOf]; omega
            | false =>
              have He := hide he; clear he
              go_wp2_with fail
              go_ret
              exact ⟨ret_bool (by rw [hsq.out, ho.out, hd.out, He.out]; simp), HE.out.trans HF.out⟩
          · have hlen := hla
            go_wp2_with fail
            go_ret
            exact ⟨ret_bool (by rw [hsq.out, ho.out, List.drop_of_length_le (by have := hlen.out; omega), List.drop_of_length_le (by have := hlen.out; omega)]; rfl), HE.out.trans hw.out⟩
      · have hne : ((m : Int) != (m' : Int)) = true := by simp; omega
        have hs := hide (sameBy_len (p := sameA) (r := aa) (s := ab) (by have := hla.out; simp only at this; omega))
        go_enter Tryz.func11, Tryz.ntmps11
        go_wp2_with (rw [HW2.out]; refine (HST.out _ HE.out).mono ?_; rintro e w1 ⟨rfl, h1⟩; have E1 := hide h1; have b2 := HB0.out.ext h1 2 _ rfl; have e2 := HB1.out.ext h1 2 _ rfl; clear h1)
        go_ret
        exact ⟨ret_bool (by rw [hsq.out, hs.out]), HE.out.trans E1.out⟩
  · have hs := hide (show sameQ ⟨na, hda, aa⟩ ⟨nb, hdb, ab⟩ = false by simp [sameQ, eqS, hr])
    have hr2 : (na.toList == nb.toList) = false := by simpa using fun e => hr ((bytes_toList na nb).1 e)
    have Hr := hide hr; clear hr
    go_enter Tryz.func11, Tryz.ntmps11
    go_wp2_with fail
    rw [HW2.out]
    go_ret
    exact ⟨ret_bool (by rw [hs.out]), HE.out⟩
end Go.Proofs.YtpfjkjmimmklcaaGreat
