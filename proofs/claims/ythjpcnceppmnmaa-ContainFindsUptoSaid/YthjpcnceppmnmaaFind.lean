/-
  Find: the program's.
-/
import Derived.Test.YthjpcnceppmnmaaLay
import Derived.Test.YthjpcnceppmnmaaCmp2
namespace Go.Proofs.Ythjpcnceppmnmaa
open Go.RowKit

theorem shapeQ_ok {q : Qy} (h : shapeQ q = 0) : badNameQ q = false ∧ q.atoms.any badA = false ∧ (1 ≤ q.atoms.length ∧ q.atoms.length ≤ 6) ∧ q.atoms.any wideA = false ∧ dblB q.head = false ∧ unsafeB q = false := by
  unfold shapeQ at h
  split at h
  · cases h
  · split at h
    · cases h
    · split at h
      · cases h
      · split at h
        · cases h
        · split at h
          · cases h
          · split at h
            · cases h
            · rename_i h1 h2 h3 h4 h5 h6
              exact ⟨by simpa using h1, by simpa using h2, by omega, by simpa using h4, by simpa using h5, by simpa using h6⟩
theorem shapeQ_five {q : Qy} (h : shapeQ q = 0) : ∀ a ∈ q.atoms, a.terms.length ≤ 5 := fun a ha => by
  have h1 := (shapeQ_ok h).2.2.2.1
  rw [List.any_eq_false] at h1
  have := h1 a ha
  simp only [wideA, decide_eq_true_eq] at this
  omega
theorem shapeQ_rng (q : Qy) : 0 ≤ shapeQ q ∧ shapeQ q ≤ 100 := by
  unfold shapeQ
  repeat' split
  all_goals decide

/-- errors in a row of their own -/
def shapesP (f t : Qy) : Int := if shapeQ f ≠ 0 then shapeQ f else if shapeQ t ≠ 0 then shapeQ t else if f.head.length ≠ t.head.length then 92 else 0
theorem orI_two (a b : Int) : orI [a, b] = if a ≠ 0 then a else b := by
  simp only [orI]
  by_cases h : a = 0
  · by_cases h2 : b = 0 <;> simp [h, h2]
  · simp [h]

theorem or_errno (b off n c : Nat) (xs : List Int) (w : World) (hn : xs.length = n) (hm : n ≤ 1000) (hc : ∀ (i : Nat) (x : Int), xs[i]? = some x → w.cell? ⟨b, off + i, none⟩ = some (.int .i64 x)) :
    Calls Try.prog 64 #[.slice (some ⟨b, off, none⟩) n c] w fun e w' => e = .returned (.int .i64 (orI xs)) ∧ w = w' := by
  have Hn := hide hn; clear hn
  go_enter Try.func64, Try.ntmps64
  go_wp2
  go_loop [5, 8] (fun _ i => ∃ k : Nat, k ≤ n ∧ i = .int .i64 k ∧ Hid (orI xs = orI (xs.drop k))) (fun _ i => n - (intOf i).toNat)
  case atStart => exact ⟨0, by omega, rfl, rfl⟩
  case round =>
    obtain ⟨k, hk, rfl, ho⟩ := hrel
    by_cases h : k < n
    · obtain ⟨x, hx⟩ : ∃ x, xs[k]? = some x := ⟨_, List.getElem?_eq_getElem (by rw [Hn.out]; exact h)⟩
      have hcell := hc k x hx
      have hd := hide (orI_drop xs k x hx)
      clear hc hx
      by_cases hx0 : x = 0
      · subst hx0
        go_wp2
        go_round
        case rel => exact ⟨k + 1, by omega, by go_num, by rw [Hid, ho.out, hd.out]; rfl⟩
        case measure => simp [intOf]; omega
      · have hb : (x != 0) = true := by simpa using hx0
        go_wp2
        go_ret
        exact ⟨ret_int (by rw [ho.out, hd.out, if_neg hx0]), rfl⟩
    · go_wp2
      go_ret
      exact ⟨ret_int (by rw [ho.out, List.drop_of_length_le (by rw [Hn.out]; omega)]; rfl), rfl⟩

set_option maxRecDepth 100000 in
theorem shapes_any (f t : Qy) (LF LT : QLoc) (w : World) (hf : QAt w LF f) (ht : QAt w LT t) (hMf : smallM 1048576 f) (hMt : smallM 1048576 t) :
    Calls Try.prog 36 #[qval f.name LF, qval t.name LT] w fun e w' => e = .returned (.int .i64 (shapesP f t)) ∧ Ext w w' := by
  have HSF := hide (fun w1 (h1 : Ext w w1) => query_shape f LF w1 (hf.ext h1) hMf)
  have HST := hide (fun w1 (h1 : Ext w w1) => query_shape t LT w1 (ht.ext h1) hMt)
  have hnf := hf.head.len; have hnt := ht.head.len
  have hnl : LF.n ≤ 1048576 := by have := hMf.headL; omega
  have hntl : LT.n ≤ 1048576 := by have := hMt.headL; omega
  have hlen := hide (show (LF.n ≠ LT.n) ↔ (f.head.length ≠ t.head.length) by rw [hnf, hnt])
  have hSP := hide (show shapesP f t = if orI [shapeQ f, shapeQ t] ≠ 0 then orI [shapeQ f, shapeQ t] else if LF.n ≠ LT.n then 92 else 0 by
    rw [shapesP, orI_two, hnf, hnt]
    by_cases h : shapeQ f = 0 <;> simp [h])
  clear hnf hnt hf ht hMf hMt
  generalize shapesP f t = sp at *
  generalize shapeQ f = sf at *
  generalize shapeQ t = st at *
  obtain ⟨nf, hdf, af⟩ := f
  obtain ⟨nt, hdt, at_⟩ := t
  obtain ⟨A, n, c, B, m, d⟩ := LF
  obtain ⟨A', n', c', B', m', d'⟩ := LT
  simp only [qval] at *
  generalize hW2 : (w.alloc (.cells #[.string nf, .slice A n c, .slice B m d] 25)).alloc (.cells #[.string nt, .slice A' n' c', .slice B' m' d'] 25) = W2
  have HE := hide (show Ext w W2 from hW2 ▸ (Ext.alloc w (.cells #[.string nf, .slice A n c, .slice B m d] 25)).alloc' (.cells #[.string nt, .slice A' n' c', .slice B' m' d'] 25))
  have HB0 := hide (show CellsAt W2 w.heap.size [.string nf, .slice A n c, .slice B m d] from hW2 ▸ (CellsAt.new w [.string nf, .slice A n c, .slice B m d] 25 (0, 0)).ext (Ext.alloc _ _))
  have HB1 := hide (show CellsAt W2 (w.heap.size + 1) [.string nt, .slice A' n' c', .slice B' m' d'] from by
    have := CellsAt.new (w.alloc (.cells #[.string nf, .slice A n c, .slice B m d] 25)) [.string nt, .slice A' n' c', .slice B' m' d'] 25 (0, 0)
    rw [World.size_alloc] at this
    rw [← hW2]; exact this)
  have HW2 := hide hW2; clear hW2
  go_enter Try.func36, Try.ntmps36
  go_wp2_with fail
  rw [HW2.out]
  have c0 := cell_ext (HB0.out 0 _ rfl)
  have c1 := cell_ext (HB0.out 1 _ rfl)
  have c2 := cell_ext (HB0.out 2 _ rfl)
  have d0 := cell_ext (HB1.out 0 _ rfl)
  have d1 := cell_ext (HB1.out 1 _ rfl)
  have d2 := cell_ext (HB1.out 2 _ rfl)
  refine wp_region_ext 7 (by kernel_rfl) (by kernel_rfl) (by kernel_rfl) ?_
  iterate 4
    refine wpE_k (by kernel_rfl) (by kernel_rfl) ?_
    apply Exists.intro
    refine ⟨fun w1 hw1 => ?_, fun K hK => ?_⟩
    · go_simp; first | done | rfl | with_reducible exact HSF.out _ (HE.out.trans ‹_›) | with_reducible exact HST.out _ (HE.out.trans ‹_›)
    go_simp; refine hK _ _ ?_; clear hK K
  clear c0 c1 c2 d0 d1 d2
  refine wpE_p [] (IntsAt [sf, st]) (fun u w w' _ h1 h2 => h2.stable h1) rfl (by kernel_rfl) (fun w1 hw1 => ?_) ?_
  · simp only [LookQ]
    go_simp
    exact ⟨Ext.alloc _ _, IntsAt.new _ _ _⟩
  refine wpE_kp [10] (.int .i64 (orI [sf, st])) (by kernel_rfl) (by kernel_rfl) (fun w1 hw1 => ?_) (fun K hK => ?_)
  · simp only [LookQ]
    intro u hu
    obtain ⟨b, rfl, hc⟩ := hu _ rfl
    clear hu
    go_simp
    refine ⟨Ext.refl _, sameCall (or_errno b 0 2 2 _ w1 rfl (by omega) (fun i x hx => by rw [Nat.zero_add]; exact hc i x hx))⟩
  go_simp; refine hK _ _ ?_; clear hK K
  refine wpE_k (by kernel_rfl) (by kernel_rfl) ?_
  apply Exists.intro
  refine ⟨fun w1 hw1 => ?_, fun K hK => ?_⟩
  · go_simp; rfl
  go_simp; refine hK _ _ ?_; clear hK K
  refine wpE_nil ⟨rfl, by kernel_rfl, fun w1 hw1 => ?_⟩
  simp only [EndQ]
  intro u hu
  refine wpList_nil ?_
  have HF := hide (HE.out.trans hw1)
  have HW := hide hw1; clear hw1
  generalize hor : orI [sf, st] = r at *
  clear hor hu
  have b1 := HB0.out.ext HW.out 1 _ rfl
  have e1 := HB1.out.ext HW.out 1 _ rfl
  by_cases hr : r = 0
  · subst hr
    have hSP2 := hide (hSP.out.trans (if_neg (by simp))); clear hSP
    by_cases hn : n = n'
    · subst hn
      have hne : ((n : Int) != (n : Int)) = false := by simp
      have hX := hide (hSP2.out.trans (if_neg (by simp))); clear hSP2
      go_wp2_with fail
      go_ret
      exact ⟨ret_int hX.out.symm, HF.out⟩
    · have hne : ((n : Int) != (n' : Int)) = true := by simp; omega
      have hX := hide (hSP2.out.trans (if_pos hn)); clear hSP2
      go_wp2_with fail
      go_ret
      exact ⟨ret_int hX.out.symm, HF.out⟩
  · have hr1 : (r != 0) = true := by simpa using hr
    have hX := hide (hSP.out.trans (if_pos hr)); clear hSP hr
    go_wp2_with fail
    go_ret
    exact ⟨ret_int hX.out.symm, HF.out⟩
end Go.Proofs.Ythjpcnceppmnmaa
