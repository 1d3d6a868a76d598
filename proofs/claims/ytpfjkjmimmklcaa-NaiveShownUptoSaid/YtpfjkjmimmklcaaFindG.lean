/-
  Find: the program's.
  Find: the program's, whole.
-/
import Derived.Test.YtpfjkjmimmklcaaLayG
import Derived.Test.YtpfjkjmimmklcaaCmpG
import Derived.Laws.EntriesVeiled
namespace Go.Proofs.Ytpfjkjmimmklcaa
open Go.RowKit

theorem shapeQ_ok {q : Qy} (h : shapeQ q = 0) : badNameQ q = false ∧ q.atoms.any badA = false ∧ (1 ≤ q.atoms.length ∧ q.atoms.length ≤ 6) ∧ q.atoms.any wideA = false ∧ dblB q.head = false ∧ unsafeB q = false := by
  unfold shapeQ at h
  split at h
  · cases h
  · split at h
    · cases h
    · split at h
      · cases h
      · split at h
        · cases h
        · split at h
          · cases h
          · split at h
            · cases h
            · rename_i h1 h2 h3 h4 h5 h6
              exact ⟨by simpa using h1, by simpa using h2, by omega, by simpa using h4, by simpa using h5, by simpa using h6⟩
theorem shapeQ_five {q : Qy} (h : shapeQ q = 0) : ∀ a ∈ q.atoms, a.terms.length ≤ 5 := fun a ha => by
  have h1 := (shapeQ_ok h).2.2.2.1
  rw [List.any_eq_false] at h1
  have := h1 a ha
  simp only [wideA, decide_eq_true_eq] at this
  omega
theorem shapeQ_rng (q : Qy) : 0 ≤ shapeQ q ∧ shapeQ q ≤ 100 := by
  unfold shapeQ
  repeat' split
  all_goals decide

/-- errors in a row of their own -/
def shapesP (f t : Qy) : Int := if shapeQ f ≠ 0 then shapeQ f else if shapeQ t ≠ 0 then shapeQ t else if f.head.length ≠ t.head.length then 92 else 0
theorem orI_two (a b : Int) : orI [a, b] = if a ≠ 0 then a else b := by
  simp only [orI]
  by_cases h : a = 0
  · by_cases h2 : b = 0 <;> simp [h, h2]
  · simp [h]

theorem or_errno (b off n c : Nat) (xs : List Int) (w : World) (hn : xs.length = n) (hm : n ≤ 1000) (hc : ∀ (i : Nat) (x : Int), xs[i]? = some x → w.cell? ⟨b, off + i, none⟩ = some (.int .i64 x)) :
    Calls Try.prog 118 #[.slice (some ⟨b, off, none⟩) n c] w fun e w' => e = .returned (.int .i64 (orI xs)) ∧ w = w' := by
  have Hn := hide hn; clear hn
  go_enter Try.func118, Try.ntmps118
  go_wp2
  go_loop [5, 8] (fun _ i => ∃ k : Nat, k ≤ n ∧ i = .int .i64 k ∧ Hid (orI xs = orI (xs.drop k))) (fun _ i => n - (intOf i).toNat)
  case atStart => exact ⟨0, by omega, rfl, rfl⟩
  case round =>
    obtain ⟨k, hk, rfl, ho⟩ := hrel
    by_cases h : k < n
    · obtain ⟨x, hx⟩ : ∃ x, xs[k]? = some x := ⟨_, List.getElem?_eq_getElem (by rw [Hn.out]; exact h)⟩
      have hcell := hc k x hx
      have hd := hide (orI_drop xs k x hx)
      clear hc hx
      by_cases hx0 : x = 0
      · subst hx0
        go_wp2
        go_round
        case rel => exact ⟨k + 1, by omega, by go_num, by rw [Hid, ho.out, hd.out]; rfl⟩
        case measure => simp [intOf]; omega
      · have hb : (x != 0) = true := by simpa using hx0
        go_wp2
        go_ret
        exact ⟨ret_int (by rw [ho.out, hd.out, if_neg hx0]), rfl⟩
    · go_wp2
      go_ret
      exact ⟨ret_int (by rw [ho.out, List.drop_of_length_le (by rw [Hn.out]; omega)]; rfl), rfl⟩

set_option maxRecDepth 100000 in
theorem shapes_any (f t : Qy) (LF LT : QLoc) (w : World) (hf : QAt w LF f) (ht : QAt w LT t) (hMf : smallM 1048576 f) (hMt : smallM 1048576 t) :
    Calls Try.prog 92 #[qval f.name LF, qval t.name LT] w fun e w' => e = .returned (.int .i64 (shapesP f t)) ∧ Ext w w' := by
  have HSF := hide (fun w1 (h1 : Ext w w1) => query_shape f LF w1 (hf.ext h1) hMf)
  have HST := hide (fun w1 (h1 : Ext w w1) => query_shape t LT w1 (ht.ext h1) hMt)
  have hnf := hf.head.len; have hnt := ht.head.len
  have hnl : LF.n ≤ 1048576 := by have := hMf.headL; omega
  have hntl : LT.n ≤ 1048576 := by have := hMt.headL; omega
  have hlen := hide (show (LF.n ≠ LT.n) ↔ (f.head.length ≠ t.head.length) by rw [hnf, hnt])
  have hSP := hide (show shapesP f t = if orI [shapeQ f, shapeQ t] ≠ 0 then orI [shapeQ f, shapeQ t] else if LF.n ≠ LT.n then 92 else 0 by
    rw [shapesP, orI_two, hnf, hnt]
    by_cases h : shapeQ f = 0 <;> simp [h])
  clear hnf hnt hf ht hMf hMt
  generalize shapesP f t = sp at *
  generalize shapeQ f = sf at *
  generalize shapeQ t = st at *
  obtain ⟨nf, hdf, af⟩ := f
  obtain ⟨nt, hdt, at_⟩ := t
  obtain ⟨A, n, c, B, m, d⟩ := LF
  obtain ⟨A', n', c', B', m', d'⟩ := LT
  simp only [qval] at *
  generalize hW2 : (w.alloc (.cells #[.string nf, .slice A n c, .slice B m d] 25)).alloc (.cells #[.string nt, .slice A' n' c', .slice B' m' d'] 25) = W2
  have HE := hide (show Ext w W2 from hW2 ▸ (Ext.alloc w (.cells #[.string nf, .slice A n c, .slice B m d] 25)).alloc' (.cells #[.string nt, .slice A' n' c', .slice B' m' d'] 25))
  have HB0 := hide (show CellsAt W2 w.heap.size [.string nf, .slice A n c, .slice B m d] from hW2 ▸ (CellsAt.new w [.string nf, .slice A n c, .slice B m d] 25 (0, 0)).ext (Ext.alloc _ _))
  have HB1 := hide (show CellsAt W2 (w.heap.size + 1) [.string nt, .slice A' n' c', .slice B' m' d'] from by
    have := CellsAt.new (w.alloc (.cells #[.string nf, .slice A n c, .slice B m d] 25)) [.string nt, .slice A' n' c', .slice B' m' d'] 25 (0, 0)
    rw [World.size_alloc] at this
    rw [← hW2]; exact this)
  have HW2 := hide hW2; clear hW2
  go_enter Try.func92, Try.ntmps92
  go_wp2_with fail
  rw [HW2.out]
  have c0 := cell_ext (HB0.out 0 _ rfl)
  have c1 := cell_ext (HB0.out 1 _ rfl)
  have c2 := cell_ext (HB0.out 2 _ rfl)
  have d0 := cell_ext (HB1.out 0 _ rfl)
  have d1 := cell_ext (HB1.out 1 _ rfl)
  have d2 := cell_ext (HB1.out 2 _ rfl)
  refine wp_region_ext 7 (by kernel_rfl) (by kernel_rfl) (by kernel_rfl) ?_
  iterate 4
    refine wpE_k (by kernel_rfl) (by kernel_rfl) ?_
    apply Exists.intro
    refine ⟨fun w1 hw1 => ?_, fun K hK => ?_⟩
    · go_simp; first | done | rfl | with_reducible exact HSF.out _ (HE.out.trans ‹_›) | with_reducible exact HST.out _ (HE.out.trans ‹_›)
    go_simp; refine hK _ _ ?_; clear hK K
  clear c0 c1 c2 d0 d1 d2
  refine wpE_p [] (IntsAt [sf, st]) (fun u w w' _ h1 h2 => h2.stable h1) rfl (by kernel_rfl) (fun w1 hw1 => ?_) ?_
  · simp only [LookQ]
    go_simp
    exact ⟨Ext.alloc _ _, IntsAt.new _ _ _⟩
  refine wpE_kp [10] (.int .i64 (orI [sf, st])) (by kernel_rfl) (by kernel_rfl) (fun w1 hw1 => ?_) (fun K hK => ?_)
  · simp only [LookQ]
    intro u hu
    obtain ⟨b, rfl, hc⟩ := hu _ rfl
    clear hu
    go_simp
    refine ⟨Ext.refl _, sameCall (or_errno b 0 2 2 _ w1 rfl (by omega) (fun i x hx => by rw [Nat.zero_add]; exact hc i x hx))⟩
  go_simp; refine hK _ _ ?_; clear hK K
  refine wpE_k (by kernel_rfl) (by kernel_rfl) ?_
  apply Exists.intro
  refine ⟨fun w1 hw1 => ?_, fun K hK => ?_⟩
  · go_simp; rfl
  go_simp; refine hK _ _ ?_; clear hK K
  refine wpE_nil ⟨rfl, by kernel_rfl, fun w1 hw1 => ?_⟩
  simp only [EndQ]
  intro u hu
  refine wpList_nil ?_
  have HF := hide (HE.out.trans hw1)
  have HW := hide hw1; clear hw1
  generalize hor : orI [sf, st] = r at *
  clear hor hu
  have b1 := HB0.out.ext HW.out 1 _ rfl
  have e1 := HB1.out.ext HW.out 1 _ rfl
  by_cases hr : r = 0
  · subst hr
    have hSP2 := hide (hSP.out.trans (if_neg (by simp))); clear hSP
    by_cases hn : n = n'
    · subst hn
      have hne : ((n : Int) != (n : Int)) = false := by simp
      have hX := hide (hSP2.out.trans (if_neg (by simp))); clear hSP2
      go_wp2_with fail
      go_ret
      exact ⟨ret_int hX.out.symm, HF.out⟩
    · have hne : ((n : Int) != (n' : Int)) = true := by simp; omega
      have hX := hide (hSP2.out.trans (if_pos hn)); clear hSP2
      go_wp2_with fail
      go_ret
      exact ⟨ret_int hX.out.symm, HF.out⟩
  · have hr1 : (r != 0) = true := by simpa using hr
    have hX := hide (hSP.out.trans (if_pos hr)); clear hSP hr
    go_wp2_with fail
    go_ret
    exact ⟨ret_int hX.out.symm, HF.out⟩
end Go.Proofs.Ytpfjkjmimmklcaa

namespace Go.Proofs.Ytpfjkjmimmklcaa
open Go.RowKit

/-- images, whether there are any, an error's number -/
def findR (f t : Qy) : List Nat × Bool × Int := if shapesP f t ≠ 0 then ([], false, shapesP f t) else match findP f t with
  | some l => (l, true, 0)
  | none => ([], false, 0)
def RetF (w0 : World) (r : List Nat × Bool × Int) (en : Ending) (w' : World) : Prop :=
  ∃ A c, en = .returned (.tuple #[.slice A r.1.length c, .bool r.2.1, .int .i64 r.2.2]) ∧ w'.ownsRow w0.heap.size 3 1 (.slice A r.1.length c) r.1.length (intC r.1) ∧ Ext w0 w'
theorem shapesP_zero {f t : Qy} (h : shapesP f t = 0) : shapeQ f = 0 ∧ shapeQ t = 0 ∧ f.head.length = t.head.length := by
  unfold shapesP at h
  split at h
  · rename_i h1; exact absurd h h1
  · split at h
    · rename_i h1; exact absurd h h1
    · split at h
      · cases h
      · rename_i h1 h2 h3; exact ⟨by omega, by omega, by omega⟩
theorem shapesP_rng (f t : Qy) : 0 ≤ shapesP f t ∧ shapesP f t ≤ 100 := by
  have h1 := shapeQ_rng f
  have h2 := shapeQ_rng t
  unfold shapesP
  repeat' split
  all_goals first | omega | exact h1 | exact h2
theorem env0_step {xs ys : List ByteArray} {σ : Env} {i : Nat} {x y : ByteArray} (hx : xs[i]? = some x) (hy : ys[i]? = some y) : env0 (xs.drop i) (ys.drop i) σ = env0 (xs.drop (i + 1)) (ys.drop (i + 1)) (σ.put x ⟨y, ⟨0, 0, .empty⟩⟩) := by
  obtain ⟨h1, e1⟩ := List.getElem?_eq_some_iff.1 hx
  obtain ⟨h2, e2⟩ := List.getElem?_eq_some_iff.1 hy
  rw [List.drop_eq_getElem_cons h1, List.drop_eq_getElem_cons h2, e1, e2]
  rfl

set_option maxHeartbeats 8000000 in
set_option maxRecDepth 100000 in
theorem find_any (f t : Qy) (LF LT : QLoc) (w : World) (hf : QAt w LF f) (ht : QAt w LT t) (hMf : smallM 1048576 f) (hMt : smallM 1048576 t) :
    Calls Try.prog 60 #[qval f.name LF, qval t.name LT] w (RetF w (findR f t)) := by
  have HSH := hide (fun w1 (h1 : Ext w w1) => shapes_any f t LF LT w1 (hf.ext h1) (ht.ext h1) hMf hMt)
  have hnf := hf.head.len; have hnt := ht.head.len
  have hnl : LF.n ≤ 1048576 := by have := hMf.headL; omega
  have hlen := hide (And.intro hnf hnt)
  have HQF := hide hf; have HQT := hide ht; have HMF := hide hMf; have HMT := hide hMt
  have hsp := shapesP_rng f t
  have HLAY := hide (fun (h6 : f.atoms.length ≤ 6) (h6t : t.atoms.length ≤ 6) (h5 : ∀ a ∈ f.atoms, a.terms.length ≤ 5) (gF gT gM gI gL g : Nat) (hg : w.heap.size ≤ g) (hgI : w.heap.size ≤ gI) (k : Nat) (σ : Env) (c : Nat) (A : Option Addr) (w1 : World) =>
    lay_any w f t LF LT gF gT gM gI gL g w.heap.size hf ht hMf h6 h6t h5 hg hgI (Nat.le_refl _) f.atoms.length 0 0 k σ [] A c w1 (by omega) rfl rfl)
  clear hnf hnt hf ht hMf hMt
  obtain ⟨A, n, c, B, m, d⟩ := LF
  obtain ⟨A', n', c', B', m', d'⟩ := LT
  simp only [qval] at *
  generalize hW3 : ((w.alloc (.cells #[.string f.name, .slice A n c, .slice B m d] 25)).alloc (.cells #[.string t.name, .slice A' n' c', .slice B' m' d'] 25)).alloc (.cells #[.slice none 0 0] 100) = W3
  have hs3 : W3.heap.size = w.heap.size + 1 + 1 + 1 := by rw [← hW3]; simp
  have HE := hide (show Ext w W3 from hW3 ▸ ((Ext.alloc w (.cells #[.string f.name, .slice A n c, .slice B m d] 25)).alloc' (.cells #[.string t.name, .slice A' n' c', .slice B' m' d'] 25)).alloc' (.cells #[.slice none 0 0] 100))
  have HB0 := hide (show Blk W3 w.heap.size 25 #[.string f.name, .slice A n c, .slice B m d] from hW3 ▸ ((Blk.new w 25 #[.string f.name, .slice A n c, .slice B m d]).ext (Ext.alloc _ _)).ext (Ext.alloc _ _))
  have HB1 := hide (show Blk W3 (w.heap.size + 1) 25 #[.string t.name, .slice A' n' c', .slice B' m' d'] from by
    have := Blk.new (w.alloc (.cells #[.string f.name, .slice A n c, .slice B m d] 25)) 25 #[.string t.name, .slice A' n' c', .slice B' m' d']
    rw [World.size_alloc] at this
    rw [← hW3]; exact this.ext (Ext.alloc _ _))
  have HB2 := hide (show Blk W3 (w.heap.size + 1 + 1) 100 #[.slice none 0 0] from by
    have := Blk.new ((w.alloc (.cells #[.string f.name, .slice A n c, .slice B m d] 25)).alloc (.cells #[.string t.name, .slice A' n' c', .slice B' m' d'] 25)) 100 #[.slice none 0 0]
    rw [World.size_alloc, World.size_alloc, hW3] at this
    exact this)
  have HS3 := hide hs3
  have HW3 := hide hW3; clear hW3 hs3
  by_cases hsp0 : shapesP f t = 0
  · obtain ⟨z1, z2, z3⟩ := shapesP_zero hsp0
    have hr := hide (show findR f t = match findP f t with | some l => (l, true, 0) | none => ([], false, 0) by rw [findR, if_neg (by simpa using hsp0)])
    have h6 := hide (And.intro (shapeQ_ok z1).2.2.1.2 (And.intro (shapeQ_ok z2).2.2.1.2 (shapeQ_five z1)))
    have hKb := hide (Kb_le f.atoms.length (shapeQ_ok z1).2.2.1.2)
    have hnn : n = n' := by have := hlen.out; omega
    subst hnn
    rw [hsp0] at HSH
    generalize findR f t = r at *
    clear z1 z2 z3 hsp0 hsp
    have hmm := @run_makeMap Try.prog
    go_enter Try.func60, Try.ntmps60
    go_wp2_with (rw [HW3.out]; (with_reducible refine (HSH.out _ HE.out).mono ?_); rintro e w1 ⟨rfl, h2⟩; have E1 := hide h2; have f1 : w1.cell? ⟨w.heap.size, 1, none⟩ = some (.slice A n c) := (HB0.out.ext h2).cell 1; have hsz := Nat.le_trans (Nat.le_of_eq HS3.out.symm) h2.size; have l1 : w.heap.size < w1.heap.size := (by omega); have l2 : w.heap.size < w1.heap.size + 1 := (by omega); clear h2)
    have HM0 := hide (show MapT ((w1.alloc (.map #[] 0)).alloc (.cells #[.map (some w1.heap.size)] 150)) w1.heap.size 0 envNone from MapS.ext (MapS.made w1) (Ext.alloc _ _))
    have hbM := Blk.new (w1.alloc (.map #[] 0)) 150 #[.map (some w1.heap.size)]
    rw [World.size_alloc] at hbM
    have HBM := hide hbM; clear hbM
    have HEm := hide (show Ext w ((w1.alloc (.map #[] 0)).alloc (.cells #[.map (some w1.heap.size)] 150)) from ((HE.out.trans E1.out).alloc' _).alloc' _)
    have HEm1 := hide (show Ext w1 ((w1.alloc (.map #[] 0)).alloc (.cells #[.map (some w1.heap.size)] 150)) from (Ext.alloc w1 _).alloc' _)
    have hszm : ((w1.alloc (.map #[] 0)).alloc (.cells #[.map (some w1.heap.size)] 150)).heap.size = w1.heap.size + 1 + 1 := by simp
    have HSZ := hide hszm; clear hszm
    generalize hWm : (w1.alloc (.map #[] 0)).alloc (.cells #[.map (some w1.heap.size)] 150) = Wm at *
    generalize hgm : w1.heap.size = g at *
    clear hWm
    go_loopw [9, 10, 22] (fun _ _ s22 w' => ∃ (i : Nat) (σi : Env), i ≤ n ∧ s22 = .int .i64 i ∧ Hid (env0 (f.head.drop i) (t.head.drop i) σi = env0 f.head t.head envNone) ∧ Hid (MapT w' g i σi) ∧ Hid (ExtM g Wm w')) (fun _ _ s22 _ => n - (intOf s22).toNat)
    case atStart => exact ⟨0, envNone, by omega, rfl, rfl, HM0.out, ExtM.refl _ _⟩
    case round =>
      obtain ⟨i, σi, hin, rfl, he0, hM, hX⟩ := hrel
      have hgw : w.heap.size ≤ g := by omega
      have hEw : Ext w wr := hX.out.toExt HEm.out hgw
      by_cases hi : i < n
      · obtain ⟨b, off, x, rfl, hx, hb1, c0⟩ := (HQF.out.head.ext RS.stab hEw).str hi
        obtain ⟨b', off', y, rfl, hy, hb2, d0⟩ := (HQT.out.head.ext RS.stab hEw).str hi
        have hst := hide (env0_step (σ := σi) hx hy)
        have hxs : x.size ≤ maxLen := by have := HMF.out.heads x (List.mem_of_getElem? hx); unfold maxLen; omega
        have mp : wr.cell? ⟨g + 1, 0, none⟩ = some (.map (some g)) := (hX.out.blk HBM.out (by omega)).cell 0
        have t1 : wr.cell? ⟨w.heap.size + 1, 1, none⟩ = some (.slice (some ⟨b', off', none⟩) n c') := (hX.out.blk ((HB1.out.ext E1.out).ext HEm1.out) (by omega)).cell 1
        have HEw := hide hEw
        have hil : i < maxLen := by unfold maxLen; omega
        have Hil := hide hil
        clear hx hy hEw hil
        go_wp2_with fail
        have mp := cell_ext mp
        have t1 := cell_ext t1
        have d0 := cell_ext d0
        refine wp_region_ext 8 (by kernel_rfl) (by kernel_rfl) (by kernel_rfl) ?_
        iterate 8
          refine wpE_k (by kernel_rfl) (by kernel_rfl) ?_
          apply Exists.intro
          refine ⟨fun w1 hw1 => ?_, fun K hK => ?_⟩
          · go_simp; first | done | rfl
          go_simp; refine hK _ _ ?_; clear hK K
        refine wpE_nil ⟨rfl, by kernel_rfl, fun wq hwq => ?_⟩
        simp only [EndQ, List.drop]
        clear mp t1 d0 c0
        have HWQ := hide hwq; clear hwq
        go_wp2_with (at_mapUpdate; refine wpList_smap_put rfl _ _ _ _ 60 rfl Try.underlying150 g _ (valS σi) rfl (MapS.ext hM.out HWQ.out) Hil.out x _ rfl rfl hxs ?_; intro w5 hm5 ht5)
        go_roundw
        case rel => exact ⟨i + 1, σi.put x ⟨y, ⟨0, 0, .empty⟩⟩, by omega, by go_num, hst.out.symm.trans he0.out, by rw [Hid, MapT, valS_put]; exact hm5.out, (hX.out.trans (.of HWQ.out)).trans (.turned ht5.out)⟩
        case measure => simp [intOf]; omega
      · have hσ := hide (show σi = env0 f.head t.head envNone by
          have := he0.out
          rw [List.drop_of_length_le (by have := hlen.out.1; omega)] at this
          exact this)
        go_wp2_with fail
        generalize hFv : (Value.func (.func 93) #[] #[.pointer (some ⟨w.heap.size, 0, none⟩), .pointer (some ⟨w.heap.size + 1, 0, none⟩), .pointer (some ⟨g + 1, 0, none⟩), .pointer (some ⟨w.heap.size + 1 + 1, 0, none⟩), .pointer (some ⟨wr.heap.size, 0, none⟩)]) = Fv
        have xa : ExtM g Wm (wr.alloc (.cells #[Fv] 151)) := hX.out.alloc _
        have b0 := xa.blk ((HB0.out.ext E1.out).ext HEm1.out) (show w.heap.size ≠ g by omega)
        have b1 := xa.blk ((HB1.out.ext E1.out).ext HEm1.out) (show w.heap.size + 1 ≠ g by omega)
        have b2 := xa.blk ((HB2.out.ext E1.out).ext HEm1.out) (show w.heap.size + 1 + 1 ≠ g by omega)
        have bM := xa.blk HBM.out (show g + 1 ≠ g by omega)
        have bL := Blk.new wr 151 #[Fv]
        have hL : LSt w (wr.alloc (.cells #[Fv] 151)) f t ⟨A, n, c, B, m, d⟩ ⟨A', n, c', B', m', d'⟩ w.heap.size (w.heap.size + 1) (g + 1) (w.heap.size + 1 + 1) wr.heap.size g := ⟨xa.toExt HEm.out hgw, b0, b1, bM, by rw [hFv]; exact bL⟩
        have hI : IAt (wr.alloc (.cells #[Fv] 151)) (w.heap.size + 1 + 1) w.heap.size none 0 [] := ⟨b2, World.ownsRow_nil _ _ _ _⟩
        have hMa : MapT (wr.alloc (.cells #[Fv] 151)) g i σi := MapS.ext hM.out (Ext.alloc _ _)
        have hLAY := HLAY.out h6.out.1 h6.out.2.1 h6.out.2.2 w.heap.size (w.heap.size + 1) (g + 1) (w.heap.size + 1 + 1) wr.heap.size g hgw (by omega) i σi 0 none _ hL (hL.ext.size) hI hMa (by have := hKb.out; omega)
        have Hbad := hide (And.intro hL (And.intro hI hMa))
        clear xa b0 b1 bM bL hL
        rw [hσ.out] at hLAY
        refine hLAY.mono ?_
        rintro e w10 ⟨A9, c9, rfl, X10, F10, P10⟩
        have hfp : layP t.atoms (List.drop 0 f.atoms) (env0 f.head t.head envNone) = findP f t := rfl
        rw [hfp] at P10 ⊢
        have EX := hide (X10.toExt Hbad.out.1.ext (SL.new hgw (by omega) (Nat.le_refl _) Hbad.out.2.1.own))
        clear X10 F10 hLAY hfp b2 hI hMa
        generalize hfo : findP f t = fo at *
        clear hfo
        cases fo with
        | some l =>
          have r0 : w10.cell? ⟨w.heap.size + 1 + 1, 0, none⟩ = some (.slice A9 l.length c9) := P10.var.cell 0
          have q0 := P10.var.frozen 0
          have HP := hide P10; clear P10
          go_wp2_with fail
          refine bodyPost_ret (v := .tuple #[.slice A9 l.length c9, .bool true, .int .i64 0]) (by simp [results, Try.results60, go_sem, r0]) rfl ?_
          rw [hr.out]
          exact ⟨A9, c9, rfl, own_set HP.out.own HP.out.var (by decide) 0 _, EX.out.setCell (p := ⟨w.heap.size + 1 + 1, 0, none⟩) (by simp; omega) _⟩
        | none =>
          obtain ⟨P10, _⟩ := P10
          have r0 : w10.cell? ⟨w.heap.size + 1 + 1, 0, none⟩ = some (.slice A9 0 c9) := P10.var.cell 0
          have q0 := P10.var.frozen 0
          have HP := hide P10; clear P10
          go_wp2_with fail
          refine bodyPost_ret (v := .tuple #[.slice none 0 0, .bool false, .int .i64 0]) (by simp [results, Try.results60, go_sem, r0]) rfl ?_
          rw [hr.out]
          exact ⟨none, 0, rfl, World.ownsRow_nil _ _ _ _, EX.out.setCell (p := ⟨w.heap.size + 1 + 1, 0, none⟩) (by simp; omega) _⟩
  · have hr := hide (show findR f t = ([], false, shapesP f t) by rw [findR, if_pos hsp0])
    have h1 : (shapesP f t != 0) = true := by simpa using hsp0
    generalize findR f t = r at *
    generalize shapesP f t = sp at *
    clear hsp0
    go_enter Try.func60, Try.ntmps60
    go_wp2_with (rw [HW3.out]; (with_reducible refine (HSH.out _ HE.out).mono ?_); rintro e w1 ⟨rfl, h2⟩; have E1 := hide h2; have r0 : w1.cell? ⟨w.heap.size + 1 + 1, 0, none⟩ = some (.slice none 0 0) := (HB2.out.ext h2).cell 0; have q0 := (HB2.out.ext h2).frozen 0; clear h2)
    refine bodyPost_ret (v := .tuple #[.slice none 0 0, .bool false, .int .i64 sp]) (by simp [results, Try.results60, go_sem, r0]) rfl ?_
    rw [hr.out]
    exact ⟨none, 0, rfl, World.ownsRow_nil _ _ _ _, (HE.out.trans E1.out).setCell (p := ⟨w.heap.size + 1 + 1, 0, none⟩) (by simp; omega) _⟩
end Go.Proofs.Ytpfjkjmimmklcaa
