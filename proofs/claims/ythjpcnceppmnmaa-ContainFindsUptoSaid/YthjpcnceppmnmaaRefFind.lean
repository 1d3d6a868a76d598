/-
  Find and Equal, by the document.
-/
import Derived.Test.YthjpcnceppmnmaaLeast
namespace Go.Proofs.Ythjpcnceppmnmaa
open Go.RowKit

theorem leastP_nil (f t : Qy) : leastP f.atoms t.atoms (env0 f.head t.head envNone) [] = findP f t := by
  have h : envIm f.atoms t.atoms [] 0 (env0 f.head t.head envNone) = some (env0 f.head t.head envNone) := rfl
  unfold leastP
  rw [h]
  simp [findP]
def RetFR (w0 : World) (r : List Nat × Bool × Int) (en : Ending) (w' : World) : Prop :=
  ∃ A c, en = .returned (.tuple #[.slice A r.1.length c, .bool r.2.1, .int .i64 r.2.2]) ∧ LAt RN 1 w' A r.1.length r.1 ∧ Ext w0 w'

set_option maxHeartbeats 8000000 in
set_option maxRecDepth 100000 in
theorem ref_find (f t : Qy) (LF LT : QLoc) (w : World) (hf : QAt w LF f) (ht : QAt w LT t) (hMf : smallM 1048576 f) (hMt : smallM 1048576 t) :
    Calls Try.prog 14 #[qval f.name LF, qval t.name LT] w (RetFR w (findR f t)) := by
  have HSF := hide (fun w1 (h1 : Ext w w1) => ref_shape f LF w1 (hf.ext h1) hMf)
  have HST := hide (fun w1 (h1 : Ext w w1) => ref_shape t LT w1 (ht.ext h1) hMt)
  have HLE := hide (fun (hd : dblB f.head = false) (hh : f.head.length = t.head.length) w1 (h1 : Ext w w1) => least_any f t LF LT hMf hMt hd hh f.atoms.length [] none 0 0 w1 (hf.ext h1) (ht.ext h1) (LAt.nil _) (by omega) (fun j hj => by cases hj))
  have hnf := hf.head.len; have hnt := ht.head.len
  have HL := hide (And.intro hnf hnt)
  have HE := hide ((Ext.alloc w (.cells #[.string f.name, .slice LF.A LF.n LF.c, .slice LF.B LF.m LF.d] 25)).alloc' (.cells #[.string t.name, .slice LT.A LT.n LT.c, .slice LT.B LT.m LT.d] 25))
  have HB0 := hide ((Blk.new w 25 #[.string f.name, .slice LF.A LF.n LF.c, .slice LF.B LF.m LF.d]).ext (Ext.alloc _ (.cells #[.string t.name, .slice LT.A LT.n LT.c, .slice LT.B LT.m LT.d] 25)))
  have HB1 := hide (show Blk ((w.alloc (.cells #[.string f.name, .slice LF.A LF.n LF.c, .slice LF.B LF.m LF.d] 25)).alloc (.cells #[.string t.name, .slice LT.A LT.n LT.c, .slice LT.B LT.m LT.d] 25)) (w.heap.size + 1) 25 #[.string t.name, .slice LT.A LT.n LT.c, .slice LT.B LT.m LT.d] from Blk.newAt (World.size_alloc _ _))
  generalize hW2 : (w.alloc (.cells #[.string f.name, .slice LF.A LF.n LF.c, .slice LF.B LF.m LF.d] 25)).alloc (.cells #[.string t.name, .slice LT.A LT.n LT.c, .slice LT.B LT.m LT.d] 25) = W2 at *
  have HW2 := hide hW2; clear hW2 hf ht hMf hMt
  have hrng := shapeQ_rng f
  have hrngt := shapeQ_rng t
  obtain ⟨A, n, c, B, m, d⟩ := LF
  obtain ⟨A', n', c', B', m', d'⟩ := LT
  simp only [qval] at *
  have e0 : W2.cell? ⟨w.heap.size, 0, none⟩ = some (.string f.name) := HB0.out.cell 0
  have e1 : W2.cell? ⟨w.heap.size, 1, none⟩ = some (.slice A n c) := HB0.out.cell 1
  have e2 : W2.cell? ⟨w.heap.size, 2, none⟩ = some (.slice B m d) := HB0.out.cell 2
  by_cases h1 : shapeQ f = 0
  · by_cases h2 : shapeQ t = 0
    · rw [h1] at HSF
      rw [h2] at HST
      by_cases h3 : n = n'
      · have hr := hide (show findR f t = ((findP f t).getD [], (findP f t).isSome, 0) by
          have hsp : shapesP f t = 0 := by
            unfold shapesP
            rw [if_neg (by simpa using h1), if_neg (by simpa using h2), if_neg (by omega)]
          rw [findR, if_neg (by simpa using hsp)]
          cases findP f t <;> rfl)
        have HLE2 := hide (HLE.out (shapeQ_ok h1).2.2.2.2.1 (by omega))
        rw [leastP_nil] at HLE2
        rw [hr.out]
        generalize findP f t = o at *
        subst h3
        clear h1 h2 hrng hrngt hnf hnt HLE hr
        go_enter Try.func14, Try.ntmps14
        go_wp2_with (first
          | (rw [HW2.out]; (with_reducible refine (HSF.out _ HE.out).mono ?_); rintro e w1 ⟨rfl, h2⟩; have E1 := hide h2; have b0 := (HB1.out.ext h2).cell 0; have b1 := (HB1.out.ext h2).cell 1; have b2 := (HB1.out.ext h2).cell 2; clear h2)
          | ((with_reducible refine (HST.out _ (HE.out.trans E1.out)).mono ?_); rintro e w2 ⟨rfl, h2⟩; have E2 := hide (E1.out.trans h2); have d0 := (HB1.out.ext E2.out).cell 0; have d1 := (HB1.out.ext E2.out).cell 1; have d2 := (HB1.out.ext E2.out).cell 2; have a0 := (HB0.out.ext E2.out).cell 0; have a1 := (HB0.out.ext E2.out).cell 1; have a2 := (HB0.out.ext E2.out).cell 2; clear h2)
          | ((with_reducible refine (HLE2.out _ (HE.out.trans E2.out)).mono ?_); rintro e w3 ⟨A3, c3, rfl, l3, h2⟩; have E3 := hide h2; have L3 := hide l3; clear h2 l3))
        go_ret3
        exact ⟨A3, c3, rfl, L3.out, (HE.out.trans E2.out).trans E3.out⟩
      · have hr := hide (show findR f t = ([], false, 92) by
          have hsp : shapesP f t = 92 := by
            unfold shapesP
            rw [if_neg (by simpa using h1), if_neg (by simpa using h2), if_pos (by omega)]
          rw [findR, if_pos (by rw [hsp]; decide), hsp])
        rw [hr.out]
        have hne : ((n : Int) != (n' : Int)) = true := by simp; omega
        clear h1 h2 h3 hrng hrngt hnf hnt HLE hr
        go_enter Try.func14, Try.ntmps14
        go_wp2_with (first
          | (rw [HW2.out]; (with_reducible refine (HSF.out _ HE.out).mono ?_); rintro e w1 ⟨rfl, h2⟩; have E1 := hide h2; have b0 := (HB1.out.ext h2).cell 0; have b1 := (HB1.out.ext h2).cell 1; have b2 := (HB1.out.ext h2).cell 2; clear h2)
          | ((with_reducible refine (HST.out _ (HE.out.trans E1.out)).mono ?_); rintro e w2 ⟨rfl, h2⟩; have E2 := hide (E1.out.trans h2); have d1 := (HB1.out.ext E2.out).cell 1; have a1 := (HB0.out.ext E2.out).cell 1; clear h2))
        go_ret3
        exact ⟨none, 0, rfl, LAt.nil _, HE.out.trans E2.out⟩
    · have hr := hide (show findR f t = ([], false, shapeQ t) by
        have hsp : shapesP f t = shapeQ t := by
          unfold shapesP
          rw [if_neg (by simpa using h1), if_pos h2]
        rw [findR, hsp, if_pos h2])
      rw [hr.out]
      rw [h1] at HSF
      have hne : (shapeQ t != 0) = true := by simpa using h2
      generalize shapeQ t = st at *
      clear h1 h2 hnf hnt HLE hr
      go_enter Try.func14, Try.ntmps14
      go_wp2_with (first
        | (rw [HW2.out]; (with_reducible refine (HSF.out _ HE.out).mono ?_); rintro e w1 ⟨rfl, h2⟩; have E1 := hide h2; have b0 := (HB1.out.ext h2).cell 0; have b1 := (HB1.out.ext h2).cell 1; have b2 := (HB1.out.ext h2).cell 2; clear h2)
        | ((with_reducible refine (HST.out _ (HE.out.trans E1.out)).mono ?_); rintro e w2 ⟨rfl, h2⟩; have E2 := hide (E1.out.trans h2); clear h2))
      go_ret3
      exact ⟨none, 0, rfl, LAt.nil _, HE.out.trans E2.out⟩
  · have hr := hide (show findR f t = ([], false, shapeQ f) by
      have hsp : shapesP f t = shapeQ f := by
        unfold shapesP
        rw [if_pos h1]
      rw [findR, hsp, if_pos h1])
    rw [hr.out]
    have hne : (shapeQ f != 0) = true := by simpa using h1
    generalize shapeQ f = st at *
    clear h1 hnf hnt HLE hr
    go_enter Try.func14, Try.ntmps14
    go_wp2_with (rw [HW2.out]; (with_reducible refine (HSF.out _ HE.out).mono ?_); rintro e w1 ⟨rfl, h2⟩; have E1 := hide h2; clear h2)
    go_ret3
    exact ⟨none, 0, rfl, LAt.nil _, HE.out.trans E1.out⟩

set_option maxHeartbeats 8000000 in
set_option maxRecDepth 100000 in
theorem ref_equal (f t : Qy) (LF LT : QLoc) (w : World) (hf : QAt w LF f) (ht : QAt w LT t) (hMf : smallM 1048576 f) (hMt : smallM 1048576 t) :
    Calls Try.prog 20 #[qval f.name LF, qval t.name LT] w fun e w' => e = .returned (.tuple #[.bool (eqR f t).1, .int .i64 (eqR f t).2]) ∧ Ext w w' := by
  have HF := hide (fun w1 (h1 : Ext w w1) => ref_find f t LF LT w1 (hf.ext h1) (ht.ext h1) hMf hMt)
  have HT := hide (fun w1 (h1 : Ext w w1) => ref_find t f LT LF w1 (ht.ext h1) (hf.ext h1) hMt hMf)
  clear hf ht hMf hMt
  have hE := (Ext.alloc w (.cells #[.string f.name, .slice LF.A LF.n LF.c, .slice LF.B LF.m LF.d] 25)).alloc' (.cells #[.string t.name, .slice LT.A LT.n LT.c, .slice LT.B LT.m LT.d] 25)
  have HB0 := hide (((Blk.new w 25 #[.string f.name, .slice LF.A LF.n LF.c, .slice LF.B LF.m LF.d]).ext (Ext.alloc _ (.cells #[.string t.name, .slice LT.A LT.n LT.c, .slice LT.B LT.m LT.d] 25))))
  have HB1 := hide (Blk.new (w.alloc (.cells #[.string f.name, .slice LF.A LF.n LF.c, .slice LF.B LF.m LF.d] 25)) 25 #[.string t.name, .slice LT.A LT.n LT.c, .slice LT.B LT.m LT.d])
  rw [World.size_alloc] at HB1
  have HE := hide hE; clear hE
  unfold eqR
  have hrng := findR_rng f t
  have hno : (findR f t).2.2 ≠ 0 → (findR f t).2.1 = false := by
    intro h
    unfold findR at h ⊢
    split
    · rfl
    · rename_i h2
      rw [if_neg h2] at h
      split at h <;> exact absurd rfl h
  generalize findR f t = r at *
  generalize findR t f = r' at *
  obtain ⟨im, ok, er⟩ := r
  obtain ⟨im', ok', er'⟩ := r'
  obtain ⟨A, n, c, B, m, d⟩ := LF
  obtain ⟨A', n', c', B', m', d'⟩ := LT
  simp only [qval] at *
  by_cases h0 : er = 0
  · subst h0
    simp only [ne_eq, not_true_eq_false, if_false]
    clear hno hrng
    cases ok
    all_goals
      go_enter Try.func20, Try.ntmps20
      go_wp2_with (first | ((with_reducible refine (HF.out _ HE.out).mono ?_); rintro e w1 ⟨A1, c1, rfl, _, h2⟩; have E1 := hide h2; have a0 := (HB0.out.ext h2).cell 0; have a1 := (HB0.out.ext h2).cell 1; have a2 := (HB0.out.ext h2).cell 2; have b0 := (HB1.out.ext h2).cell 0; have b1 := (HB1.out.ext h2).cell 1; have b2 := (HB1.out.ext h2).cell 2; clear h2) | ((with_reducible refine (HT.out _ (HE.out.trans E1.out)).mono ?_); rintro e w2 ⟨A2, c2, rfl, _, h3⟩; have E2 := hide h3; clear h3))
      go_ret2
      exact ⟨by simp_all, (HE.out.trans E1.out).trans E2.out⟩
  · simp only [ne_eq, h0, not_false_eq_true, if_true]
    have hok : ok = false := hno h0
    subst hok
    have h1 : (er == 0) = false := by simpa using h0
    clear h0 hno
    go_enter Try.func20, Try.ntmps20
    go_wp2_with (first | ((with_reducible refine (HF.out _ HE.out).mono ?_); rintro e w1 ⟨A1, c1, rfl, _, h2⟩; have E1 := hide h2; have a0 := (HB0.out.ext h2).cell 0; have a1 := (HB0.out.ext h2).cell 1; have a2 := (HB0.out.ext h2).cell 2; have b0 := (HB1.out.ext h2).cell 0; have b1 := (HB1.out.ext h2).cell 1; have b2 := (HB1.out.ext h2).cell 2; clear h2) | ((with_reducible refine (HT.out _ (HE.out.trans E1.out)).mono ?_); rintro e w2 ⟨A2, c2, rfl, _, h3⟩; have E2 := hide h3; clear h3))
    go_ret2
    exact ⟨by simp_all, (HE.out.trans E1.out).trans E2.out⟩
end Go.Proofs.Ythjpcnceppmnmaa
