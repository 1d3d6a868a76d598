/-
  query.Match: the values of an atom's variables, if the row matches.
-/
import Derived.Test.YtpfjkjmimmklcaaNaiP
import Derived.Test.YtpfjkjmimmklcaaNames
import Derived.Test.YtpfjkjmimmklcaaShapeW
import Derived.Test.YtpfjkjmimmklcaaRefB
namespace Go.Proofs.Ytpfjkjmimmklcaa
open Go.RowKit

theorem addTs_pre (acc : List ByteArray) : ∀ ts : List Tm, ∃ rest, addTs acc ts = acc ++ rest
  | [] => ⟨[], by simp [addTs]⟩
  | t :: ts => by
    obtain ⟨r1, h1⟩ := addTs_pre (addT acc t) ts
    have e : addTs acc (t :: ts) = addTs (addT acc t) ts := rfl
    rw [e, h1]
    unfold addT
    split
    · exact ⟨r1, rfl⟩
    · split
      · exact ⟨r1, rfl⟩
      · exact ⟨t.v :: r1, by simp⟩
theorem firstI_app {x : ByteArray} : ∀ (l l' : List ByteArray) (i : Nat), (memB l x = true → firstI (eqB x) (l ++ l') i = firstI (eqB x) l i ∧ ∃ k : Nat, firstI (eqB x) l i = ((i + k : Nat) : Int) ∧ k < l.length) ∧
    (memB l x = false → firstI (eqB x) (l ++ x :: l') i = ((i + l.length : Nat) : Int))
  | [], l', i => by simp [memB, firstI, eqB]
  | y :: l, l', i => by
    obtain ⟨h1, h2⟩ := firstI_app (x := x) l l' (i + 1)
    by_cases hy : eqB x y = true
    · refine ⟨fun _ => ⟨by simp [firstI, hy], 0, by simp [firstI, hy], by simp⟩, fun h => ?_⟩
      simp [memB, hy] at h
    · have hy' : eqB x y = false := by simpa using hy
      refine ⟨fun h => ?_, fun h => ?_⟩
      · have hm : memB l x = true := by simpa [memB, hy'] using h
        obtain ⟨e, k, e2, hk⟩ := h1 hm
        simp only [List.cons_append, firstI, hy', Bool.false_eq_true, if_false]
        exact ⟨e, k + 1, by rw [e2]; congr 1; omega, by simp; omega⟩
      · have hm : memB l x = false := by simpa [memB, hy'] using h
        simp only [List.cons_append, firstI, hy', Bool.false_eq_true, if_false]
        rw [h2 hm]
        simp only [List.length_cons]
        congr 1; omega
/-- where a term's variable stands among the atom's -/
theorem at_var {ts : List Tm} {i : Nat} {t : Tm} (h : ts[i]? = some t) (hv : noVar t = false) :
    (memB (addTs [] (ts.take i)) t.v = true → ∃ k : Nat, firstI (eqB t.v) (addTs [] ts) 0 = (k : Int) ∧ k < (addTs [] (ts.take i)).length) ∧
    (memB (addTs [] (ts.take i)) t.v = false → firstI (eqB t.v) (addTs [] ts) 0 = ((addTs [] (ts.take i)).length : Int)) := by
  obtain ⟨hl, e⟩ := List.getElem?_eq_some_iff.1 h
  have e1 : addTs [] ts = addTs (addT (addTs [] (ts.take i)) t) (ts.drop (i + 1)) := by
    rw [← addTs_snoc h, ← addTs_append, List.take_append_drop]
  obtain ⟨rest, hr⟩ := addTs_pre (addT (addTs [] (ts.take i)) t) (ts.drop (i + 1))
  rw [e1, hr]
  refine ⟨fun hm => ?_, fun hm => ?_⟩
  · have e2 : addT (addTs [] (ts.take i)) t = addTs [] (ts.take i) := by simp [addT, hv, hm]
    rw [e2]
    obtain ⟨e3, k, e4, hk⟩ := (firstI_app (x := t.v) (addTs [] (ts.take i)) rest 0).1 hm
    exact ⟨k, by rw [e3, e4, Nat.zero_add], hk⟩
  · have e2 : addT (addTs [] (ts.take i)) t = addTs [] (ts.take i) ++ [t.v] := by simp [addT, hv, hm]
    rw [e2, List.append_assoc, List.singleton_append, (firstI_app (x := t.v) (addTs [] (ts.take i)) rest 0).2 hm, Nat.zero_add]

/-- so far the row matches, with these values -/
def MI (ts : List Tm) (r : List V) (i : Nat) (out : List V) : Prop :=
  matchGo (addTs [] ts) ts r [] = matchGo (addTs [] ts) (ts.drop i) (r.drop i) out ∧ out.length = (addTs [] (ts.take i)).length
section
variable {ts : List Tm} {r : List V} {i : Nat} {out : List V} {t : Tm} {x : V}
theorem MI.start : MI ts r 0 [] := ⟨by simp, by simp [addTs]⟩
theorem MI.go (h : MI ts r i out) (ht : ts[i]? = some t) (hx : r[i]? = some x) : matchGo (addTs [] ts) ts r [] =
    if noVar t then (if sameV x t.c then matchGo (addTs [] ts) (ts.drop (i + 1)) (r.drop (i + 1)) out else none)
    else if atN (addTs [] ts) t.v = out.length then matchGo (addTs [] ts) (ts.drop (i + 1)) (r.drop (i + 1)) (out ++ [x])
    else if getB out (atN (addTs [] ts) t.v) x then matchGo (addTs [] ts) (ts.drop (i + 1)) (r.drop (i + 1)) out else none := by
  obtain ⟨h1, e1⟩ := List.getElem?_eq_some_iff.1 ht
  obtain ⟨h2, e2⟩ := List.getElem?_eq_some_iff.1 hx
  rw [h.1, List.drop_eq_getElem_cons h1, List.drop_eq_getElem_cons h2, e1, e2]
  rfl
theorem MI.const (h : MI ts r i out) (ht : ts[i]? = some t) (hx : r[i]? = some x) (hv : noVar t = true) (hs : sameV x t.c = true) : MI ts r (i + 1) out := by
  refine ⟨by rw [h.go ht hx, if_pos hv, if_pos hs], ?_⟩
  rw [h.2, addTs_snoc ht, addT, if_pos hv]
theorem MI.constBad (h : MI ts r i out) (ht : ts[i]? = some t) (hx : r[i]? = some x) (hv : noVar t = true) (hs : sameV x t.c = false) : matchGo (addTs [] ts) ts r [] = none := by
  rw [h.go ht hx, if_pos hv, hs]; rfl
theorem MI.new (h : MI ts r i out) (ht : ts[i]? = some t) (hx : r[i]? = some x) (hv : noVar t = false) (hm : memB (addTs [] (ts.take i)) t.v = false) : MI ts r (i + 1) (out ++ [x]) := by
  have ha := (at_var ht hv).2 hm
  have hk : atN (addTs [] ts) t.v = out.length := by unfold atN; rw [ha, h.2]; rfl
  refine ⟨by rw [h.go ht hx, if_neg (by rw [hv]; simp), if_pos hk], ?_⟩
  rw [addTs_snoc ht, addT, hv, hm]
  simp [h.2]
theorem MI.old (h : MI ts r i out) (ht : ts[i]? = some t) (hx : r[i]? = some x) (hv : noVar t = false) (hm : memB (addTs [] (ts.take i)) t.v = true) : ∃ (k : Nat) (y : V), firstI (eqB t.v) (addTs [] ts) 0 = (k : Int) ∧ k < out.length ∧ out[k]? = some y ∧
    (sameV y x = true → MI ts r (i + 1) out) ∧ (sameV y x = false → matchGo (addTs [] ts) ts r [] = none) := by
  obtain ⟨k, ha, hk⟩ := (at_var ht hv).1 hm
  rw [← h.2] at hk
  have hn : atN (addTs [] ts) t.v = k := by unfold atN; rw [ha]; rfl
  have hy : out[k]? = some out[k] := List.getElem?_eq_getElem hk
  refine ⟨k, out[k], ha, hk, hy, fun hs => ⟨?_, ?_⟩, fun hs => ?_⟩
  · rw [h.go ht hx, if_neg (by rw [hv]; simp), hn, if_neg (by omega), getB_of hy, if_pos hs]
  · rw [h.2, addTs_snoc ht, addT, hv, hm]; rfl
  · rw [h.go ht hx, if_neg (by rw [hv]; simp), hn, if_neg (by omega), getB_of hy, hs]; rfl
theorem MI.end_ (h : MI ts r i out) (hi : ts.length ≤ i) : matchGo (addTs [] ts) ts r [] = some out := by
  rw [h.1, List.drop_of_length_le hi]; rfl
end

/-- a row of the call's own, if there is one -/
def RetM (w0 : World) (res : Option (List V)) (en : Ending) (w' : World) : Prop :=
  ∃ A c, en = .returned (.tuple #[.slice A (res.getD []).length c, .bool res.isSome]) ∧ w'.ownsRow w0.heap.size 58 3 (.slice A (res.getD []).length c) (res.getD []).length (cellsR (res.getD [])) ∧ Ext w0 w'
theorem RetM.no {w0 w' : World} {res : Option (List V)} (h : res = none) (hE : Ext w0 w') : RetM w0 res (.returned (.tuple #[.slice none 0 0, .bool false])) w' := by
  subst h
  exact ⟨none, 0, rfl, World.ownsRow_nil w' _ _ _, hE⟩

set_option maxRecDepth 100000 in
theorem match_any (a : Atm) (r : List V) (A B : Option Addr) (n m c d : Nat) (w : World) (hT : LAt RT 4 w A n a.terms) (hr : RowAt w B m r) (hn : n ≤ 1048576) (hm : m ≤ 1048576) :
    Calls Try.prog 111 #[.agg #[.string a.rel, .slice A n c], .slice B m d] w (RetM w (matchA a r)) := by
  have HT := hide hT; have HL := hide hT.len; have HR := hide hr; have HRL := hide hr.len
  have HE := hide (Ext.alloc w (.cells #[.string a.rel, .slice A n c] 40))
  have HC := hide (CellsAt.new w [.string a.rel, .slice A n c] 40 (0, 0))
  have hc0 := HC.out 0 _ rfl
  have hc1 := HC.out 1 _ rfl
  clear hT hr
  by_cases hl : m = n
  · subst hl
    have hne : ((m : Int) != (m : Int)) = false := by simp
    have HM0 := hide (show matchA a r = matchGo (addTs [] a.terms) a.terms r [] from by unfold matchA; rw [if_pos (by have := HL.out; have := HRL.out; omega)]; rfl)
    have HAV := hide (fun w1 (h1 : Ext w w1) => atom_vars a A m c w1 (HT.out.ext RT.stab h1) hn)
    have hml := hide (addTs_len [] a.terms)
    go_enter Try.func111, Try.ntmps111
    go_wp2_with fail
    refine (HAV.out _ HE.out).mono ?_
    rintro e w1 ⟨A1, c1, rfl, hO1, h1⟩
    have hvl : (varsA a).length ≤ m := by have := hml.out; have := HL.out; unfold varsA; simp at *; omega
    have HV := hide hO1.lat
    have E1 := hide (HE.out.trans h1)
    have k0 := h1.cell hc0
    have k1 := h1.cell hc1
    clear hO1 h1 hc0 hc1 HAV
    obtain ⟨i0, hi0, hz0, hz1, hz2⟩ := info_parts infoV
    generalize hvs : varsA a = vs at *
    have HVS := hide hvs; clear hvs
    have hmk := fun (w : World) => run_make (P := Try.prog) (w := w) 35 58 i0 _ Try.underlying35 hi0 hz0 .i64 .i64 0 (vs.length : Int) (by omega) (by omega) (by rw [hz2]; omega) (by omega)
    have hnn : (vs.length : Int).toNat = vs.length := by omega
    simp only [hz1, hnn, Int.toNat_zero] at hmk
    have EM := hide (Ext.alloc w1 (.cells (madeCells #[Value.int .i64 0, Value.int .i64 0, Value.string ByteArray.empty] (vs.length * 3)) 58))
    have HO0 := hide (show (w1.alloc (.cells (madeCells #[Value.int .i64 0, Value.int .i64 0, Value.string ByteArray.empty] (vs.length * 3)) 58)).ownsRow w1.heap.size 58 3 (.slice (some ⟨w1.heap.size, 0, none⟩) 0 vs.length) 0 [] from
      World.ownsRow_made w1 _ _ (Nat.le_refl _) (by unfold maxLen; omega) (by rw [size_madeCells]))
    have k1' := EM.out.cell k1
    clear hnn
    go_wp2_with fail
    clear hmk k0 k1 k1'
    generalize hW : w1.alloc (.cells (madeCells #[Value.int .i64 0, Value.int .i64 0, Value.string ByteArray.empty] (vs.length * 3)) 58) = W1 at *
    clear hW
    go_loopw [7, 8, 9, 10, 25] (fun s7 _ _ _ s25 w' => ∃ (i : Nat) (out : List V) (A' : Option Addr) (c' : Nat), i ≤ m ∧ out.length ≤ i ∧ s25 = .int .i64 i ∧ s7 = .slice A' out.length c' ∧ Hid (MI a.terms r i out) ∧ Hid (w'.ownsRow w1.heap.size 58 3 (.slice A' out.length c') out.length (cellsR out)) ∧ Hid (Ext w1 w')) (fun _ _ _ _ s25 _ => m - (intOf s25).toNat)
    case atStart => exact ⟨0, [], _, _, by omega, by simp, rfl, rfl, MI.start, HO0.out, EM.out⟩
    case round =>
      obtain ⟨i, out, A', c', him, hol, rfl, rfl, hI, ho, hw⟩ := hrel
      by_cases h : i < m
      · obtain ⟨b, off, t, rfl, hx, hb1, q0, q1, q2, q3⟩ := (HT.out.ext RT.stab (E1.out.trans hw.out)).tm h
        obtain ⟨b', off', x, rfl, hy, hb2, d0, d1, d2⟩ := (HR.out.ext (E1.out.trans hw.out)).get h
        have HX := hide hx; have HY := hide hy
        have HCt := hide (CellsAt.new wr [.string t.v, .int .i64 t.c.k, .int .i64 t.c.i, .string t.c.t] 60 (0, 0))
        have HEt := hide (Ext.alloc wr (.cells #[.string t.v, .int .i64 t.c.k, .int .i64 t.c.i, .string t.c.t] 60))
        clear hx hy hb1 hb2
        by_cases hv : 0 < t.v.size
        · have he := size_some hv
          have Hv := hide (noVar_false hv)
          have he3 : t.v.toList.isEmpty = false := Hv.out
          clear hv
          have HIX := hide (fun w1 (h1 : Ext wr w1) => index_str vs t.v A1 vs.length c1 w1 (HV.out.ext RS.stab (hw.out.trans h1)) (by omega))
          cases hmm : memB (addTs [] (a.terms.take i)) t.v with
          | false =>
            have Hfx := hide (show firstI (eqB t.v) vs 0 = (out.length : Int) from by rw [← HVS.out, hI.out.2]; exact (at_var HX.out Hv.out).2 hmm)
            have HN := hide (hI.out.new HX.out HY.out Hv.out hmm)
            clear hmm
            have hsrc := (sl_lit (wr.alloc (.cells #[.string t.v, .int .i64 t.c.k, .int .i64 t.c.i, .string t.c.t] 60)) x.cells 58 1 3 rfl)
            rw [World.size_alloc] at hsrc
            have Hsrc := hide hsrc; clear hsrc
            have HO := hide ho.out
            have d0 := HEt.out.cell d0
            have d1 := HEt.out.cell d1
            have d2 := HEt.out.cell d2
            go_wp2_with fail
            refine (HIX.out _ HEt.out).mono ?_
            rintro e w2 ⟨rfl, rfl⟩
            rw [Hfx.out]
            go_wp2_with (at_builtin; refine wpList_append_sl rfl (.tmp 49) (.tmp 54) _ rfl 58 i0 _ 3 32 Try.underlying35 hi0 hz0 hz1 hz2 rfl (by omega) w1 (hw.out.trans (HEt.out.trans (Ext.alloc _ _))) _ out.length (cellsR out) rfl (own_ext HO.out (HEt.out.trans (Ext.alloc _ _))) _ 1 1 x.cells rfl Hsrc.out (fun v h => by simp only [V.cells, List.mem_cons, List.not_mem_nil, or_false] at h; rcases h with rfl | rfl | rfl <;> rfl) (by unfold maxLen; omega) (by omega) ?_; intro A8 c8 w8 own8 E8 _ _)
            go_roundw
            case rel => exact ⟨i + 1, out ++ [x], A8, c8, by omega, by simp; omega, by go_num, by simp, HN.out, by rw [Hid, cellsR_append]; simpa [cellsR] using own8.out, E8.out⟩
            case measure => simp [intOf]; omega
          | true =>
            obtain ⟨k, y, hk1, hk2, hk3, hk4, hk5⟩ := hI.out.old HX.out HY.out Hv.out hmm
            have Hfx := hide (show firstI (eqB t.v) vs 0 = (k : Int) from by rw [← HVS.out]; exact hk1)
            have HK4 := hide hk4; have HK5 := hide hk5; have HK3 := hide hk3
            clear hmm hk1 hk3 hk4 hk5
            obtain ⟨b2, off2, y', hA', hy', _, g0, g1, g2⟩ := (RowAt.own ho.out).get hk2
            subst hA'
            obtain rfl : y' = y := Option.some.inj (hy'.symm.trans HK3.out)
            clear hy'
            have hne2 : ((k : Int) == (out.length : Int)) = false := by rw [beq_eq_false_iff_ne]; omega
            have d0 := HEt.out.cell d0
            have d1 := HEt.out.cell d1
            have d2 := HEt.out.cell d2
            have g0 := HEt.out.cell g0
            have g1 := HEt.out.cell g1
            have g2 := HEt.out.cell g2
            go_wp2_with fail
            refine (HIX.out _ HEt.out).mono ?_
            rintro e w2 ⟨rfl, rfl⟩
            rw [Hfx.out]
            go_wp2_with fail
            have d0 := cell_ext d0
            have d1 := cell_ext d1
            have d2 := cell_ext d2
            have g0 := cell_ext g0
            have g1 := cell_ext g1
            have g2 := cell_ext g2
            refine wp_region_ext 10 (by kernel_rfl) (by kernel_rfl) (by kernel_rfl) ?_
            iterate 8
              refine wpE_k (by kernel_rfl) (by kernel_rfl) ?_
              apply Exists.intro
              refine ⟨fun w1 hw1 => ?_, fun K hK => ?_⟩
              · go_simp; first | done | rfl
              go_simp; refine hK _ _ ?_; clear hK K
            refine wpE_k (by kernel_rfl) (by kernel_rfl) ?_
            refine ⟨.bool (!sameV y' x), fun w1 hw1 => ?_, fun K hK => ?_⟩
            · clear d0 d1 d2 g0 g1 g2
              go_simp
              unfold sameV
              have ht := toList_iff y'.t x.t
              by_cases h1 : y'.k = x.k <;> by_cases h2 : y'.i = x.i <;> by_cases h3 : y'.t = x.t <;> simp [h1, h2, h3, ht]
            clear d0 d1 d2 g0 g1 g2
            go_simp; refine hK _ _ ?_; clear hK K
            iterate 1
              refine wpE_k (by kernel_rfl) (by kernel_rfl) ?_
              apply Exists.intro
              refine ⟨fun w1 hw1 => ?_, fun K hK => ?_⟩
              · go_simp; first | done | rfl
              go_simp; refine hK _ _ ?_; clear hK K
            refine wpE_nil ⟨rfl, by kernel_rfl, fun wq hwq => ?_⟩
            simp only [EndQ]
            refine wpList_nil ?_
            have HF := hide (hw.out.trans (HEt.out.trans hwq)); have HO := hide (own_ext ho.out (HEt.out.trans hwq)); clear hwq
            by_cases hs : sameV y' x = true
            · have he1 : (!sameV y' x) = false := by rw [hs]; rfl
              simp only [he1]
              have He := hide hs; clear hs he1
              go_wp2_with fail
              go_roundw
              case rel => exact ⟨i + 1, out, _, c', by omega, by omega, by go_num, rfl, HK4.out He.out, HO.out, HF.out⟩
              case measure => simp [intOf]; omega
            · have hs2 : sameV y' x = false := by simpa using hs
              have he1 : (!sameV y' x) = true := by rw [hs2]; rfl
              simp only [he1]
              have He := hide hs2; clear hs hs2 he1
              go_wp2_with fail
              go_ret2
              exact RetM.no (HM0.out.trans (HK5.out He.out)) (E1.out.trans HF.out)
        · have he := size_empty (s := t.v) (by omega)
          have Hv := hide (noVar_true (t := t) (by omega))
          clear hv
          have d0 := HEt.out.cell d0
          have d1 := HEt.out.cell d1
          have d2 := HEt.out.cell d2
          have f1 := HCt.out 1 _ rfl
          have f2 := HCt.out 2 _ rfl
          have f3 := HCt.out 3 _ rfl
          go_wp2_with fail
          have d0 := cell_ext d0
          have d1 := cell_ext d1
          have d2 := cell_ext d2
          have f1 := cell_ext f1
          have f2 := cell_ext f2
          have f3 := cell_ext f3
          refine wp_region_ext 7 (by kernel_rfl) (by kernel_rfl) (by kernel_rfl) ?_
          iterate 6
            refine wpE_k (by kernel_rfl) (by kernel_rfl) ?_
            apply Exists.intro
            refine ⟨fun w1 hw1 => ?_, fun K hK => ?_⟩
            · go_simp; first | done | rfl
            go_simp; refine hK _ _ ?_; clear hK K
          refine wpE_k (by kernel_rfl) (by kernel_rfl) ?_
          refine ⟨.bool (!sameV x t.c), fun w1 hw1 => ?_, fun K hK => ?_⟩
          · clear d0 d1 d2 f1 f2 f3
            go_simp
            unfold sameV
            have ht := toList_iff x.t t.c.t
            by_cases h1 : x.k = t.c.k <;> by_cases h2 : x.i = t.c.i <;> by_cases h3 : x.t = t.c.t <;> simp [h1, h2, h3, ht]
          clear d0 d1 d2 f1 f2 f3
          go_simp; refine hK _ _ ?_; clear hK K
          refine wpE_nil ⟨rfl, by kernel_rfl, fun wq hwq => ?_⟩
          simp only [EndQ]
          refine wpList_nil ?_
          have HF := hide (hw.out.trans (HEt.out.trans hwq)); have HO := hide (own_ext ho.out (HEt.out.trans hwq)); clear hwq
          by_cases hs : sameV x t.c = true
          · have he1 : (!sameV x t.c) = false := by rw [hs]; rfl
            simp only [he1]
            have He := hide hs; clear hs he1
            go_wp2_with fail
            go_roundw
            case rel => exact ⟨i + 1, out, A', c', by omega, by omega, by go_num, rfl, hI.out.const HX.out HY.out Hv.out He.out, HO.out, HF.out⟩
            case measure => simp [intOf]; omega
          · have hs2 : sameV x t.c = false := by simpa using hs
            have he1 : (!sameV x t.c) = true := by rw [hs2]; rfl
            simp only [he1]
            have He := hide hs2; clear hs hs2 he1
            go_wp2_with fail
            go_ret2
            exact RetM.no (HM0.out.trans (hI.out.constBad HX.out HY.out Hv.out He.out)) (E1.out.trans HF.out)
      · go_wp2_with fail
        go_ret2
        have hi' := hI.out.end_ (by have := HL.out; omega)
        rw [HM0.out, hi']
        exact ⟨A', c', rfl, own_base ho.out E1.out.size, E1.out.trans hw.out⟩
  · have hne : ((m : Int) != (n : Int)) = true := by simp; omega
    have hno := hide (show matchA a r = none from by unfold matchA; rw [if_neg (by have := HL.out; have := HRL.out; omega)])
    go_enter Try.func111, Try.ntmps111
    go_wp2_with fail
    go_ret2
    exact RetM.no hno.out HE.out
end Go.Proofs.Ytpfjkjmimmklcaa
