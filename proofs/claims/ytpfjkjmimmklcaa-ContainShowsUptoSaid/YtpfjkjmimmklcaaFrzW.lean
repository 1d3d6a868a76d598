/-
  contain.Freeze: the walk.
-/
import Derived.Test.YtpfjkjmimmklcaaFrzS
namespace Go.Proofs.Ytpfjkjmimmklcaa
open Go.RowKit

def RetFrz (w0 : World) (res : List Tbl × List V × Int) (en : Ending) (w' : World) : Prop :=
  ∃ A n c B m d, en = .returned (.tuple #[.slice A n c, .slice B m d, .int .i64 res.2.2]) ∧ LAt RB 2 w' A n res.1 ∧ RowAt w' B m res.2.1 ∧ Ext w0 w'
theorem frz_bad {q : Qy} (h : shapeQ q ≠ 0) : frzR q = ([], [], shapeQ q) := if_neg h
theorem frz_good {q : Qy} (h : shapeQ q = 0) : frzR q = (frzT (varsQ q) q.atoms, q.head.map (iceV (varsQ q)), 0) := if_pos h
theorem vars_len {q : Qy} (h : Shaped q) : (varsQ q).length ≤ 30 := by
  have := flat_len h
  have h2 := addTs_len [] (q.atoms.flatMap (·.terms))
  rw [varsQ_flat]
  simp only [List.length_nil] at h2
  omega
theorem iceR_snoc {vs : List ByteArray} {ts : List Tm} {j : Nat} {t : Tm} (h : ts[j]? = some t) : cellsR ((ts.take (j + 1)).map (iceT vs)) = cellsR ((ts.take j).map (iceT vs)) ++ [.int .i64 (iceT vs t).k, .int .i64 (iceT vs t).i, .string (iceT vs t).t] := by
  rw [take_next ts j t h, List.map_append, cellsR_append]; rfl
theorem iceH_snoc {vs : List ByteArray} {ts : List ByteArray} {j : Nat} {t : ByteArray} (h : ts[j]? = some t) : cellsR ((ts.take (j + 1)).map (iceV vs)) = cellsR ((ts.take j).map (iceV vs)) ++ [.int .i64 3, .int .i64 (firstI (eqB t) vs 0), .string .empty] := by
  rw [take_next ts j t h, List.map_append, cellsR_append]; rfl
theorem v3_one (a b : Int) (s : ByteArray) : OneCells [.int .i64 a, .int .i64 b, .string s] := fun v h => by
  simp only [List.mem_cons, List.not_mem_nil, or_false] at h
  rcases h with rfl | rfl | rfl <;> rfl

theorem frz_rows {vs : List ByteArray} {l : List Atm} {x : ByteArray} : ∀ r ∈ rowsOf vs l x, ∃ a ∈ l, r = iceR vs a := by
  unfold rowsOf
  suffices h : ∀ (as_ : List Atm) (acc : List (List V)), (∀ r ∈ acc, ∃ a ∈ l, r = iceR vs a) → (∀ a ∈ as_, a ∈ l) → ∀ r ∈ as_.foldl (fun rs a => addR rs (iceR vs a)) acc, ∃ a ∈ l, r = iceR vs a from
    h _ [] (fun r h => by cases h) (fun a ha => (List.mem_filter.1 ha).1)
  intro as_
  induction as_ with
  | nil => intro acc h _; exact h
  | cons a rest ih =>
    intro acc h1 h2
    refine ih _ (fun r hr => ?_) (fun b hb => h2 b (List.mem_cons_of_mem _ hb))
    have hr : r ∈ addR acc (iceR vs a) := hr
    unfold addR at hr
    split at hr
    · exact h1 r hr
    · rcases List.mem_append.1 hr with hr | hr
      · exact h1 r hr
      · obtain rfl := List.mem_singleton.1 hr
        exact ⟨a, h2 a (List.mem_cons_self ..), rfl⟩
theorem pt_at {ps : List Pt} {ts : List Tbl} {k : Nat} {t : Tbl} (h : ps.map (·.t) = ts) (hk : ts[k]? = some t) : ∃ p, ps[k]? = some p ∧ p.t = t := by
  rw [← h, List.getElem?_map] at hk
  cases hp : ps[k]? with
  | none => rw [hp] at hk; cases hk
  | some p => rw [hp] at hk; exact ⟨p, rfl, by simpa using hk⟩
theorem set_same {α : Type} : ∀ {l : List α} {k : Nat} {x : α} (_ : l[k]? = some x), l.set k x = l
  | [], _, _, h => by simp at h
  | y :: l, 0, x, h => by
    obtain rfl : y = x := by simpa using h
    rfl
  | y :: l, k + 1, x, h => by
    rw [List.set_cons_succ, set_same (by simpa using h)]
theorem fin_old {vs : List ByteArray} {as_ : List Atm} {i k : Nat} {a : Atm} {ps : List Pt} {p : Pt} (hps : ps.map (·.t) = frzT vs (as_.take i)) (hx : as_[i]? = some a) (hp : p.t = ⟨a.rel, rowsOf vs (as_.take i) a.rel⟩)
    (h3 : frzT vs (as_.take i ++ [a]) = (frzT vs (as_.take i)).set k ⟨a.rel, addR (rowsOf vs (as_.take i) a.rel) (iceR vs a)⟩) (p' : Pt) (hp' : p'.t = ⟨a.rel, addR p.t.rows (iceR vs a)⟩) : (ps.set k p').map (·.t) = frzT vs (as_.take (i + 1)) := by
  rw [take_next as_ i a hx, h3, List.map_set, hps, hp', hp]
theorem fin_new {vs : List ByteArray} {as_ : List Atm} {i k : Nat} {a : Atm} {ps : List Pt} {q : Pt} (hps : ps.map (·.t) = frzT vs (as_.take i)) (hx : as_[i]? = some a) (hk : k = ps.length)
    (h3 : frzT vs (as_.take i ++ [a]) = frzT vs (as_.take i) ++ [⟨a.rel, [iceR vs a]⟩]) (p' : Pt) (hp' : p'.t = ⟨a.rel, addR [] (iceR vs a)⟩) : ((ps ++ [q]).set k p').map (·.t) = frzT vs (as_.take (i + 1)) := by
  subst hk
  rw [take_next as_ i a hx, h3, List.set_append_right _ _ (Nat.le_refl _), Nat.sub_self, List.map_append, hps]
  simp [hp', addR, hasR]

set_option maxHeartbeats 4000000 in
set_option maxRecDepth 100000 in
theorem freeze_bad (q : Qy) (L : QLoc) (w : World) (hq : QAt w L q) (hM : smallM 1048576 q) (hs : shapeQ q ≠ 0) :
    Calls Try.prog 38 #[qval q.name L] w (RetFrz w (frzR q)) := by
  rw [frz_bad hs]
  have HSH := hide (fun w1 (h1 : Ext w w1) => query_shape q L w1 (hq.ext h1) hM)
  have hb : (shapeQ q != 0) = true := by simpa using hs
  generalize shapeQ q = sq at *
  clear hs
  obtain ⟨nm, hd, as_⟩ := q
  obtain ⟨A, n, c, B, m, d⟩ := L
  simp only [qval] at *
  have HE := hide (Ext.alloc w (.cells #[.string nm, .slice A n c, .slice B m d] 25))
  clear hq hM
  go_enter Try.func38, Try.ntmps38
  go_wp2_with ((with_reducible refine (HSH.out _ HE.out).mono ?_); rintro e w1 ⟨rfl, x1⟩; have X1 := hide (HE.out.trans x1); clear x1)
  go_ret3
  exact ⟨none, 0, 0, none, 0, 0, rfl, LAt.nil _, RowAt.nil _ _, X1.out⟩

set_option maxHeartbeats 16000000 in
set_option maxRecDepth 100000 in
theorem freeze_ok (q : Qy) (L : QLoc) (w : World) (hq : QAt w L q) (hM : smallM 1048576 q) (hs : shapeQ q = 0) :
    Calls Try.prog 38 #[qval q.name L] w (RetFrz w (frzR q)) := by
  rw [frz_good hs]
  obtain ⟨i0, hi0, hz0, hz1, hz2⟩ := info_parts infoV
  obtain ⟨j0, hj0, hy0, hy1, hy2⟩ := info_parts infoB
  obtain ⟨kr0, hkr0, hx0, hx1, hx2⟩ := info_parts infoR
  have hS := shapeQ_iff.1 hs
  have HSH := hide (fun w1 (h1 : Ext w w1) => query_shape q L w1 (hq.ext h1) hM)
  rw [hs] at HSH
  have HVR := hide (fun w1 (h1 : Ext w w1) => query_vars q L w1 (hq.ext h1) hM)
  have hvl := vars_len hS
  have Hvl := hide hvl
  have HA5 := hide (fun a (ha : a ∈ q.atoms) => (hS.atoms a ha).2.1)
  have h6 := hS.six
  have hmlen : L.m = q.atoms.length := hq.atoms.len
  have hm6 : L.m ≤ 6 := by omega
  have hhd : L.n ≤ 1048576 := by have := hM.headL; have := hq.head.len; omega
  clear hS hs h6
  generalize varsQ q = vs at *
  obtain ⟨nm, hd, as_⟩ := q
  obtain ⟨A, n, c, B, m, d⟩ := L
  simp only [qval] at *
  have hml := hide hmlen
  have hnl := hide (show n = hd.length from hq.head.len)
  have HQ := hide hq
  clear hq hM hmlen
  have HE := hide (Ext.alloc w (.cells #[.string nm, .slice A n c, .slice B m d] 25))
  have HB0 := hide (Blk.new w 25 #[.string nm, .slice A n c, .slice B m d])
  generalize hW2 : w.alloc (.cells #[.string nm, .slice A n c, .slice B m d] 25) = W2 at *
  have HW2 := hide hW2; clear hW2
  have a0 : W2.cell? ⟨w.heap.size, 0, none⟩ = some (.string nm) := HB0.out.cell 0
  have a1 : W2.cell? ⟨w.heap.size, 1, none⟩ = some (.slice A n c) := HB0.out.cell 1
  have a2 : W2.cell? ⟨w.heap.size, 2, none⟩ = some (.slice B m d) := HB0.out.cell 2
  go_enter Try.func38, Try.ntmps38
  go_upto_region 6 with (first
    | (rw [HW2.out]; (with_reducible refine (HSH.out _ HE.out).mono ?_); rintro e w1 ⟨rfl, x1⟩; have X1 := hide x1; clear x1 a0 a1 a2
       have a0 : w1.cell? ⟨w.heap.size, 0, none⟩ = some (.string nm) := (HB0.out.ext X1.out).cell 0
       have a1 : w1.cell? ⟨w.heap.size, 1, none⟩ = some (.slice A n c) := (HB0.out.ext X1.out).cell 1
       have a2 : w1.cell? ⟨w.heap.size, 2, none⟩ = some (.slice B m d) := (HB0.out.ext X1.out).cell 2)
    | ((with_reducible refine (HVR.out _ (HE.out.trans X1.out)).mono ?_); rintro e w3 ⟨Av, cv, rfl, hv, x3⟩; have X3 := hide (X1.out.trans x3); have HV := hide hv.lat; clear hv x3 a0 a1 a2))
  have hsz3 := hide (show w.heap.size < w3.heap.size from (HB0.out.ext X3.out).lt)
  have X4 := hide (X3.out.trans (Ext.alloc w3 (.cells #[.slice Av vs.length cv] 22)))
  have HB6 := hide (Blk.new w3 22 #[.slice Av vs.length cv])
  have HV4 := hide (HV.out.ext RS.stab (Ext.alloc w3 (.cells #[.slice Av vs.length cv] 22)))
  generalize hW4 : w3.alloc (.cells #[.slice Av vs.length cv] 22) = W4 at *
  clear hW4
  generalize hg6 : w3.heap.size = g6 at *
  clear hg6
  have HEW := hide (HE.out.trans X4.out)
  have a2 : W4.cell? ⟨w.heap.size, 2, none⟩ = some (.slice B m d) := (HB0.out.ext X4.out).cell 2
  go_wp2_with fail
  clear a2
  go_loopw [2, 27] (fun s2 s27 w' => ∃ (i : Nat) (D : Option Addr) (nD cD : Nat) (ps : List Pt), i ≤ m ∧ s27 = .int .i64 i ∧ s2 = .slice D nD cD ∧ Hid (ps.map (·.t) = frzT vs (as_.take i)) ∧ Hid (FInv W4 w' D nD cD ps)) (fun _ s27 _ => m - (intOf s27).toNat)
  case atStart => exact ⟨0, none, 0, 0, [], by omega, rfl, rfl, rfl, FInv.nil _⟩
  case round =>
    obtain ⟨i, D, nD, cD, ps, him, rfl, rfl, hps, hI⟩ := hrel
    by_cases h : i < m
    · obtain ⟨b, off, a, B1, m1, d1, rfl, hx, hb1, c0, c1, hT⟩ := HQ.out.atoms.at_ h
      have HEr := hide (HEW.out.trans hI.out.ext)
      have c0 := HEr.out.cell c0
      have c1 := HEr.out.cell c1
      have HT := hide (hT.ext RT.stab HEr.out)
      have Hx := hide hx
      have hm5 : m1 ≤ 5 := by have := HA5.out a (List.mem_of_getElem? hx); have := hT.len; omega
      have hm1 := hide hT.len
      have hnD := hide (show nD ≤ 6 by have h1 := hI.out.len; have h2 := congrArg List.length hps.out; rw [List.length_map] at h2; have h3 := frz_len vs (as_.take i); have h4 := List.length_take_le i as_; omega)
      clear hx hb1 hT
      go_upto_region 10 with fail
      have HE5 := hide ((Ext.alloc wr (.cells #[.string a.rel, .slice B1 m1 d1] 40)).alloc' (.cells #[.slice none 0 0] 35))
      have HBa := hide ((Blk.new wr 40 #[.string a.rel, .slice B1 m1 d1]).ext (Ext.alloc _ (.cells #[.slice none 0 0] 35)))
      have HBr := hide (Blk.newAt (t := 35) (cs := #[.slice none 0 0]) (World.size_alloc wr (.cells #[.string a.rel, .slice B1 m1 d1] 40)))
      generalize hW5 : (wr.alloc (.cells #[.string a.rel, .slice B1 m1 d1] 40)).alloc (.cells #[.slice none 0 0] 35) = W5 at *
      clear hW5 c0 c1
      have c1 : W5.cell? ⟨wr.heap.size, 1, none⟩ = some (.slice B1 m1 d1) := HBa.out.cell 1
      go_wp2_with fail
      clear c1
      go_loopw [34] (fun s34 w' => ∃ (j : Nat) (R : Option Addr) (cR : Nat), j ≤ m1 ∧ s34 = .int .i64 j ∧ Hid (Blk w' wr.heap.size 40 #[.string a.rel, .slice B1 m1 d1]) ∧ Hid (Blk w' (wr.heap.size + 1) 35 #[.slice R j cR]) ∧ Hid (w'.ownsRow wr.heap.size 58 3 (.slice R j cR) j (cellsR ((a.terms.take j).map (iceT vs)))) ∧ Hid (Ext wr w')) (fun s34 _ => m1 - (intOf s34).toNat)
      case atStart => exact ⟨0, none, 0, by omega, rfl, HBa.out, HBr.out, World.ownsRow_nil _ _ _ _, HE5.out⟩
      case round =>
        obtain ⟨j, R, cR, hjm, rfl, hBA, hBR, hOR, hXR⟩ := hrel
        rename World => wk
        by_cases hj : j < m1
        · obtain ⟨b', off', t, rfl, ht, hb2, d0, d1_, d2, d3⟩ := HT.out.tm hj
          have d0 := hXR.out.cell d0
          have d1_ := hXR.out.cell d1_
          have d2 := hXR.out.cell d2
          have d3 := hXR.out.cell d3
          have hst := hide (iceR_snoc (vs := vs) ht)
          clear ht hb2
          have HBt := hide (Blk.new wk 60 #[.string t.v, .int .i64 t.c.k, .int .i64 t.c.i, .string t.c.t])
          have HEt := hide (Ext.alloc wk (.cells #[.string t.v, .int .i64 t.c.k, .int .i64 t.c.i, .string t.c.t] 60))
          by_cases hv : 0 < t.v.size
          · have he := size_some hv
            have hci := hide (show iceT vs t = iceV vs t.v by unfold iceT; rw [noVar_false hv]; rfl)
            rw [hci.out] at hst
            clear hv
            have hx6 := hI.out.ext.trans (hXR.out.trans HEt.out)
            have HIC := hide (ice_any vs t.v g6 Av vs.length cv (wk.alloc (.cells #[.string t.v, .int .i64 t.c.k, .int .i64 t.c.i, .string t.c.t] 60)) ((HB6.out.ext hx6).cell 0) (HV4.out.ext RS.stab hx6) (by omega))
            clear hx6
            go_upto_region 15 with ((with_reducible refine HIC.out.mono ?_); rintro e w6 ⟨rfl, x6⟩; have HBt6 := hide (HBt.out.ext x6); have X6 := hide (HEt.out.trans x6); clear x6; have f1 := HBt6.out.frozen 1; have f2 := HBt6.out.frozen 2; have f3 := HBt6.out.frozen 3; have y1 := HBt6.out.cell 1; have y2 := HBt6.out.cell 2; have y3 := HBt6.out.cell 3)
            clear f1 f2 f3 y1 y2 y3
            have HB7 := hide (show Blk (((w6.setCell ⟨wk.heap.size, 1, none⟩ (.int .i64 3)).setCell ⟨wk.heap.size, 1 + 1, none⟩ (.int .i64 (firstI (eqB t.v) vs 0))).setCell ⟨wk.heap.size, 1 + 2, none⟩ (.string ⟨#[]⟩)) wk.heap.size 60 #[.string t.v, .int .i64 3, .int .i64 (firstI (eqB t.v) vs 0), .string ⟨#[]⟩] by
              simpa using ((HBt6.out.set_ 1 (.int .i64 3)).set_ 2 (.int .i64 (firstI (eqB t.v) vs 0))).set_ 3 (.string ⟨#[]⟩))
            have X7 := hide (show Ext wk (((w6.setCell ⟨wk.heap.size, 1, none⟩ (.int .i64 3)).setCell ⟨wk.heap.size, 1 + 1, none⟩ (.int .i64 (firstI (eqB t.v) vs 0))).setCell ⟨wk.heap.size, 1 + 2, none⟩ (.string ⟨#[]⟩)) from
              ((X6.out.setCell (p := ⟨wk.heap.size, 1, none⟩) (Nat.le_refl _) _).setCell (p := ⟨wk.heap.size, 1 + 1, none⟩) (Nat.le_refl _) _).setCell (p := ⟨wk.heap.size, 1 + 2, none⟩) (Nat.le_refl _) _)
            have HA7 := hide (hBA.out.ext X7.out)
            have HR7 := hide (hBR.out.ext X7.out)
            have HO7 := hide (own_ext hOR.out X7.out)
            have XR7 := hide (hXR.out.trans X7.out)
            generalize hW7 : ((w6.setCell ⟨wk.heap.size, 1, none⟩ (.int .i64 3)).setCell ⟨wk.heap.size, 1 + 1, none⟩ (.int .i64 (firstI (eqB t.v) vs 0))).setCell ⟨wk.heap.size, 1 + 2, none⟩ (.string ⟨#[]⟩) = W7 at *
            clear hW7 d0 d1_ d2 d3
            have HS7 := hide (sl_lit W7 [.int .i64 3, .int .i64 (firstI (eqB t.v) vs 0), .string ⟨#[]⟩] 58 1 3 rfl)
            have r0 : W7.cell? ⟨wr.heap.size + 1, 0, none⟩ = some (.slice R j cR) := HR7.out.cell 0
            have t1 : W7.cell? ⟨wk.heap.size, 1, none⟩ = some (.int .i64 3) := HB7.out.cell 1
            have t2 : W7.cell? ⟨wk.heap.size, 1 + 1, none⟩ = some (.int .i64 (firstI (eqB t.v) vs 0)) := HB7.out.cell 2
            have t3 : W7.cell? ⟨wk.heap.size, 1 + 2, none⟩ = some (.string ⟨#[]⟩) := HB7.out.cell 3
            have XA7 := hide (Ext.alloc W7 (.cells #[.int .i64 3, .int .i64 (firstI (eqB t.v) vs 0), .string ⟨#[]⟩] 58))
            have HOa := hide (own_ext HO7.out XA7.out)
            have HRa := hide (HR7.out.ext XA7.out)
            have HAa := hide (HA7.out.ext XA7.out)
            go_wp2_with (at_builtin; refine wpList_append_sl rfl (.tmp 46) (.tmp 49) _ rfl 58 i0 _ 3 32 Try.underlying35 hi0 hz0 hz1 hz2 rfl (by omega) wr (XR7.out.trans XA7.out) (.slice R j cR) j _ rfl HOa.out _ 1 1 [.int .i64 3, .int .i64 (firstI (eqB t.v) vs 0), .string ⟨#[]⟩] rfl HS7.out (v3_one _ _ _) (by unfold maxLen; omega) (by omega) ?_; intro R8 c8 w8 own8 E8 G8 _; have HR8 := hide (HRa.out.grown G8.out (own_ne_blk HOa.out HRa.out (by decide))); have HA8 := hide (HAa.out.grown G8.out (own_ne_blk HOa.out HAa.out (by decide))); clear r0 t1 t2 t3; have r0 := HR8.out.cell 0; have rf := HR8.out.frozen 0)
            go_roundw
            case rel =>
              refine ⟨j + 1, R8, c8, by omega, by go_num, HA8.out.far (p := ⟨wr.heap.size + 1, 0, none⟩) (by simp) _, (show Blk _ _ _ _ by simpa using HR8.out.set_ 0 (.slice R8 (j + 1) c8)), ?_, E8.out.setCell (p := ⟨wr.heap.size + 1, 0, none⟩) (Nat.le_succ _) _⟩
              rw [hst.out]
              exact own_set own8.out HR8.out (by decide) 0 _
            case measure => simp [intOf]; omega
          · have he := size_empty (s := t.v) (by omega)
            have hci := hide (show iceT vs t = t.c by unfold iceT; rw [noVar_true (t := t) (by omega)]; rfl)
            rw [hci.out] at hst
            clear hv
            go_upto_region 15 with fail
            have HB7 := HBt
            have HA7 := hide (hBA.out.ext HEt.out)
            have HR7 := hide (hBR.out.ext HEt.out)
            have HO7 := hide (own_ext hOR.out HEt.out)
            have XR7 := hide (hXR.out.trans HEt.out)
            generalize hW7 : wk.alloc (.cells #[.string t.v, .int .i64 t.c.k, .int .i64 t.c.i, .string t.c.t] 60) = W7 at *
            clear hW7 d0 d1_ d2 d3
            have HS7 := hide (sl_lit W7 [.int .i64 t.c.k, .int .i64 t.c.i, .string t.c.t] 58 1 3 rfl)
            have r0 : W7.cell? ⟨wr.heap.size + 1, 0, none⟩ = some (.slice R j cR) := HR7.out.cell 0
            have t1 : W7.cell? ⟨wk.heap.size, 1, none⟩ = some (.int .i64 t.c.k) := HB7.out.cell 1
            have t2 : W7.cell? ⟨wk.heap.size, 1 + 1, none⟩ = some (.int .i64 t.c.i) := HB7.out.cell 2
            have t3 : W7.cell? ⟨wk.heap.size, 1 + 2, none⟩ = some (.string t.c.t) := HB7.out.cell 3
            have XA7 := hide (Ext.alloc W7 (.cells #[.int .i64 t.c.k, .int .i64 t.c.i, .string t.c.t] 58))
            have HOa := hide (own_ext HO7.out XA7.out)
            have HRa := hide (HR7.out.ext XA7.out)
            have HAa := hide (HA7.out.ext XA7.out)
            go_wp2_with (at_builtin; refine wpList_append_sl rfl (.tmp 46) (.tmp 49) _ rfl 58 i0 _ 3 32 Try.underlying35 hi0 hz0 hz1 hz2 rfl (by omega) wr (XR7.out.trans XA7.out) (.slice R j cR) j _ rfl HOa.out _ 1 1 [.int .i64 t.c.k, .int .i64 t.c.i, .string t.c.t] rfl HS7.out (v3_one _ _ _) (by unfold maxLen; omega) (by omega) ?_; intro R8 c8 w8 own8 E8 G8 _; have HR8 := hide (HRa.out.grown G8.out (own_ne_blk HOa.out HRa.out (by decide))); have HA8 := hide (HAa.out.grown G8.out (own_ne_blk HOa.out HAa.out (by decide))); clear r0 t1 t2 t3; have r0 := HR8.out.cell 0; have rf := HR8.out.frozen 0)
            go_roundw
            case rel =>
              refine ⟨j + 1, R8, c8, by omega, by go_num, HA8.out.far (p := ⟨wr.heap.size + 1, 0, none⟩) (by simp) _, (show Blk _ _ _ _ by simpa using HR8.out.set_ 0 (.slice R8 (j + 1) c8)), ?_, E8.out.setCell (p := ⟨wr.heap.size + 1, 0, none⟩) (Nat.le_succ _) _⟩
              rw [hst.out]
              exact own_set own8.out HR8.out (by decide) 0 _
            case measure => simp [intOf]; omega
        · have HRow := hide (show wk.ownsRow wr.heap.size 58 3 (.slice R m1 cR) m1 (cellsR (iceR vs a)) by
            have h1 := hOR.out
            rw [show j = m1 by omega, List.take_of_length_le (by have := hm1.out; omega)] at h1
            exact h1)
          have HBR := hide (show Blk wk (wr.heap.size + 1) 35 #[.slice R m1 cR] by have h1 := hBR.out; rw [show j = m1 by omega] at h1; exact h1)
          clear hOR hBR
          have HIk := hide (hI.out.go hXR.out)
          have HIX := hide (index_funcB (ps.map (·.t)) (relB a.rel) 65 #[.pointer (some ⟨wr.heap.size, 0, none⟩)] D nD cD wk HIk.out.lat (by have := hnD.out; omega) (enters_at Try.func65 (by kernel_rfl) rfl)
            (fun x v w1 _ h1 hv => freeze2 x a.rel v wr.heap.size w1 ((hBA.out.ext h1).cell 0) hv))
          rw [hps.out] at HIX
          have hkn6 := hnD.out
          cases hmem : memB (relsOf (as_.take i)) a.rel with
          | true =>
            obtain ⟨k, hk1, hk2, hk3⟩ := frz_old (vs := vs) hmem
            rw [hk1] at HIX
            obtain ⟨p, hp1, hp2⟩ := pt_at hps.out hk2
            have HFIN := hide (fin_old hps.out Hx.out hp2 hk3)
            have HPK := hide hp1
            have hpe := hide (show p.t.rel = a.rel by rw [hp2])
            have HPR := hide (show p.t.rows.length ≤ 6 ∧ ∀ x ∈ p.t.rows, x.length ≤ 5 by
              rw [hp2]
              dsimp only
              refine ⟨by have h1 := rowsOf_len vs (as_.take i) a.rel; have h2 := List.length_take_le i as_; omega, fun x hx => ?_⟩
              obtain ⟨a', ha', rfl⟩ := frz_rows x hx
              rw [show (iceR vs a').length = a'.terms.length by simp [iceR]]
              exact HA5.out a' (List.mem_of_mem_take ha'))
            have hk0 : ¬ ((k : Int) < 0) := by omega
            have hkn : k < nD := by have h1 := hI.out.len; have := (List.getElem?_eq_some_iff.1 hp1).1; omega
            clear hk1 hk2 hk3 hp1 hp2 hmem
            go_upto_region 21 with ((with_reducible refine HIX.out.mono ?_); rintro e w9 ⟨rfl, x9⟩; have X9 := hide x9; clear x9)
            have HI9 := hide (HIk.out.go X9.out)
            have HRow9 := hide (own_ext HRow.out X9.out)
            have HBR9 := hide (HBR.out.ext X9.out)
            have HNE := hide (show ∀ b, p.A = some b → b.block ≠ wr.heap.size + 1 from fun b hb => by
              have h1 := (hI.out.rows p (List.mem_of_getElem? HPK.out)).own
              rw [hb] at h1
              have := (h1.lt b.block rfl).2
              omega)
            obtain ⟨gD, hD9, hgW, hgl, e0, e1, fz⟩ := HI9.out.at_ HPK.out
            subst hD9
            have hLk := hide (HI9.out.rows p (List.mem_of_getElem? HPK.out))
            have hkn : k < nD := by have h1 := HI9.out.len; have := (List.getElem?_eq_some_iff.1 HPK.out).1; omega
            have HCF := hide (contains_funcR p.t.rows (fun s => sameR s (iceR vs a)) 67 #[.pointer (some ⟨wr.heap.size + 1, 0, none⟩)] p.A p.t.rows.length p.c w9 hLk.out.lat (by have := HPR.out.1; omega) (enters_at Try.func67 (by kernel_rfl) rfl)
              (fun x v w1 hx h1 hv => freeze3 (iceR vs a) x v (wr.heap.size + 1) R m1 cR w1 ((HBR9.out.ext h1).cell 0) (RowAt.own (own_ext HRow9.out h1)) hv (by omega) (by have := HPR.out.2 x hx; omega)))
            clear e0
            cases hh : hasR p.t.rows (iceR vs a) with
            | true =>
              have hh' : (p.t.rows.any fun s => sameR s (iceR vs a)) = true := hh
              rw [hh'] at HCF
              have hadd : addR p.t.rows (iceR vs a) = p.t.rows := if_pos hh
              have hres := hide (show ps.map (·.t) = frzT vs (as_.take (i + 1)) by
                have h1 := HFIN.out p (by rw [hadd, ← hpe.out])
                rwa [set_same HPK.out] at h1)
              clear hh hh' hadd
              go_wp2_with ((with_reducible refine HCF.out.mono ?_); rintro e w11 ⟨rfl, x11⟩; have X11 := hide x11; clear x11)
              go_roundw
              case rel => exact ⟨i + 1, some ⟨gD, 0, none⟩, nD, cD, ps, by omega, by go_num, rfl, hres.out, HI9.out.go X11.out⟩
              case measure => simp [intOf]; omega
            | false =>
              have hh' : (p.t.rows.any fun s => sameR s (iceR vs a)) = false := hh
              rw [hh'] at HCF
              have hadd : addR p.t.rows (iceR vs a) = p.t.rows ++ [iceR vs a] := if_neg (by rw [hh]; decide)
              have hres := hide (fun A' c' cells => HFIN.out ⟨⟨p.t.rel, p.t.rows ++ [iceR vs a]⟩, A', c', cells⟩ (by rw [hadd, ← hpe.out]))
              clear hh hh' hadd
              go_upto_region 22 with ((with_reducible refine HCF.out.mono ?_); rintro e w11 ⟨rfl, x11⟩; have X11 := hide x11; clear x11)
              have HI11 := hide (HI9.out.go X11.out)
              have HR11 := hide (own_base (own_ext HRow9.out X11.out) (show W4.heap.size ≤ wr.heap.size from hI.out.ext.size))
              have HB11 := hide (HBR9.out.ext X11.out)
              have hne : ∀ b, p.A = some b → b.block ≠ wr.heap.size + 1 := fun b hb => HNE.out b hb
              have Hne := hide hne; clear hne
              have hl6 := HPR.out.1
              clear e1 fz
              have e1 : w11.cell? ⟨gD, k * 2 + 1, none⟩ = some (.slice p.A p.t.rows.length p.c) := by
                obtain ⟨g', hg', _, _, _, e1, _⟩ := HI11.out.at_ HPK.out
                injection hg' with hg'
                injection hg' with hg'
                rw [hg']; exact e1
              have r0 : w11.cell? ⟨wr.heap.size + 1, 0, none⟩ = some (.slice R m1 cR) := HB11.out.cell 0
              have e1a : (w11.alloc (.cells #[.slice R m1 cR] 35)).cell? ⟨gD, k * 2 + 1, none⟩ = some (.slice p.A p.t.rows.length p.c) := (Ext.alloc w11 _).cell e1
              have r0a : (w11.alloc (.cells #[.slice R m1 cR] 35)).cell? ⟨wr.heap.size + 1, 0, none⟩ = some (.slice R m1 cR) := (Ext.alloc w11 _).cell r0
              go_region_law
                (first
                  | ((refine step_frz hkr0 hx0 hx1 hx2 HI11.out HPK.out HR11.out HB11.out Hne.out hl6 (by rfl) _ _ (by rfl) (by rfl) (Ext.drew' (Ext.alloc w11 _)) w11.heap.size (by rfl) ((Blk.new w11 _ _).ext (Ext.drew _)) ?_); intro A8 c8 w12 hP1; have hq1 := hP1.cellD; have hq2 := hP1.frD))
              all_goals
                have HP1 := hide hP1
                clear hP1 hq1 hq2
                go_wp2_with fail
                go_roundw
                case rel => exact ⟨i + 1, some ⟨gD, 0, none⟩, nD, cD, _, by omega, by go_num, rfl, hres.out _ _ _, HP1.out.fin⟩
                case measure => simp [intOf]; omega
          | false =>
            obtain ⟨hk1, hk2⟩ := frz_new (vs := vs) hmem
            rw [hk1] at HIX
            have HFIN := hide (fin_new (q := ⟨⟨a.rel, []⟩, none, 0, []⟩) hps.out Hx.out HIk.out.len hk2)
            clear hk1 hk2 hmem
            go_upto_region 20 with ((with_reducible refine HIX.out.mono ?_); rintro e w8 ⟨rfl, x8⟩; have X8 := hide x8; clear x8)
            have HI8 := hide (HIk.out.go X8.out)
            have a0 : w8.cell? ⟨wr.heap.size, 0, none⟩ = some (.string a.rel) := (hBA.out.ext X8.out).cell 0
            have Hsrc := hide (sl_lit w8 [.string a.rel, .slice none 0 0] 43 1 2 rfl)
            go_upto_region 21 with (at_builtin; refine wpList_append_sl rfl (.tmp 59) (.tmp 63) _ rfl 43 j0 _ 2 40 Try.underlying26 hj0 hy0 hy1 hy2 rfl (by omega) W4 (HI8.out.ext.trans (Ext.alloc _ _)) (.slice D nD cD) nD (ps.flatMap Pt.cs) rfl (HI8.out.own.alloc _) _ 1 1 _ rfl Hsrc.out (pt_one ⟨⟨a.rel, []⟩, none, 0, []⟩) (by unfold maxLen; omega) (by omega) ?_; intro D9 c9 w9 own9 E9 G9 L9)
            clear a0
            have hX89 := (Ext.alloc w8 (.cells #[.string a.rel, .slice none 0 0] 43))
            have HI9 := hide ((HI8.out.go hX89).push G9.out E9.out own9.out)
            have HRow9 := hide (own_other (own_ext HRow.out (X8.out.trans hX89)) (HI8.out.go hX89).own (by decide) G9.out)
            have HBR9 := hide (((HBR.out.ext X8.out).ext hX89).grown G9.out (own_ne_blk (HI8.out.go hX89).own ((HBR.out.ext X8.out).ext hX89) (by decide)))
            have HPK := hide (show (ps ++ [⟨⟨a.rel, []⟩, none, 0, []⟩])[nD]? = some (⟨⟨a.rel, []⟩, none, 0, []⟩ : Pt) by rw [HIk.out.len]; simp)
            have HPR := hide (show (⟨⟨a.rel, []⟩, none, 0, []⟩ : Pt).t.rows.length ≤ 6 ∧ ∀ x ∈ (⟨⟨a.rel, []⟩, none, 0, []⟩ : Pt).t.rows, x.length ≤ 5 from ⟨Nat.zero_le _, fun x hx => by cases hx⟩)
            have hpe := hide (show (⟨⟨a.rel, []⟩, none, 0, []⟩ : Pt).t.rel = a.rel from rfl)
            clear own9 E9 G9 L9 hX89
            have HFIN2 := hide (show ∀ p' : Pt, p'.t = ⟨a.rel, addR (⟨⟨a.rel, []⟩, none, 0, []⟩ : Pt).t.rows (iceR vs a)⟩ → ((ps ++ [(⟨⟨a.rel, []⟩, none, 0, []⟩ : Pt)]).set nD p').map (·.t) = frzT vs (as_.take (i + 1)) from HFIN.out)
            have HNE := hide (show ∀ b, (⟨⟨a.rel, []⟩, none, 0, []⟩ : Pt).A = some b → b.block ≠ wr.heap.size + 1 from fun b hb => by cases hb)
            clear HFIN
            have HFIN := HFIN2; clear HFIN2
            obtain ⟨p, hp9⟩ : ∃ p, p = (⟨⟨a.rel, []⟩, none, 0, []⟩ : Pt) := ⟨_, rfl⟩
            rw [← hp9] at HI9 HPK HPR hpe HFIN HNE
            clear hp9
            generalize hn9 : nD + 1 = n9 at *
            clear hn9
            obtain ⟨gD, hD9, hgW, hgl, e0, e1, fz⟩ := HI9.out.at_ HPK.out
            subst hD9
            have hLk := hide (HI9.out.rows p (List.mem_of_getElem? HPK.out))
            have hkn : nD < n9 := by have h1 := HI9.out.len; have := (List.getElem?_eq_some_iff.1 HPK.out).1; omega
            have HCF := hide (contains_funcR p.t.rows (fun s => sameR s (iceR vs a)) 67 #[.pointer (some ⟨wr.heap.size + 1, 0, none⟩)] p.A p.t.rows.length p.c w9 hLk.out.lat (by have := HPR.out.1; omega) (enters_at Try.func67 (by kernel_rfl) rfl)
              (fun x v w1 hx h1 hv => freeze3 (iceR vs a) x v (wr.heap.size + 1) R m1 cR w1 ((HBR9.out.ext h1).cell 0) (RowAt.own (own_ext HRow9.out h1)) hv (by omega) (by have := HPR.out.2 x hx; omega)))
            clear e0
            cases hh : hasR p.t.rows (iceR vs a) with
            | true =>
              have hh' : (p.t.rows.any fun s => sameR s (iceR vs a)) = true := hh
              rw [hh'] at HCF
              have hadd : addR p.t.rows (iceR vs a) = p.t.rows := if_pos hh
              have hres := hide (show (ps ++ [p]).map (·.t) = frzT vs (as_.take (i + 1)) by
                have h1 := HFIN.out p (by rw [hadd, ← hpe.out])
                rwa [set_same HPK.out] at h1)
              clear hh hh' hadd
              go_wp2_with ((with_reducible refine HCF.out.mono ?_); rintro e w11 ⟨rfl, x11⟩; have X11 := hide x11; clear x11)
              go_roundw
              case rel => exact ⟨i + 1, some ⟨gD, 0, none⟩, n9, c9, (ps ++ [p]), by omega, by go_num, rfl, hres.out, HI9.out.go X11.out⟩
              case measure => simp [intOf]; omega
            | false =>
              have hh' : (p.t.rows.any fun s => sameR s (iceR vs a)) = false := hh
              rw [hh'] at HCF
              have hadd : addR p.t.rows (iceR vs a) = p.t.rows ++ [iceR vs a] := if_neg (by rw [hh]; decide)
              have hres := hide (fun A' c' cells => HFIN.out ⟨⟨p.t.rel, p.t.rows ++ [iceR vs a]⟩, A', c', cells⟩ (by rw [hadd, ← hpe.out]))
              clear hh hh' hadd
              go_upto_region 22 with ((with_reducible refine HCF.out.mono ?_); rintro e w11 ⟨rfl, x11⟩; have X11 := hide x11; clear x11)
              have HI11 := hide (HI9.out.go X11.out)
              have HR11 := hide (own_base (own_ext HRow9.out X11.out) (show W4.heap.size ≤ wr.heap.size from hI.out.ext.size))
              have HB11 := hide (HBR9.out.ext X11.out)
              have hne : ∀ b, p.A = some b → b.block ≠ wr.heap.size + 1 := fun b hb => HNE.out b hb
              have Hne := hide hne; clear hne
              have hl6 := HPR.out.1
              clear e1 fz
              have e1 : w11.cell? ⟨gD, nD * 2 + 1, none⟩ = some (.slice p.A p.t.rows.length p.c) := by
                obtain ⟨g', hg', _, _, _, e1, _⟩ := HI11.out.at_ HPK.out
                injection hg' with hg'
                injection hg' with hg'
                rw [hg']; exact e1
              have r0 : w11.cell? ⟨wr.heap.size + 1, 0, none⟩ = some (.slice R m1 cR) := HB11.out.cell 0
              have e1a : (w11.alloc (.cells #[.slice R m1 cR] 35)).cell? ⟨gD, nD * 2 + 1, none⟩ = some (.slice p.A p.t.rows.length p.c) := (Ext.alloc w11 _).cell e1
              have r0a : (w11.alloc (.cells #[.slice R m1 cR] 35)).cell? ⟨wr.heap.size + 1, 0, none⟩ = some (.slice R m1 cR) := (Ext.alloc w11 _).cell r0
              go_region_law
                (first
                  | ((refine step_frz hkr0 hx0 hx1 hx2 HI11.out HPK.out HR11.out HB11.out Hne.out hl6 (by rfl) _ _ (by rfl) (by rfl) (Ext.drew' (Ext.alloc w11 _)) w11.heap.size (by rfl) ((Blk.new w11 _ _).ext (Ext.drew _)) ?_); intro A8 c8 w12 hP1; have hq1 := hP1.cellD; have hq2 := hP1.frD))
              all_goals
                have HP1 := hide hP1
                clear hP1 hq1 hq2
                go_wp2_with fail
                go_roundw
                case rel => exact ⟨i + 1, some ⟨gD, 0, none⟩, n9, c9, _, by omega, by go_num, rfl, hres.out _ _ _, HP1.out.fin⟩
                case measure => simp [intOf]; omega
    · have HD := hide (show ps.map (·.t) = frzT vs as_ by
        have h1 := hps.out
        rwa [List.take_of_length_le (by have := hml.out; omega)] at h1)
      have hI9 := hI
      clear hI
      obtain ⟨W9, hW9⟩ : ∃ x : World, x = wr := ⟨_, rfl⟩
      subst hW9
      have a1 : W9.cell? ⟨w.heap.size, 1, none⟩ = some (.slice A n c) := (HB0.out.ext (X4.out.trans hI9.out.ext)).cell 1
      go_wp2_with fail
      clear a1
      go_loopw [3, 89] (fun s3 s89 w' => ∃ (i : Nat) (A8 : Option Addr) (c8 : Nat), i ≤ n ∧ s89 = .int .i64 i ∧ s3 = .slice A8 i c8 ∧ Hid (w'.ownsRow W9.heap.size 58 3 (.slice A8 i c8) i (cellsR ((hd.take i).map (iceV vs)))) ∧ Hid (Ext W9 w')) (fun _ s89 _ => n - (intOf s89).toNat)
      case atStart => exact ⟨0, none, 0, by omega, rfl, rfl, World.ownsRow_nil _ _ _ _, Ext.refl _⟩
      case round =>
        obtain ⟨i8, A8, c8, hi8, rfl, rfl, hO8, hX8⟩ := hrel
        by_cases h8 : i8 < n
        · obtain ⟨b, off, x, rfl, hx, hb1, c0⟩ := (HQ.out.head.ext RS.stab (HEW.out.trans (hI9.out.ext.trans hX8.out))).str h8
          have hst := hide (iceH_snoc (vs := vs) hx)
          have hx8 := hI9.out.ext.trans hX8.out
          have HIC := hide (ice_any vs x g6 Av vs.length cv wr ((HB6.out.ext hx8).cell 0) (HV4.out.ext RS.stab hx8) (by omega))
          clear hx hb1 hx8
          go_wp2_with (first
            | ((with_reducible refine HIC.out.mono ?_); rintro e w9 ⟨rfl, x9⟩; have XA9 := hide (Ext.alloc w9 (.cells #[.int .i64 3, .int .i64 (firstI (eqB x) vs 0), .string ⟨#[]⟩] 58)); have HO9 := hide (own_ext hO8.out (x9.trans XA9.out)); have X9 := hide (hX8.out.trans (x9.trans XA9.out)); have Hsrc := hide (sl_lit w9 [.int .i64 3, .int .i64 (firstI (eqB x) vs 0), .string ⟨#[]⟩] 58 1 3 rfl); clear x9)
            | (at_builtin; refine wpList_append_sl rfl (.tmp 93) (.tmp 97) _ rfl 58 i0 _ 3 32 Try.underlying35 hi0 hz0 hz1 hz2 rfl (by omega) W9 X9.out (.slice A8 i8 c8) i8 _ rfl HO9.out _ 1 1 [.int .i64 3, .int .i64 (firstI (eqB x) vs 0), .string ⟨#[]⟩] rfl Hsrc.out (v3_one _ _ _) (by unfold maxLen; omega) (by omega) ?_; intro R8 c9 w8 own8 E8 _ _))
          go_roundw
          case rel => exact ⟨i8 + 1, R8, c9, by omega, by go_num, rfl, by rw [hst.out]; exact own8.out, E8.out⟩
          case measure => simp [intOf]; omega
        · have hro := RowAt.own hO8.out
          rw [List.take_of_length_le (by have := hnl.out; omega)] at hro
          have HRO := hide hro
          have HDL := hide (hI9.out.go hX8.out)
          clear hro
          go_wp2_with fail
          go_ret3
          exact ⟨D, nD, cD, A8, i8, c8, rfl, by rw [← HD.out]; exact HDL.out.lat, HRO.out, HEW.out.trans (hI9.out.ext.trans hX8.out)⟩
theorem freeze_any (q : Qy) (L : QLoc) (w : World) (hq : QAt w L q) (hM : smallM 1048576 q) : Calls Try.prog 38 #[qval q.name L] w (RetFrz w (frzR q)) := by
  by_cases hs : shapeQ q = 0
  · exact freeze_ok q L w hq hM hs
  · exact freeze_bad q L w hq hM hs
end Go.Proofs.Ytpfjkjmimmklcaa
