/-
  row.Arrange: the one rising list of these rows, each row in memory of its own.
-/
import Derived.Test.YtoahckibhmoikaaDoorArrC
import Derived.Test.YtoahckibhmoikaaDoorCloneV
import Derived.Test.YtoahckibhmoikaaDoorRowsA
namespace Go.Proofs.YtoahckibhmoikaaDoor
open Go.RowKit Go.Shelf

theorem rps_of {w : World} {cells : List Value} {rows : List (List V)} (h : Els RRow 1 w cells rows) : (∀ r ∈ rows, r.length ≤ 140737488355328) → ∃ ps : List RP, cells = ps.map RP.val ∧ ps.map RP.r = rows ∧ ∀ p ∈ ps, p.ok w := by
  induction h with
  | nil => intro _; exact ⟨[], rfl, rfl, fun p hp => by cases hp⟩
  | @cons cs x cells xs _ _ h3 _ ih =>
    intro hb
    obtain ⟨ps, e1, e2, e3⟩ := ih fun r hr => hb r (List.mem_cons_of_mem _ hr)
    obtain ⟨A, n, c, rfl, hR⟩ := h3
    have hx := hb x (List.mem_cons_self ..)
    refine ⟨⟨A, n, c, x⟩ :: ps, by rw [e1]; rfl, by rw [List.map_cons, e2], fun p hp => ?_⟩
    rcases List.mem_cons.1 hp with rfl | hp
    · exact ⟨hR, by have := hR.len; simp only; omega⟩
    · exact e3 p hp
theorem sort_any (ps : List RP) (w0 w : World) (g c : Nat) (hE : Ext w0 w) (hg : w0.heap.size ≤ g) (hB : Blk w g 23 (rpC ps)) (hok : ∀ p ∈ ps, p.ok w0) (hn : ps.length ≤ 16777216) :
    Calls Tryd.prog 49 #[.slice (some ⟨g, 0, none⟩) ps.length c, .func (.func 30) #[] #[]] w fun e w' => e = .returned (.tuple #[]) ∧
      ∃ ps' : List RP, ps'.Perm ps ∧ ps'.Pairwise rpLe ∧ Blk w' g 23 (rpC ps') ∧ Ext w0 w' := by
  rcases Nat.eq_zero_or_pos ps.length with h0 | h0
  · have e0 : ps = [] := List.eq_nil_of_length_eq_zero h0
    subst e0
    have h := AnyF.slices_SortFunc_none (P := Tryd.prog) (ρ := Tryd.sortRows_ren) { Tryd.sortRows with } (some ⟨g, 0, none⟩) c (.func (.func 30) #[] #[]) w
    change Calls Tryd.prog 49 _ _ _ at h
    exact h.mono fun e w' ⟨he, hw⟩ => ⟨he, [], .nil, .nil, by rw [hw]; exact hB, by rw [hw]; exact hE⟩
  · exact sort_rows ps w0 w g c hE hg hB hok hn h0
theorem arr_of {rows : List (List V)} {ps ps' : List RP} (hr : ps.map RP.r = rows) (hp : ps'.Perm ps) (hs : ps'.Pairwise rpLe) : (ddBy rpSame ps').map RP.r = arrP rows := by
  obtain ⟨h1, h2⟩ := dd_rises RP.r rpSame (fun x y => sameR_iff) ps' hs
  refine arr_eq h1 fun x => (h2 x).trans ?_
  rw [← hr]
  exact (hp.map RP.r).mem_iff
theorem keepN {α : Type} (xs : List α) (i : Nat) (x : α) (h : xs[i]? = some x) : xs.take (i + 1) = xs.take i ++ [x] ∧ xs.drop i = x :: xs.drop (i + 1) := by
  obtain ⟨hl, e⟩ := List.getElem?_eq_some_iff.1 h
  exact ⟨by rw [List.take_add_one, h]; rfl, by rw [List.drop_eq_getElem_cons hl, e]⟩
structure AInv (w0 w : World) (g : Nat) (qs : List RP) (n i : Nat) : Prop where
  blk : ∃ cs tail : List Value, cs.length = i ∧ (cs ++ (qs.drop i).map RP.val ++ tail).length = n ∧ Blk w g 23 (cs ++ (qs.drop i).map RP.val ++ tail).toArray ∧ Els (RMine w0.heap.size) 1 w cs ((qs.take i).map RP.r)
  ext : Ext w0 w
theorem AInv.go {w0 w w' : World} {g : Nat} {qs : List RP} {n i : Nat} (h : AInv w0 w g qs n i) (hw : Ext w w') : AInv w0 w' g qs n i := by
  obtain ⟨cs, tail, h1, h2, h3, h4⟩ := h.blk
  exact ⟨⟨cs, tail, h1, h2, h3.ext hw, h4.ext (RMine.stab _) hw⟩, h.ext.trans hw⟩
theorem AInv.at_ {w0 w : World} {g : Nat} {qs : List RP} {n i : Nat} {q : RP} (h : AInv w0 w g qs n i) (hq : qs[i]? = some q) : w.cell? ⟨g, i, none⟩ = some q.val ∧ w.frozen? ⟨g, i, none⟩ = false := by
  obtain ⟨cs, tail, h1, h2, h3, _⟩ := h.blk
  refine ⟨?_, h3.frozen i⟩
  rw [h3.cell i, (keepN qs i q hq).2]
  subst h1
  simp
theorem AInv.put {w0 w : World} {g : Nat} {qs : List RP} {n i : Nat} {q : RP} {A : Option Addr} {k c : Nat} (h : AInv w0 w g qs n i) (hq : qs[i]? = some q) (hg : w0.heap.size ≤ g) (ho : w.ownsRow w0.heap.size 54 3 (.slice A k c) k (cellsR q.r)) :
    AInv w0 (w.setCell ⟨g, i, none⟩ (.slice A k c)) g qs n (i + 1) := by
  obtain ⟨cs, tail, h1, h2, h3, h4⟩ := h.blk
  obtain ⟨e1, e2⟩ := keepN qs i q hq
  have hset : ∀ {A : Option Addr} {k c : Nat} {xs : List Value}, w.ownsRow w0.heap.size 54 3 (.slice A k c) k xs → ∀ u, (w.setCell ⟨g, i, none⟩ u).ownsRow w0.heap.size 54 3 (.slice A k c) k xs := fun h u =>
    h.kept (row := some g) ⟨rfl, rfl, rfl, by simp, fun k _ hk => Below.heap_setCell _ _ _ _ (fun e => hk (by rw [e]))⟩ (.inr (Ne.symm (own_ne_blk h h3 (by decide))))
  refine ⟨⟨cs ++ [.slice A k c], tail, by simp [h1], ?_, ?_, ?_⟩, h.ext.setCell (p := ⟨g, i, none⟩) hg _⟩
  · rw [e2] at h2
    simp at h2 ⊢
    omega
  · have h5 := h3.set_ i (.slice A k c)
    rw [e2, List.setIfInBounds_toArray] at h5
    subst h1
    simpa using h5
  · rw [e1, List.map_append]
    refine Els.snoc (h4.mono fun c' x hx => ?_) rfl (fun v hv => by obtain rfl := List.mem_singleton.1 hv; rfl) ⟨A, k, c, rfl, hset ho _⟩
    obtain ⟨A1, n1, c1, f1, f2⟩ := hx
    exact ⟨A1, n1, c1, f1, hset f2 _⟩

set_option maxHeartbeats 4000000 in
set_option maxRecDepth 100000 in
theorem arrange_any (rows : List (List V)) (A : Option Addr) (n c : Nat) (w : World) (ha : LAt RRow 1 w A n rows) (hn : n ≤ 16777216) (hr : ∀ r ∈ rows, r.length ≤ 16777216) :
    Calls Tryd.prog 33 #[.slice A n c] w (RetRows w (arrP rows)) := by
  obtain ⟨i0, hi0, hz0, hz1, hz2⟩ := info_parts infoRw
  have hmk := run_make_n (P := Tryd.prog) 47 23 i0 _ Tryd.underlying47 hi0 hz0 (by omega) .i64 .i64 n hn
  simp only [hz1] at hmk
  obtain ⟨hlen, cells, hels, hsl⟩ := ha
  obtain ⟨ps, rfl, hps, hok⟩ := rps_of hels fun r h => by have := hr r h; omega
  have hpl : ps.length = n := by rw [← hps, List.length_map] at hlen; omega
  have HPL := hide hpl
  have HPS := hide hps; have HOK := hide hok; have HR := hide hr
  have Hsl := hide hsl; have Hone := hide hels.one
  have HSO := hide (fun w1 (h1 : Ext w w1) (h2 : Blk w1 w.heap.size 23 (rpC ps)) => sort_any ps w w1 w.heap.size n h1 (Nat.le_refl _) h2 hok (by omega))
  have HCO := hide (fun (ps' : List RP) (hp : ps'.Perm ps) w1 (h1 : Ext w w1) (h2 : Blk w1 w.heap.size 23 (rpC ps')) => compact_rows ps' w w1 w.heap.size n h1 (Nat.le_refl _) h2 (fun p hm => hok p (hp.mem_iff.1 hm)) (by rw [hp.length_eq]; omega) (by rw [hp.length_eq]; omega))
  rw [hpl] at HSO
  clear hels hsl hok hr hlen hz1 hz2 hz0 hi0 hps
  go_enter Tryd.func33, Tryd.ntmps33
  go_upto_region 5 with (first
    | (refine wpList_copy_sl rfl (.tmp 8) (.tmp 9) 47 47 rfl 23 1 Tryd.underlying47 sizeRw A w.heap.size 0 n n n c rfl rfl _ 23 (heap_alloc_new w _) (ps.map RP.val) (Hsl.out.ext (Ext.alloc w _)) (Nat.le_refl _) (by have h := Hsl.out.1; rw [size_madeCells]; omega) Hone.out w (Ext.alloc w _) (Nat.le_refl _) ?_
       intro w2 hg1 hE1 hs1
       have hB2 := hide (show Blk w2 w.heap.size 23 (rpC ps) by
         have h := hg1.out
         rw [splice_all (by have h' := Hsl.out.1; rw [Array.length_toList, size_madeCells]; omega)] at h
         exact h)
       clear hg1 hs1 hmk)
    | ((with_reducible refine (HSO.out _ hE1.out hB2.out).mono ?_); rintro e w3 ⟨rfl, ps', hp, hs, hb, x3⟩; have HP := hide hp; have HS := hide hs; have HB3 := hide hb; have X3 := hide x3; have hl3 := hp.length_eq; rw [hpl] at hl3; have HL3 := hide hl3; clear hp hs hb x3 hl3; have HC3 := hide (HCO.out ps' HP.out _ X3.out HB3.out); rw [HL3.out] at HC3)
    | ((with_reducible refine HC3.out.mono ?_); rintro e w4 ⟨rfl, hk⟩; have HK := hide hk; clear hk))
  have harr := hide (arr_of HPS.out HP.out HS.out)
  have HQK := hide (show ∀ q ∈ ddBy rpSame ps', q.ok w ∧ q.n ≤ 16777216 from fun q hq => by
    have h1 := HP.out.mem_iff.1 (dd_sub rpSame ps' q hq)
    have h2 := HOK.out q h1
    refine ⟨h2, ?_⟩
    have h3 := HR.out q.r (by rw [← HPS.out]; exact List.mem_map_of_mem h1)
    have := h2.1.len
    omega)
  have hml := dd_len rpSame ps'
  rw [HL3.out] at hml
  generalize ddBy rpSame ps' = qs at *
  obtain ⟨m, hm⟩ : ∃ m, m = qs.length := ⟨_, rfl⟩
  rw [← hm] at hml ⊢
  have HM := hide hm; clear hm
  have HI0 := hide (show AInv w w4 w.heap.size qs n 0 by
    obtain ⟨tail, h1, h2⟩ := HK.out.blk
    exact ⟨⟨[], tail, rfl, by simpa using h1, by simpa using h2, by simpa using Els.nil⟩, HK.out.ext⟩)
  clear hpl
  go_wp2_with fail
  go_loopw [17] (fun s17 w' => ∃ i : Nat, i ≤ m ∧ s17 = .int .i64 i ∧ Hid (AInv w w' w.heap.size qs n i)) (fun s17 _ => m - (intOf s17).toNat)
  case atStart => exact ⟨0, by omega, rfl, HI0.out⟩
  case round =>
    obtain ⟨i, him, rfl, hI⟩ := hrel
    by_cases h : i < m
    · obtain ⟨q, hq⟩ : ∃ q, qs[i]? = some q := ⟨_, List.getElem?_eq_getElem (by have := HM.out; omega)⟩
      obtain ⟨hqk, hqn⟩ := HQK.out q (List.mem_of_getElem? hq)
      have Hq := hide hq
      have c0 := (hI.out.at_ hq).1
      have HCL := hide (cloneV (cellsR q.r) q.A q.n q.c wr (hqk.ext hI.out.ext).1.2 (cellsR_one _) hqn)
      clear hq hqk
      simp only [RP.val] at c0
      go_wp2_with ((with_reducible refine HCL.out.mono ?_); rintro e w5 ⟨A5, c5, rfl, o5, x5⟩; have HO5 := hide (show w5.ownsRow w.heap.size 54 3 (.slice A5 q.n c5) q.n (cellsR q.r) from ⟨o5.1, by
          rcases o5.2 with h1 | ⟨g1, cap, cur, h1, h2, h3⟩
          · exact .inl h1
          · exact .inr ⟨g1, cap, cur, h1, Nat.le_trans hI.out.ext.size h2, h3⟩⟩); have HI5 := hide (hI.out.go x5); clear o5 x5 c0; have c0 := (HI5.out.at_ Hq.out).1; have f0 := (HI5.out.at_ Hq.out).2)
      go_roundw
      case rel => exact ⟨i + 1, by omega, by go_num, HI5.out.put Hq.out (Nat.le_refl _) HO5.out⟩
      case measure => simp [intOf]; omega
    · obtain rfl : i = m := by omega
      have hfin := hide (show RetRows w (qs.map RP.r) (.returned (.slice (some ⟨w.heap.size, 0, none⟩) i n)) wr by
        obtain ⟨cs, tail, h1, h2, h3, h4⟩ := hI.out.blk
        have hd : qs.drop i = [] := List.drop_of_length_le (by have := HM.out; omega)
        rw [List.take_of_length_le (by have := HM.out; omega)] at h4
        rw [hd] at h2 h3
        simp only [List.map_nil, List.append_nil] at h2 h3
        refine ⟨_, _, _, cs, rfl, by rw [List.length_map]; exact HM.out, ⟨by omega, .inr ⟨w.heap.size, n, _, rfl, Nat.le_refl _, h3, hml, by unfold maxLen; omega, by simp at h2 ⊢; omega, by simp [← h1]⟩⟩, h4, hI.out.ext⟩)
      go_wp2_with fail
      go_ret
      rw [← harr.out]
      exact hfin.out
end Go.Proofs.YtoahckibhmoikaaDoor
