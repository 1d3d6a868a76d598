/-
  A query's variables, by the document.
  The shape of a query: the document's.
  A map whose keys are texts, as a function from texts to values.
  Laying an atom upon an atom, step by step; a world that is as it was but for one map.
  upon: one atom laid upon another.
-/
import Derived.Test.YtpfjkjmimmklcaaRefB
import Derived.Deep.DeepCutAuto
import Derived.Maps.OwnSet
namespace Go.Proofs.Ytpfjkjmimmklcaa
open Go.RowKit

set_option maxRecDepth 100000 in
theorem ref_atom_vars (rel : ByteArray) (ts : List Tm) (A : Option Addr) (n c : Nat) (w : World) (hT : LAt RT 4 w A n ts) (hn : n ≤ 1125899906842) :
    Calls Try.prog 21 #[.agg #[.string rel, .slice A n c]] w (RetS w (addTs [] ts)) := by
  obtain ⟨i0, hi0, hz0, hz1, hz2⟩ := info_parts infoS
  have HT := hide hT; have HL := hide hT.len
  have HE := hide (Ext.alloc w (.cells #[.string rel, .slice A n c] 40))
  have HC := hide (CellsAt.new w [.string rel, .slice A n c] 40 (0, 0))
  clear hT
  go_enter Try.func21, Try.ntmps21
  go_wp2
  go_loopw [3, 4] (fun o k w' => ∃ (i : Nat) (A' : Option Addr) (c' : Nat), i ≤ n ∧ k = .int .i64 i ∧ o = .slice A' (addTs [] (ts.take i)).length c' ∧ Hid (OwnS (w.alloc (.cells #[.string rel, .slice A n c] 40)) w' A' (addTs [] (ts.take i)).length c' (addTs [] (ts.take i))) ∧ Hid (Ext (w.alloc (.cells #[.string rel, .slice A n c] 40)) w')) (fun _ k _ => n - (intOf k).toNat)
  case atStart => exact ⟨0, none, 0, by omega, rfl, rfl, OwnS.nil _ _, Ext.refl _⟩
  case round =>
    obtain ⟨i, A', c', him, rfl, rfl, ho, hw⟩ := hrel
    have hbd := addTs_len [] (ts.take i)
    rw [List.length_take] at hbd
    simp only [List.length_nil] at hbd
    have b1 := HC.out.ext hw.out 1 _ rfl
    by_cases h : i < n
    · obtain ⟨b, off, t, rfl, hx, hb1, c0, c1, c2, c3⟩ := (HT.out.ext RT.stab (HE.out.trans hw.out)).tm h
      have hs := hide (addTs_snoc hx [])
      clear hx c1 c2 c3
      generalize hl : addTs [] (ts.take i) = l at *
      have HL2 := hide hl; clear hl
      by_cases hv : 0 < t.v.size
      · have he := size_some hv
        have Hv := hide (noVar_false hv)
        clear hv
        have HCon := hide (ref_in l t.v A' l.length c' wr ho.out.lat (by omega))
        cases hm : memB l t.v with
        | true =>
          have Hm := hide hm; clear hm
          go_wp2_with ((with_reducible refine HCon.out.mono ?_); rintro e w1 ⟨rfl, rfl⟩; rw [Hm.out])
          go_roundw
          case rel => exact ⟨i + 1, A', c', by omega, by go_num, by rw [hs.out, addT, Hv.out, Hm.out]; rfl, by rw [Hid, hs.out, addT, Hv.out, Hm.out]; exact ho.out, hw.out⟩
          case measure => simp [intOf]; omega
        | false =>
          have Hm := hide hm; clear hm
          have Hsrc := hide (sl_lit wr [.string t.v] 9 1 1 rfl)
          have HO := hide ho.out.2
          go_wp2_with (first | ((with_reducible refine HCon.out.mono ?_); rintro e w1 ⟨rfl, rfl⟩; rw [Hm.out]) | (at_builtin; refine wpList_append_sl rfl (.tmp 30) (.tmp 37) _ rfl 9 i0 _ 1 16 Try.underlying22 hi0 hz0 hz1 hz2 rfl (by omega) (w.alloc (.cells #[.string rel, .slice (some ⟨b, off, none⟩) n c] 40)) (hw.out.trans (Ext.alloc _ _)) _ l.length (strC l) rfl (HO.out.alloc _) _ 1 1 [.string t.v] rfl Hsrc.out (fun v h => by obtain rfl := List.mem_singleton.1 h; rfl) (by unfold maxLen; omega) (by omega) ?_; intro A8 c8 w8 own8 E8 G8 L8))
          go_roundw
          case rel =>
            refine ⟨i + 1, A8, c8, by omega, by go_num, by rw [hs.out, addT, Hv.out, Hm.out]; simp, by rw [Hid, hs.out, addT, Hv.out, Hm.out]; simp only [Bool.false_eq_true, if_false, List.length_append, List.length_cons, List.length_nil]; exact ⟨by simp, by rw [strC_snoc]; exact own8.out⟩, E8.out⟩
          case measure => simp [intOf]; omega
      · have he := size_empty (s := t.v) (by omega)
        have Hv := hide (noVar_true (t := t) (by omega))
        clear hv
        go_wp2_with fail
        go_roundw
        case rel => exact ⟨i + 1, A', c', by omega, by go_num, by rw [hs.out, addT, Hv.out]; rfl, by rw [Hid, hs.out, addT, Hv.out]; exact ho.out, hw.out⟩
        case measure => simp [intOf]; omega
    · go_wp2_with fail
      go_ret
      have e : ts.take i = ts := List.take_of_length_le (by have := HL.out; omega)
      rw [e] at ho ⊢
      exact ⟨A', c', rfl, ho.out.base HE.out.size, HE.out.trans hw.out⟩

def flatT (as_ : List Atm) (i : Nat) : List Tm := (as_.take i).flatMap (·.terms)
theorem flatT_snoc {as_ : List Atm} {i : Nat} {a : Atm} (h : as_[i]? = some a) : flatT as_ (i + 1) = flatT as_ i ++ a.terms := by
  unfold flatT
  rw [List.take_add_one, h]
  simp
theorem tmC_append (a b : List Tm) : tmC (a ++ b) = tmC a ++ tmC b := by simp [tmC]
theorem OwnT.nil (w0 w : World) : OwnT w0 w none 0 0 [] := ⟨rfl, World.ownsRow_nil w _ _ _⟩

structure VInv (W w : World) (g : Nat) (as_ : List Atm) (i : Nat) (A : Option Addr) (c : Nat) : Prop where
  var : Blk w g 40 #[.string ⟨#[]⟩, .slice A (flatT as_ i).length c]
  own : OwnT W w A (flatT as_ i).length c (flatT as_ i)
  ext : Ext W w

set_option maxRecDepth 100000 in
theorem ref_vars (q : Qy) (L : QLoc) (w : World) (hq : QAt w L q) (hM : smallM 1048576 q) (h6 : L.m ≤ 512) :
    Calls Try.prog 32 #[qval q.name L] w (RetS w (varsQ q)) := by
  obtain ⟨i0, hi0, hz0, hz1, hz2⟩ := info_parts infoT
  have hvq := hide (varsQ_flat q)
  generalize hvv : varsQ q = vq at *
  obtain ⟨nm, hd, as_⟩ := q
  obtain ⟨A, n, c, B, m, d⟩ := L
  simp only [qval] at *
  clear hvv
  have hma := hide (show m = as_.length from hq.atoms.len)
  have HQ := hide hq; have HM := hide hM; clear hq hM
  generalize hW2 : (w.alloc (.cells #[.string nm, .slice A n c, .slice B m d] 25)).alloc (.cells #[.string ⟨#[]⟩, .slice none 0 0] 40) = W2
  have hs2 : W2.heap.size = w.heap.size + 1 + 1 := by rw [← hW2]; simp
  generalize hW1 : w.alloc (.cells #[.string nm, .slice A n c, .slice B m d] 25) = W1 at *
  have HE1 := hide (show Ext w W1 from hW1 ▸ Ext.alloc w _)
  have hs1 : W1.heap.size = w.heap.size + 1 := by rw [← hW1]; simp
  have HE12 := hide (show Ext W1 W2 from hW2 ▸ Ext.alloc _ _)
  have HB0 := hide (show CellsAt W1 w.heap.size [.string nm, .slice A n c, .slice B m d] from hW1 ▸ CellsAt.new w [.string nm, .slice A n c, .slice B m d] 25 (0, 0))
  have HB1 := hide (show Blk W2 (w.heap.size + 1) 40 #[.string ⟨#[]⟩, .slice none 0 0] from by
    have := Blk.new W1 40 #[.string ⟨#[]⟩, .slice none 0 0]
    rw [hs1, hW2] at this; exact this)
  have HS2 := hide hs2; have HS1 := hide hs1
  have HW2 := hide hW2; have HW1 := hide hW1; clear hW2 hs2 hW1 hs1
  go_enter Try.func32, Try.ntmps32
  go_wp2_with fail
  rw [HW1.out, HW2.out]
  have HS := hide (show VInv W1 W2 (w.heap.size + 1) as_ 0 none 0 from VInv.mk HB1.out ⟨rfl, World.ownsRow_nil _ _ _ _⟩ HE12.out)
  go_loopw [4] (fun k w' => ∃ (i : Nat) (A' : Option Addr) (c' : Nat), i ≤ m ∧ k = .int .i64 i ∧ (flatT as_ i).length ≤ i * 1048576 ∧ Hid (VInv W1 w' (w.heap.size + 1) as_ i A' c')) (fun k _ => m - (intOf k).toNat)
  case atStart => exact ⟨0, none, 0, by omega, rfl, by simp [flatT], HS.out⟩
  case round =>
    obtain ⟨i, A', c', him, rfl, hkb, hI⟩ := hrel
    have b2 := HB0.out.ext hI.out.ext 2 _ rfl
    by_cases h : i < m
    · obtain ⟨b, off, a, B1, m1, d1, rfl, hx, hb1, c0, c1, hT⟩ := (HQ.out.atoms.ext RA.stab (HE1.out.trans hI.out.ext)).at_ h
      have hsn := hide (flatT_snoc hx)
      have hm1 : m1 ≤ 1048576 := by have := (HM.out.atoms a (List.mem_of_getElem? hx)).len; have := hT.len; omega
      have hlen := hide hT.len
      have hkl : (flatT as_ (i + 1)).length = (flatT as_ i).length + m1 := by rw [hsn.out, List.length_append, hT.len]
      have HKL := hide hkl
      obtain ⟨cells, hels, hsl⟩ := hT.sl
      have hce : cells = tmC a.terms := hels.flat_eq
      subst hce
      have HSL := hide hsl
      have v1 : wr.cell? ⟨w.heap.size + 1, 1, none⟩ = some (.slice A' (flatT as_ i).length c') := hI.out.var.cell 1
      have v0 : wr.cell? ⟨w.heap.size + 1, 0, none⟩ = some (.string ⟨#[]⟩) := hI.out.var.cell 0
      have hn2 : some (w.heap.size + 1) ≠ (Value.slice A' (flatT as_ i).length c').ownBlock := own_ne_blk hI.out.own.2 hI.out.var (by decide)
      have f1 : wr.frozen? ⟨w.heap.size + 1, 1, none⟩ = false := hI.out.var.frozen 1
      clear hx hT hels hsl hkl c0
      generalize hk : (flatT as_ i).length = k at *
      go_wp2_with fail
      have b2 := cell_ext b2
      have v1 := cell_ext v1
      have c1 := cell_ext c1
      refine wp_region_ext 8 (by kernel_rfl) (by kernel_rfl) (by kernel_rfl) ?_
      iterate 8
        refine wpE_k (by kernel_rfl) (by kernel_rfl) ?_
        apply Exists.intro
        refine ⟨fun w1 hw1 => ?_, fun K hK => ?_⟩
        · go_simp; first | done | rfl
        go_simp; refine hK _ _ ?_; clear hK K
      clear b2 v1 c1
      refine wpE_nil ⟨rfl, by kernel_rfl, fun w1 hw1 => ?_⟩
      simp only [EndQ, List.drop]
      have V1 := hI.out.var.ext hw1
      rw [hk] at V1
      have HW := hide hw1
      have hgb : w.heap.size + 1 < w1.heap.size := V1.lt
      have HV1 := hide V1
      have v1 : w1.cell? ⟨w.heap.size + 1, 1, none⟩ = some (.slice A' k c') := V1.cell 1
      have f1 : w1.frozen? ⟨w.heap.size + 1, 1, none⟩ = false := V1.frozen 1
      have HO := hide (own_ext hI.out.own.2 hw1)
      rw [hk] at HO
      clear hw1 V1 hk
      go_wp2_with (at_builtin; refine wpList_append_sl rfl (.tmp 14) (.tmp 20) _ rfl 60 i0 _ 4 48 Try.underlying38 hi0 hz0 hz1 hz2 rfl (by omega) W1 (hI.out.ext.trans HW.out) (.slice A' k c') k (tmC (flatT as_ i)) rfl HO.out B1 m1 d1 (tmC a.terms) rfl (HSL.out.ext HW.out) (tmC_els w a.terms).one (by unfold maxLen; omega) (by omega) ?_; intro A8 c8 w8 own8 E8 G8 L8; have v8 : w8.cell? ⟨w.heap.size + 1, 1, none⟩ = some (.slice A' k c') := G8.out.cell v1 hn2; have f8 : w8.frozen? ⟨w.heap.size + 1, 1, none⟩ = false := (World.frozen?_of_block (a := ⟨w.heap.size + 1, 1, none⟩) (G8.out.block (w.heap.size + 1) hgb hn2)).trans f1)
      go_roundw
      case rel =>
        have hk8 := HKL.out
        refine ⟨i + 1, A8, c8, by omega, by go_num, by rw [hk8, Nat.add_mul]; omega, ?_⟩
        have V8 := HV1.out.grown G8.out hn2
        refine VInv.mk ?_ ⟨rfl, ?_⟩ ?_
        · rw [hk8]
          have := V8.set_ 1 (.slice A8 (k + m1) c8)
          simpa using this
        · rw [hk8, hsn.out, tmC_append]
          exact own_set own8.out V8 (by decide) 1 _
        · exact E8.out.setCell (p := ⟨w.heap.size + 1, 1, none⟩) (by rw [HS1.out]; exact Nat.le_refl _) _
      case measure => simp [intOf]; omega
    · have v1 : wr.cell? ⟨w.heap.size + 1, 1, none⟩ = some (.slice A' (flatT as_ i).length c') := hI.out.var.cell 1
      have v0 : wr.cell? ⟨w.heap.size + 1, 0, none⟩ = some (.string ⟨#[]⟩) := hI.out.var.cell 0
      have HAV := hide (ref_atom_vars ⟨#[]⟩ (flatT as_ i) A' (flatT as_ i).length c' wr hI.out.own.lat (by omega))
      have hfl := hide (show flatT as_ i = as_.flatMap (·.terms) by rw [flatT, List.take_of_length_le (by have := hma.out; omega)])
      go_wp2_with fail
      refine HAV.out.mono ?_
      rintro e w1 ⟨A2, c2, rfl, hO2, h1⟩
      rw [hfl.out, ← hvq.out] at hO2
      have HO2 := hide hO2
      have E1 := hide (HE1.out.trans (hI.out.ext.trans h1))
      have hsz := hide (HE1.out.trans hI.out.ext).size
      clear h1 hO2 v0 v1
      rw [hfl.out, ← hvq.out]
      go_wp2_with fail
      go_ret
      exact ⟨A2, c2, rfl, HO2.out.base hsz.out, E1.out⟩
end Go.Proofs.Ytpfjkjmimmklcaa

namespace Go.Proofs.Ytpfjkjmimmklcaa
open Go.RowKit

def okT (t : Tm) : Bool := !badT t
def okA (a : Atm) : Bool := a.terms.all okT
theorem okA_bad (as_ : List Atm) : as_.any badA = !as_.all okA := by
  have h : ∀ a, badA a = !okA a := fun a => by
    unfold badA okA okT
    rw [Bool.eq_iff_iff]; simp
  rw [show badA = fun a => !okA a from funext h]
  exact any_not okA as_
theorem okT_var {t : Tm} (h : noVar t = false) : okT t = sameV t.c zeroV := by simp [okT, badT, h]
theorem okT_const {t : Tm} (h : noVar t = true) : okT t = validV t.c := by simp [okT, badT, h]
theorem at_lt {l : List ByteArray} {i : Nat} {x : ByteArray} (h : l[i]? = some x) : firstI (eqB x) l 0 < (i : Int) ↔ memB (l.take i) x = true := by
  have hx : l.any (eqB x) = true := List.any_eq_true.2 ⟨x, List.mem_of_getElem? h, by simp [eqB]⟩
  obtain ⟨k, y, h1, h2, h3, h4⟩ := firstI_some (eqB x) l 0 ((firstI_iff _ _ _).2 hx)
  have hy : y = x := by simpa [eqB] using h3
  subst hy
  rw [h1, memB_iff]
  constructor
  · intro hk
    have hk' : k < i := by omega
    exact List.mem_iff_getElem?.2 ⟨k, by rw [List.getElem?_take, if_pos hk']; exact h2⟩
  · intro hm
    obtain ⟨j, hj⟩ := List.mem_iff_getElem?.1 hm
    rw [List.getElem?_take] at hj
    split at hj
    · rename_i hji
      rcases Nat.lt_or_ge j k with hjk | hjk
      · have := h4 j y hjk hj
        simp [eqB] at this
      · omega
    · cases hj
theorem take_any {α : Type} (p : α → Bool) (xs : List α) (i : Nat) (x : α) (h : xs[i]? = some x) : (xs.take (i + 1)).any p = ((xs.take i).any p || p x) := by
  rw [List.take_add_one, h]; simp

set_option maxHeartbeats 4000000 in
set_option maxRecDepth 100000 in
theorem ref_shape (q : Qy) (L : QLoc) (w : World) (hq : QAt w L q) (hM : smallM 1048576 q) :
    Calls Try.prog 24 #[qval q.name L] w fun e w' => e = .returned (.int .i64 (shapeQ q)) ∧ Ext w w' := by
  obtain ⟨nm, hd, as_⟩ := q
  obtain ⟨A, n, c, B, m, d⟩ := L
  simp only [qval] at *
  have hml : m ≤ 1048576 := by have := hM.atomsL; have := hq.atoms.len; simp only at *; omega
  have hnl : n ≤ 1048576 := by have := hM.headL; have := hq.head.len; simp only at *; omega
  have hma := hide (show m = as_.length from hq.atoms.len)
  have hna := hide (show n = hd.length from hq.head.len)
  have HQ := hide hq; have HM := hide hM; clear hq hM
  generalize hW1 : w.alloc (.cells #[.string nm, .slice A n c, .slice B m d] 25) = W1
  have HE := hide (show Ext w W1 from hW1 ▸ Ext.alloc w _)
  have HB := hide (show CellsAt W1 w.heap.size [.string nm, .slice A n c, .slice B m d] from hW1 ▸ CellsAt.new w [.string nm, .slice A n c, .slice B m d] 25 (0, 0))
  have HN := hide (fun w1 => ref_is_name nm w1 HM.out.name)
  have HW1 := hide hW1; clear hW1
  go_enter Try.func24, Try.ntmps24
  go_wp2_with ((with_reducible refine (HN.out _).mono ?_); rintro e w1 ⟨rfl, rfl⟩)
  rw [HW1.out]
  generalize hnh : (fun i => nameB nm && (hd.take i).all nameB) = nh
  have NH := hide (show ∀ i, nh i = (nameB nm && (hd.take i).all nameB) from fun i => by rw [← hnh])
  clear hnh
  go_loopw [3, 4] (fun b k w' => ∃ i : Nat, i ≤ n ∧ k = .int .i64 i ∧ b = .bool (nh i) ∧ W1 = w') (fun _ k _ => n - (intOf k).toNat)
  case atStart => exact ⟨0, by omega, rfl, by rw [NH.out]; simp, rfl⟩
  case round =>
    obtain ⟨i, hin, rfl, rfl, rfl⟩ := hrel
    have b1 := HB.out 1 _ rfl
    by_cases h : i < n
    · obtain ⟨b, off, x, rfl, hx, hb1, c0⟩ := (HQ.out.head.ext RS.stab HE.out).str h
      have hs := hide (show nh (i + 1) = (nh i && nameB x) by rw [NH.out, NH.out, take_all _ _ _ _ hx, Bool.and_assoc])
      have HNX := hide (fun w1 => ref_is_name x w1 (HM.out.heads x (List.mem_of_getElem? hx)))
      clear hx
      cases hb : nh i
      all_goals
        have Hb := hide hb; clear hb
        go_wp2_with ((with_reducible refine (HNX.out _).mono ?_); rintro e w1 ⟨rfl, rfl⟩)
        go_roundw
        case rel => exact ⟨i + 1, by omega, by go_num, by rw [hs.out, Hb.out]; simp, trivial⟩
        case measure => simp [intOf]; omega
    · have hnf := hide (show nh i = (nameB nm && hd.all nameB) by rw [NH.out, List.take_of_length_le (by have := hna.out; omega)])
      generalize nh i = nf at *
      clear NH
      generalize hA : (fun i => nf && (as_.take i).all nameA) = na
      generalize hV : (fun i => (as_.take i).all okA) = va
      generalize hWd : (fun i => (as_.take i).any wideA) = wa
      have NA := hide (show ∀ i, na i = (nf && (as_.take i).all nameA) from fun i => by rw [← hA])
      have VA := hide (show ∀ i, va i = (as_.take i).all okA from fun i => by rw [← hV])
      have WA := hide (show ∀ i, wa i = (as_.take i).any wideA from fun i => by rw [← hWd])
      clear hA hV hWd
      go_wp2_with fail
      go_loopw [3, 5, 6, 7, 8, 9] (fun b v wd k _ _ w' => ∃ i : Nat, i ≤ m ∧ k = .int .i64 i ∧ b = .bool (na i) ∧ v = .bool (va i) ∧ wd = .bool (wa i) ∧ Hid (Ext W1 w')) (fun _ _ _ k _ _ _ => m - (intOf k).toNat)
      case atStart => exact ⟨0, by omega, rfl, by rw [NA.out]; simp, by rw [VA.out]; simp, by rw [WA.out]; simp, Ext.refl _⟩
      case round =>
        obtain ⟨i, him, rfl, rfl, rfl, rfl, hw⟩ := hrel
        have b2 := HB.out.ext hw.out 2 _ rfl
        by_cases h2 : i < m
        · obtain ⟨b, off, a, B1, m1, d1, rfl, hx, hb1, c0, c1, hT⟩ := (HQ.out.atoms.ext RA.stab (HE.out.trans hw.out)).at_ h2
          have hs1 := hide (show na (i + 1) = ((na i && nameB a.rel) && a.terms.all nameT) by rw [NA.out, NA.out, take_all _ _ _ _ hx, nameA]; simp [Bool.and_assoc])
          have hs2 := hide (show va (i + 1) = (va i && a.terms.all okT) by rw [VA.out, VA.out, take_all _ _ _ _ hx, okA])
          have hs3 := hide (show wa (i + 1) = (wa i || wideA a) by rw [WA.out, WA.out, take_any _ _ _ _ hx])
          have HSA := hide (HM.out.atoms a (List.mem_of_getElem? hx))
          have HNX := hide (fun w1 => ref_is_name a.rel w1 HSA.out.rel)
          have hmt := hide hT.len
          have hm1 : m1 ≤ 1048576 := by have := HSA.out.len; have := hT.len; omega
          have HT := hide hT
          clear hx hT
          generalize hni : na i = ni at *
          generalize hvi : va i = vi at *
          generalize hwi : wa i = wi at *
          go_upto_region 10 with fail
          go_cut [3] from 151 (fun s3 wx => s3 = .bool (ni && nameB a.rel) ∧ wr = wx)
          case first =>
            cases ni
            all_goals
              go_wp2_with ((with_reducible refine (HNX.out _).mono ?_); rintro e w1 ⟨rfl, rfl⟩)
              go_meet
              exact ⟨by simp, rfl⟩
          case rest =>
            obtain ⟨rfl, rfl⟩ := hcut
            go_upto_region 11 with fail
            have hbm : (m1 : Int) = a.terms.length := by have := hmt.out; omega
            have HWA := hide (show decide ((5 : Int) < (m1 : Int)) = wideA a by rw [wideA, Bool.eq_iff_iff]; simp; omega)
            clear hbm
            go_cut [6] from 151 (fun s6 wx => s6 = .bool (wi || wideA a) ∧ wr = wx)
            case first =>
              cases wi
              all_goals
                go_wp2_with fail
                go_meet
                exact ⟨by first | rfl | (rw [← HWA.out]; simp), rfl⟩
            case rest =>
              obtain ⟨rfl, rfl⟩ := hcut
              go_wp2_with fail
              generalize hnj : (fun j => (ni && nameB a.rel) && (a.terms.take j).all nameT) = nj
              generalize hvj : (fun j => vi && (a.terms.take j).all okT) = vj
              have NJ := hide (show ∀ j, nj j = ((ni && nameB a.rel) && (a.terms.take j).all nameT) from fun j => by rw [← hnj])
              have VJ := hide (show ∀ j, vj j = (vi && (a.terms.take j).all okT) from fun j => by rw [← hvj])
              clear hnj hvj
              have C0 := hide c0; have C1 := hide c1
              clear b2 c0 c1
              go_loopw [3, 5, 8, 9] (fun b v k _ w' => ∃ j : Nat, j ≤ m1 ∧ k = .int .i64 j ∧ b = .bool (nj j) ∧ v = .bool (vj j) ∧ Hid (Ext wr w')) (fun _ _ k _ _ => m1 - (intOf k).toNat)
              case atStart => exact ⟨0, by omega, rfl, by rw [NJ.out]; simp, by rw [VJ.out]; simp, Ext.refl _⟩
              case round =>
                obtain ⟨j, hjm, rfl, rfl, rfl, hw2⟩ := hrel
                have b2 := HB.out.ext (hw.out.trans hw2.out) 2 _ rfl
                have c1 := hw2.out.cell C1.out
                by_cases h3 : j < m1
                · obtain ⟨b', off', t, rfl, hx2, hb2, d0, d1_, d2, d3⟩ := (HT.out.ext RT.stab hw2.out).tm h3
                  have hy1 := hide (show nj (j + 1) = (nj j && nameT t) by rw [NJ.out, NJ.out, take_all _ _ _ _ hx2]; simp [Bool.and_assoc])
                  have hy2 := hide (show vj (j + 1) = (vj j && okT t) by rw [VJ.out, VJ.out, take_all _ _ _ _ hx2]; simp [Bool.and_assoc])
                  have HTT := hide (HSA.out.terms t (List.mem_of_getElem? hx2))
                  have HNT := hide (fun w1 => ref_is_name t.v w1 HTT.out.1)
                  have HVV := hide (fun w1 => ref_val_valid t.c w1 HTT.out.2.1)
                  have HE3 := hide (hw2.out.trans (Ext.alloc wr (.cells #[.string t.v, .int .i64 t.c.k, .int .i64 t.c.i, .string t.c.t] 60)))
                  clear hx2
                  simp only [V.val] at HVV
                  by_cases hv : 0 < t.v.size
                  · have he := size_some hv
                    have hn1 := hide (show nj (j + 1) = (nj j && nameB t.v) by rw [hy1.out, nameT, noVar_false hv]; rfl)
                    have hv1 := hide (show vj (j + 1) = (vj j && sameV t.c zeroV) by rw [hy2.out, okT_var (noVar_false hv)])
                    clear hv
                    go_upto_region 17 with fail
                    go_cut [3] from 151 (fun s3 wx => s3 = .bool (nj (j + 1)) ∧ wr.alloc (.cells #[.string t.v, .int .i64 t.c.k, .int .i64 t.c.i, .string t.c.t] 60) = wx)
                    case first =>
                      cases hnj : nj j
                      all_goals
                        have Hnj := hide hnj; clear hnj
                        go_wp2_with ((with_reducible refine (HNT.out _).mono ?_); rintro e w1 ⟨rfl, rfl⟩)
                        go_meet
                        exact ⟨by rw [hn1.out, Hnj.out]; simp, rfl⟩
                    case rest =>
                      obtain ⟨rfl, rfl⟩ := hcut
                      obtain ⟨tv, ck, ci, ct⟩ := t
                      dsimp only at d0 d1_ d2 d3 he HE3 hv1 hn1 ⊢
                      cases hvj : vj j
                      case' false =>
                        have hfin := hide (show vj (j + 1) = false by rw [hv1.out, hvj]; rfl)
                        have Hvj := hide hvj; clear hvj
                        go_wp2_with fail
                        go_roundw
                        case rel => exact ⟨j + 1, by omega, by go_num, rfl, by rw [hfin.out], HE3.out⟩
                        case measure => simp [intOf]; omega
                      case' true =>
                        have hfin0 := hide (show vj (j + 1) = sameV ⟨ck, ci, ct⟩ zeroV by rw [hv1.out, hvj]; rfl)
                        have Hvj := hide hvj; clear hvj
                        have hx0 := hide (empty_iff ct)
                        by_cases k1 : ck = 0
                        · subst k1
                          by_cases k2 : ci = 0
                          · subst k2
                            by_cases k3 : ct.toList = []
                            · have hfin := hide (show vj (j + 1) = true by rw [hfin0.out, hx0.out.1 k3]; rfl)
                              go_wp2_with fail
                              go_roundw
                              case rel => exact ⟨j + 1, by omega, by go_num, rfl, by rw [hfin.out], HE3.out⟩
                              case measure => simp [intOf]; omega
                            · have hfin := hide (show vj (j + 1) = false by rw [hfin0.out]; simp [sameV, zeroV]; exact decide_eq_false (fun e => k3 (hx0.out.2 e)))
                              go_wp2_with fail
                              go_roundw
                              case rel => exact ⟨j + 1, by omega, by go_num, rfl, by rw [hfin.out], HE3.out⟩
                              case measure => simp [intOf]; omega
                          · have hfin := hide (show vj (j + 1) = false by rw [hfin0.out]; simp [sameV, zeroV, k2])
                            go_wp2_with fail
                            go_roundw
                            case rel => exact ⟨j + 1, by omega, by go_num, rfl, by rw [hfin.out], HE3.out⟩
                            case measure => simp [intOf]; omega
                        · have hfin := hide (show vj (j + 1) = false by rw [hfin0.out]; simp [sameV, zeroV, k1])
                          go_wp2_with fail
                          go_roundw
                          case rel => exact ⟨j + 1, by omega, by go_num, rfl, by rw [hfin.out], HE3.out⟩
                          case measure => simp [intOf]; omega
                  · have he := size_empty (s := t.v) (by omega)
                    have hn1 := hide (show nj (j + 1) = nj j by rw [hy1.out, nameT, noVar_true (by omega)]; simp)
                    have hv1 := hide (show vj (j + 1) = (vj j && validV t.c) by rw [hy2.out, okT_const (noVar_true (by omega))])
                    clear hv
                    cases hvj : vj j
                    case' false =>
                      have Hvj := hide hvj; clear hvj
                      go_wp2_with fail
                      have HE4 := HE3
                    case' true =>
                      have Hvj := hide hvj; clear hvj
                      go_wp2_with ((with_reducible refine (HVV.out _).mono ?_); rintro e w1 ⟨rfl, h1⟩; have HE4 := hide (HE3.out.trans h1); clear h1)
                    all_goals
                      go_roundw
                      case rel => exact ⟨j + 1, by omega, by go_num, by rw [hn1.out], by rw [hv1.out, Hvj.out]; simp, HE4.out⟩
                      case measure => simp [intOf]; omega
                · have hz1 := hide (show nj j = na (i + 1) by rw [NJ.out, hs1.out, List.take_of_length_le (by have := hmt.out; omega)])
                  have hz2 := hide (show vj j = va (i + 1) by rw [VJ.out, hs2.out, List.take_of_length_le (by have := hmt.out; omega)])
                  go_wp2_with fail
                  go_roundw
                  case rel => exact ⟨i + 1, by omega, by go_num, by rw [hz1.out], by rw [hz2.out], by rw [hs3.out], hw.out.trans hw2.out⟩
                  case measure => simp [intOf]; omega
        · have e1 : na i = (nf && as_.all nameA) := by rw [NA.out, List.take_of_length_le (by have := hma.out; omega)]
          have e2 : va i = as_.all okA := by rw [VA.out, List.take_of_length_le (by have := hma.out; omega)]
          have e3 : wa i = as_.any wideA := by rw [WA.out, List.take_of_length_le (by have := hma.out; omega)]
          have HS := hide (show shapeQ ⟨nm, hd, as_⟩ = if na i = false then 72 else if va i = false then 21 else if as_.length = 0 ∨ 6 < as_.length then 90 else if wa i = true then 91 else if dblB hd = true then 92 else if unsafeB ⟨nm, hd, as_⟩ = true then 93 else 0 by
            rw [shapeQ, e1, e2, e3, hnf.out, badNameQ, okA_bad]
            simp only [Bool.not_eq_true', Bool.and_assoc])
          clear e1 e2 e3
          cases hn : na i with
          | false =>
            have HX := hide (HS.out.trans (if_pos hn)); clear HS
            go_wp2_with fail
            go_ret
            exact ⟨ret_int HX.out.symm, HE.out.trans hw.out⟩
          | true =>
            have HS2 := hide (HS.out.trans (if_neg (by simp [hn]))); clear HS
            have Hn := hide hn; clear hn
            cases hv : va i with
            | false =>
              have HX := hide (HS2.out.trans (if_pos hv)); clear HS2
              go_wp2_with fail
              go_ret
              exact ⟨ret_int HX.out.symm, HE.out.trans hw.out⟩
            | true =>
              have HS3 := hide (HS2.out.trans (if_neg (by simp [hv]))); clear HS2
              have Hv := hide hv; clear hv
              by_cases hz : m = 0
              · have HX := hide (HS3.out.trans (if_pos (.inl (by have := hma.out; omega)))); clear HS3
                subst hz
                go_wp2_with fail
                go_ret
                exact ⟨ret_int HX.out.symm, HE.out.trans hw.out⟩
              · have hz1 : ¬ (m : Int) < 1 := by omega
                by_cases h6 : 6 < m
                · have HX := hide (HS3.out.trans (if_pos (.inr (by have := hma.out; omega)))); clear HS3
                  have h61 : (6 : Int) < (m : Int) := by omega
                  go_wp2_with fail
                  go_ret
                  exact ⟨ret_int HX.out.symm, HE.out.trans hw.out⟩
                · have HS4 := hide (HS3.out.trans (if_neg (by have := hma.out; omega))); clear HS3
                  have h61 : ¬ (6 : Int) < (m : Int) := by omega
                  cases hwd : wa i with
                  | true =>
                    have HX := hide (HS4.out.trans (if_pos hwd)); clear HS4
                    go_wp2_with fail
                    go_ret
                    exact ⟨ret_int HX.out.symm, HE.out.trans hw.out⟩
                  | false =>
                    have HS5 := hide (HS4.out.trans (if_neg (by simp [hwd]))); clear HS4
                    have Hwd := hide hwd; clear hwd
                    have HV := hide (fun w1 (h1 : Ext w w1) => ref_vars ⟨nm, hd, as_⟩ ⟨A, n, c, B, m, d⟩ w1 (HQ.out.ext h1) HM.out (by simp only; omega))
                    have hvl := hide (varsQ_len ⟨nm, hd, as_⟩ HM.out)
                    have HU := hide (show unsafeB ⟨nm, hd, as_⟩ = hd.any (fun h => !memB (varsQ ⟨nm, hd, as_⟩) h) from rfl)
                    simp only [qval] at HV
                    generalize varsQ ⟨nm, hd, as_⟩ = vq at HV hvl HU
                    go_wp2_with fail
                    go_loopw [10] (fun k w' => ∃ p : Nat, p ≤ n ∧ k = .int .i64 p ∧ Hid (∀ (j : Nat) (x : ByteArray), j < p → hd[j]? = some x → memB (hd.take j) x = false) ∧ Hid (Ext W1 w')) (fun k _ => n - (intOf k).toNat)
                    case atStart => exact ⟨0, by omega, rfl, fun j x hj => by omega, hw.out⟩
                    case round =>
                      obtain ⟨p, hpn, rfl, hp, hw3⟩ := hrel
                      have b1 := HB.out.ext hw3.out 1 _ rfl
                      by_cases h4 : p < n
                      · obtain ⟨b', off', x, rfl, hx, hb3, e0⟩ := (HQ.out.head.ext RS.stab (HE.out.trans hw3.out)).str h4
                        have hal := at_lt hx
                        have HX := hide hx
                        have HAt := hide (fun w1 (h1 : Ext wr w1) => ref_at hd x (some ⟨b', off', none⟩) n c w1 (HQ.out.head.ext RS.stab (HE.out.trans (hw3.out.trans h1))) (by omega))
                        clear hx
                        generalize hf : firstI (eqB x) hd 0 = f at hal HAt
                        clear hf
                        have b1 := cell_ext b1
                        have e0 := cell_ext e0
                        by_cases hlt : f < (p : Int)
                        · have HDB := hide (show dblB hd = true by
                            have hm := hal.1 hlt
                            unfold dblB
                            rw [decide_eq_true_iff]
                            rcases Int.lt_or_le (dblI hd 0 hd) 0 with hneg | hpos
                            · have := (dblI_neg hd hd 0 rfl).1 hneg p x (Nat.zero_le _) HX.out
                              rw [hm] at this; cases this
                            · exact hpos)
                          clear hal
                          have HX2 := hide (HS5.out.trans (if_pos HDB.out)); clear HS5
                          go_wp2_with fail
                          refine wp_region_ext 10 (by kernel_rfl) (by kernel_rfl) (by kernel_rfl) ?_
                          iterate 10
                            refine wpE_k (by kernel_rfl) (by kernel_rfl) ?_
                            apply Exists.intro
                            refine ⟨fun w1 hw1 => ?_, fun K hK => ?_⟩
                            · go_simp; first | done | rfl | exact sameCall (HAt.out _ ‹_›)
                            go_simp; refine hK _ _ ?_; clear hK K
                          refine wpE_nil ⟨rfl, by kernel_rfl, fun wq hwq => ?_⟩
                          simp only [EndQ]
                          refine wpList_nil ?_
                          have HF := hide (hw3.out.trans hwq); clear hwq b1 e0
                          go_wp2_with fail
                          go_ret
                          exact ⟨ret_int HX2.out.symm, HE.out.trans HF.out⟩
                        · have hnm := hide (show memB (hd.take p) x = false by
                            cases hm : memB (hd.take p) x with
                            | false => rfl
                            | true => exact absurd (hal.2 hm) hlt)
                          clear hal
                          go_wp2_with fail
                          refine wp_region_ext 10 (by kernel_rfl) (by kernel_rfl) (by kernel_rfl) ?_
                          iterate 10
                            refine wpE_k (by kernel_rfl) (by kernel_rfl) ?_
                            apply Exists.intro
                            refine ⟨fun w1 hw1 => ?_, fun K hK => ?_⟩
                            · go_simp; first | done | rfl | exact sameCall (HAt.out _ ‹_›)
                            go_simp; refine hK _ _ ?_; clear hK K
                          refine wpE_nil ⟨rfl, by kernel_rfl, fun wq hwq => ?_⟩
                          simp only [EndQ]
                          refine wpList_nil ?_
                          have HF := hide (hw3.out.trans hwq); clear hwq b1 e0
                          go_wp2_with fail
                          go_roundw
                          case rel =>
                            refine ⟨p + 1, by omega, by go_num, fun j y hj hy => ?_, HF.out⟩
                            rcases Nat.lt_or_ge j p with hjp | hjp
                            · exact hp.out j y hjp hy
                            · obtain rfl : j = p := by omega
                              have h5 := HX.out.symm.trans hy
                              injection h5 with h5
                              rw [← h5]; exact hnm.out
                          case measure => simp [intOf]; omega
                      · have HDB := hide (show dblB hd = false by
                          unfold dblB
                          rw [decide_eq_false_iff_not]
                          have := (dblI_neg hd hd 0 rfl).2 fun j x _ hj => hp.out j x (by have := (List.getElem?_eq_some_iff.1 hj).1; have := hna.out; omega) hj
                          omega)
                        have HS6 := hide (HS5.out.trans (if_neg (by simp [HDB.out]))); clear HS5
                        have b0 := HB.out.ext hw3.out 0 _ rfl
                        have b2 := HB.out.ext hw3.out 2 _ rfl
                        go_wp2_with fail
                        refine (HV.out _ (HE.out.trans hw3.out)).mono ?_
                        rintro e w5 ⟨A5, c5, rfl, hO5, h5⟩
                        have HO5 := hide hO5.lat
                        have E5 := hide (hw3.out.trans h5)
                        clear hO5 h5 b0 b1 b2 HV
                        have hvn : vq.length ≤ 1125899906842624 := hvl.out
                        go_wp2_with fail
                        go_loopw [12] (fun k w' => ∃ r : Nat, r ≤ n ∧ k = .int .i64 r ∧ Hid ((hd.take r).any (fun h => !memB vq h) = false) ∧ w5 = w') (fun k _ => n - (intOf k).toNat)
                        case atStart => exact ⟨0, by omega, rfl, by simp [Hid], rfl⟩
                        case round =>
                          obtain ⟨r, hrn, rfl, hr, rfl⟩ := hrel
                          have b1 := HB.out.ext E5.out 1 _ rfl
                          by_cases h6 : r < n
                          · obtain ⟨b', off', x, rfl, hx, hb3, e0⟩ := (HQ.out.head.ext RS.stab (HE.out.trans E5.out)).str h6
                            have HX := hide hx
                            have HIn := hide (ref_in vq x A5 vq.length c5 w5 HO5.out hvn)
                            have hta := hide (take_any (fun h => !memB vq h) hd r x hx)
                            clear hx
                            cases hm : memB vq x with
                            | false =>
                              have HX2 := hide (HS6.out.trans (if_pos (by rw [HU.out]; exact List.any_eq_true.2 ⟨x, List.mem_of_getElem? HX.out, by simp [hm]⟩))); clear HS6
                              have Hm := hide hm; clear hm
                              go_wp2_with ((with_reducible refine HIn.out.mono ?_); rintro e w1 ⟨rfl, rfl⟩; rw [Hm.out])
                              go_ret
                              exact ⟨ret_int HX2.out.symm, HE.out.trans E5.out⟩
                            | true =>
                              have Hm := hide hm; clear hm
                              go_wp2_with ((with_reducible refine HIn.out.mono ?_); rintro e w1 ⟨rfl, rfl⟩; rw [Hm.out])
                              go_roundw
                              case rel => exact ⟨r + 1, by omega, by go_num, by rw [Hid, hta.out, hr.out, Hm.out]; rfl, trivial⟩
                              case measure => simp [intOf]; omega
                          · have HX2 := hide (HS6.out.trans (if_neg (by
                              rw [HU.out]
                              have := hr.out
                              rw [List.take_of_length_le (by have := hna.out; omega)] at this
                              simp [this]))); clear HS6
                            go_wp2_with fail
                            go_ret
                            exact ⟨ret_int HX2.out.symm, HE.out.trans E5.out⟩
end Go.Proofs.Ytpfjkjmimmklcaa

namespace Go.Proofs.Ytpfjkjmimmklcaa
open Go.RowKit

/-- an element reads as itself -/
def valElem : Value → Option (DataW Value × List MemPlace) := fun v => some (.held v, [])
def skey (x : ByteArray) : Lit := .string x.data.toList
theorem skey_inj {x y : ByteArray} (h : skey x = skey y) : x = y := by
  unfold skey at h
  injection h with h
  obtain ⟨x⟩ := x; obtain ⟨y⟩ := y
  exact congrArg ByteArray.mk (Array.toList_inj.1 h)
theorem skey_lit (x : ByteArray) : WideAt.IsKeyLit (skey x) := by unfold skey WideAt.IsKeyLit; trivial
theorem skeyed : Maps.Keyed Try.prog 9 := Maps.string_keyed Try.underlying9
theorem skey_of {x : ByteArray} (h : x.size ≤ maxLen) : keyOf Try.prog 9 (.string x) = some (skey x) := WideMaps.keyOf_string_mk Try.underlying9 h

abbrev SMap : Type := ByteArray → Option Value
def SMap.put (σ : SMap) (x : ByteArray) (v : Value) : SMap := fun y => if y = x then some v else σ y
def SMap.del (σ : SMap) (x : ByteArray) : SMap := fun y => if y = x then none else σ y

/-- block b is a map of at most n entries: σ -/
def MapS (w : World) (b n : Nat) (σ : SMap) : Prop :=
  ∃ D : DataW Value, w.ownsMap Try.prog 9 valElem b n D ∧ ∀ x, Maps.has D (skey x) = (σ x).isSome ∧ ∀ v, σ x = some v → ∀ z, D.atKey (skey x) z = .held v
theorem MapS.made (w : World) : MapS (w.alloc (.map #[] 0)) w.heap.size 0 (fun _ => none) :=
  ⟨_, World.ownsMap_made w _ _ _, fun x => ⟨rfl, fun v h => by cases h⟩⟩
theorem MapS.mono {w : World} {b n n' : Nat} {σ : SMap} (h : MapS w b n σ) (hn : n ≤ n') : MapS w b n' σ := by
  obtain ⟨D, h1, h2⟩ := h
  exact ⟨D, h1.mono hn, h2⟩
theorem MapS.block {w w' : World} {b n : Nat} {σ : SMap} (h : MapS w b n σ) (hb : w'.heap[b]? = w.heap[b]?) : MapS w' b n σ := by
  obtain ⟨D, ⟨es, clock, h1, h3⟩, h2⟩ := h
  exact ⟨D, ⟨es, clock, hb.trans h1, h3⟩, h2⟩
theorem MapS.lt {w : World} {b n : Nat} {σ : SMap} (h : MapS w b n σ) : b < w.heap.size := by
  obtain ⟨D, ⟨es, clock, h1, h3⟩, h2⟩ := h
  rcases Nat.lt_or_ge b w.heap.size with hlt | hge
  · exact hlt
  · rw [Array.getElem?_eq_none hge] at h1; cases h1
theorem MapS.ext {w w' : World} {b n : Nat} {σ : SMap} (h : MapS w b n σ) (hw : Ext w w') : MapS w' b n σ := h.block (hw.block h.lt)
theorem MapS.setCell {w : World} {b n : Nat} {σ : SMap} (h : MapS w b n σ) {p : Addr} (hp : b ≠ p.block) (u : Value) : MapS (w.setCell p u) b n σ := h.block (Below.heap_setCell _ _ _ _ hp)
/-- a map's block is no row of cells -/
theorem MapS.ne_blk {w : World} {b n g : Nat} {σ : SMap} {t : TypeId} {cs : Array Value} (h : MapS w b n σ) (hb : Blk w g t cs) : b ≠ g := fun e => by
  subst e
  obtain ⟨D, ⟨es, clock, h1, h3⟩, h2⟩ := h
  unfold Blk at hb
  rw [h1] at hb
  cases hb
theorem MapS.ne_own {w : World} {b n base m size : Nat} {σ : SMap} {e : TypeId} {v : Value} {xs : List Value} (h : MapS w b n σ) (ho : w.ownsRow base e size v m xs) : some b ≠ v.ownBlock := by
  rcases ho.2 with ⟨rfl, _⟩ | ⟨g', cap, cur, rfl, _, hh, _⟩
  · simp [Value.ownBlock]
  · intro he
    have he' : b = g' := by simpa [Value.ownBlock] using he
    subst he'
    obtain ⟨D, ⟨es, clock, h1, h3⟩, h2⟩ := h
    rw [h1] at hh
    cases hh
theorem MapS.cell_ne {w : World} {b n : Nat} {σ : SMap} {p : Addr} {u : Value} (h : MapS w b n σ) (hp : w.cell? p = some u) : p.block ≠ b := fun e => by
  obtain ⟨D, ⟨es, clock, h1, h3⟩, h2⟩ := h
  rw [← e] at h1
  unfold World.cell? at hp
  rw [h1] at hp
  cases hs : p.spot <;> simp at hp

theorem turned_block {w w' : World} {b k : Nat} (h : w.mapTurned w' b) (hk : k ≠ b) : w'.heap[k]? = w.heap[k]? := by
  obtain ⟨es, clock, es', clock', hb, rfl⟩ := h
  exact ChangeMaps.heap_setBlock_other hb _ hk
theorem turned_ext {w0 w w' : World} {b : Nat} (h : Ext w0 w) (ht : w.mapTurned w' b) (hb : w0.heap.size ≤ b) : Ext w0 w' :=
  Below.grown h ht.grown h.size (fun k hk => by cases hk; exact hb)
theorem turned_cell {w w' : World} {b : Nat} (h : w.mapTurned w' b) {p : Addr} {v : Value} (hp : w.cell? p = some v) (hb : p.block ≠ b) : w'.cell? p = some v :=
  (World.cell?_of_block (turned_block h hb)).trans hp
theorem turned_blk {w w' : World} {b g : Nat} {t : TypeId} {cs : Array Value} (h : w.mapTurned w' b) (hg : Blk w g t cs) (hb : g ≠ b) : Blk w' g t cs := (turned_block h hb).trans hg

section
variable {w : World} {ops : Array Oper} {rest : List Oper} {o : Oper} {a : Act} {Q : Exit → Act → World → Prop}
theorem wpList_smap_lookup (hg : o.guard = none) (m x : Operand) (t e : TypeId) (hop : o.op = Op.lookup t m x true) (ht : Try.prog.underlying t = some (.map 9 e)) {z : Value} (hz : (zeroValue e).run Try.prog w = .ok z w)
    (b n : Nat) (σ : SMap) (hm : a.eval m = .map (some b)) (hown : MapS w b n σ) (k : ByteArray) (hx : a.eval x = .string k) (hk : k.size ≤ maxLen)
    (hK : ∀ v, v = (σ k).getD z → wpList Try.prog ops Q rest (a.put o.dst (.tuple #[v, .bool (σ k).isSome])) w) : wpList Try.prog ops Q (o :: rest) a w := by
  obtain ⟨D, h1, h2⟩ := hown
  refine wpList_lookup_own_ok w hg m x t hop 9 e skeyed ht valElem hz (.held z) [] rfl b n D hm h1 (.string k) (skey k) hx (skey_of hk) fun v ps hv => ?_
  rw [(h2 k).1]
  refine hK v ?_
  have hv' : DataW.held v = D.atKey (skey k) (.held z) := by simpa [valElem] using congrArg (fun o => o.map Prod.fst) hv
  cases hs : σ k with
  | none =>
    have := Maps.atKey_of_not_has (D := D) (k := skey k) (by rw [(h2 k).1, hs]; rfl) (.held z)
    rw [this] at hv'
    injection hv'
  | some u =>
    rw [(h2 k).2 u hs] at hv'
    injection hv'
theorem wpList_smap_put (hg : o.guard = none) (m x v : Operand) (t e : TypeId) (hop : o.op = Op.mapUpdate t m x v) (ht : Try.prog.underlying t = some (.map 9 e))
    (b n : Nat) (σ : SMap) (hm : a.eval m = .map (some b)) (hown : MapS w b n σ) (hn : n < maxLen) (k : ByteArray) (val : Value) (hx : a.eval x = .string k) (hv : a.eval v = val) (hk : k.size ≤ maxLen)
    (hK : ∀ w', Hid (MapS w' b (n + 1) (σ.put k val)) → Hid (w.mapTurned w' b) → wpList Try.prog ops Q rest (a.put o.dst undef) w') : wpList Try.prog ops Q (o :: rest) a w := by
  obtain ⟨D, h1, h2⟩ := hown
  refine wpList_mapUpdate_in w hg m x v t hop 9 e skeyed ht valElem b n D hm h1 hn (.string k) val (skey k) hx hv (skey_of hk) (.held val) [] rfl fun w' h3 h4 => hK w' ⟨_, h3, fun y => ?_⟩ h4
  by_cases hy : y = k
  · subst hy
    simp only [SMap.put, if_true]
    refine ⟨?_, fun v hv z => ?_⟩
    · rw [Maps.has_put_same h1.isMap (skey_lit y)]; rfl
    · have hv2 : val = v := Option.some.inj hv
      rw [Maps.atKey_put_same h1.isMap (skey_lit y), hv2]
  · have hne : skey y ≠ skey k := fun e => hy (skey_inj e)
    simp only [SMap.put, hy, if_false]
    exact ⟨by rw [Maps.has_put_other hne]; exact (h2 y).1, fun v hv z => by rw [Maps.atKey_put_other hne]; exact (h2 y).2 v hv z⟩
theorem wpList_smap_del (hg : o.guard = none) (m x : Operand) (t e : TypeId) (hop : o.op = Op.call { callee := Callee.builtin Builtin.delete, args := #[m, x], argTypes := #[t, 9] }) (ht : Try.prog.underlying t = some (.map 9 e))
    (b n : Nat) (σ : SMap) (hm : a.eval m = .map (some b)) (hown : MapS w b n σ) (k : ByteArray) (hx : a.eval x = .string k) (hk : k.size ≤ maxLen)
    (hK : ∀ w', Hid (MapS w' b n (σ.del k)) → Hid (w.mapTurned w' b) → wpList Try.prog ops Q rest (a.put o.dst (.tuple #[])) w') : wpList Try.prog ops Q (o :: rest) a w := by
  obtain ⟨D, h1, h2⟩ := hown
  refine wpList_delete_own w hg m x t 9 hop e skeyed ht valElem b n D hm h1 (.string k) (skey k) hx (skey_of hk) fun w' h3 h4 => hK w' ⟨_, h3, fun y => ?_⟩ h4
  by_cases hy : y = k
  · subst hy
    simp only [SMap.del, if_true]
    exact ⟨Maps.has_del_same, fun v hv => by cases hv⟩
  · have hne : skey y ≠ skey k := fun e => hy (skey_inj e)
    simp only [SMap.del, hy, if_false]
    exact ⟨by rw [Maps.has_del_other hne]; exact (h2 y).1, fun v hv z => by rw [Maps.atKey_del_other hne]; exact (h2 y).2 v hv z⟩
end

/-- terms as elements -/
def valS (σ : Env) : SMap := fun x => (σ x).map Tm.val
theorem valS_put (σ : Env) (x : ByteArray) (t : Tm) : valS (σ.put x t) = (valS σ).put x t.val := by
  funext y
  unfold valS Env.put SMap.put
  split <;> rfl
theorem valS_del (σ : Env) (x : ByteArray) : valS (σ.del x) = (valS σ).del x := by
  funext y
  unfold valS Env.del SMap.del
  split <;> rfl
def MapT (w : World) (b n : Nat) (σ : Env) : Prop := MapS w b n (valS σ)
end Go.Proofs.Ytpfjkjmimmklcaa

namespace Go.Proofs.Ytpfjkjmimmklcaa
open Go.RowKit

def stepX (σ : Env) (t u : Tm) : Tm := if noVar t then t else (σ t.v).getD u
def stepS (σ : Env) (t u : Tm) : Env := if noVar t then σ else match σ t.v with | some _ => σ | none => σ.put t.v u
def stepF (σ : Env) (fr : List ByteArray) (t : Tm) : List ByteArray := if noVar t then fr else match σ t.v with | some _ => fr | none => fr ++ [t.v]
theorem stepF_len (σ : Env) (fr : List ByteArray) (t : Tm) : (stepF σ fr t).length ≤ fr.length + 1 := by
  unfold stepF
  split
  · omega
  · split
    · omega
    · simp
/-- so much has been laid; the rest is to come -/
def UGo (σ σi : Env) (ts us : List Tm) (i : Nat) (fr : List ByteArray) : Prop :=
  uponGo σ ts us = ((uponGo σi (ts.drop i) (us.drop i)).1, fr ++ (uponGo σi (ts.drop i) (us.drop i)).2.1, (uponGo σi (ts.drop i) (us.drop i)).2.2)
theorem UGo.start (σ : Env) (ts us : List Tm) : UGo σ σ ts us 0 [] := by simp [UGo]
theorem UGo.step {σ σi : Env} {ts us : List Tm} {i : Nat} {fr : List ByteArray} (h : UGo σ σi ts us i fr) {t u : Tm} (ht : ts[i]? = some t) (hu : us[i]? = some u) (hs : sameT (stepX σi t u) u = true) : UGo σ (stepS σi t u) ts us (i + 1) (stepF σi fr t) := by
  obtain ⟨h1, e1⟩ := List.getElem?_eq_some_iff.1 ht
  obtain ⟨h2, e2⟩ := List.getElem?_eq_some_iff.1 hu
  unfold UGo at h ⊢
  rw [h, List.drop_eq_getElem_cons h1, List.drop_eq_getElem_cons h2, e1, e2]
  simp only [uponGo]
  unfold stepX at hs
  unfold stepS stepF
  by_cases hn : noVar t = true
  · simp only [hn, if_true] at hs ⊢
    simp [hs]
  · simp only [hn, Bool.false_eq_true, if_false] at hs ⊢
    cases hσ : σi t.v with
    | some o =>
      rw [hσ] at hs
      simp only [Option.getD_some] at hs
      simp [hs]
    | none => simp
theorem UGo.stop {σ σi : Env} {ts us : List Tm} {i : Nat} {fr : List ByteArray} (h : UGo σ σi ts us i fr) {t u : Tm} (ht : ts[i]? = some t) (hu : us[i]? = some u) (hs : sameT (stepX σi t u) u = false) : uponGo σ ts us = (stepS σi t u, stepF σi fr t, false) := by
  obtain ⟨h1, e1⟩ := List.getElem?_eq_some_iff.1 ht
  obtain ⟨h2, e2⟩ := List.getElem?_eq_some_iff.1 hu
  unfold UGo at h
  rw [h, List.drop_eq_getElem_cons h1, List.drop_eq_getElem_cons h2, e1, e2]
  simp only [uponGo]
  unfold stepX at hs
  unfold stepS stepF
  by_cases hn : noVar t = true
  · simp only [hn, if_true] at hs ⊢
    simp [hs]
  · simp only [hn, Bool.false_eq_true, if_false] at hs ⊢
    cases hσ : σi t.v with
    | some o =>
      rw [hσ] at hs
      simp only [Option.getD_some] at hs
      simp [hs]
    | none =>
      rw [hσ] at hs
      have : sameT u u = true := sameT_iff.2 rfl
      simp only [Option.getD_none, this] at hs
      cases hs
theorem UGo.done {σ σi : Env} {ts us : List Tm} {i : Nat} {fr : List ByteArray} (h : UGo σ σi ts us i fr) (hi : ts.length ≤ i) : uponGo σ ts us = (σi, fr, true) := by
  unfold UGo at h
  rw [h, List.drop_of_length_le hi]
  simp [uponGo]

/-- what was there stays, but for the map in block g -/
def ExtM (g : Nat) (w w' : World) : Prop := w.grownBy w' (some g)
theorem ExtM.refl (g : Nat) (w : World) : ExtM g w w := ⟨rfl, rfl, rfl, Nat.le_refl _, fun _ _ _ => rfl⟩
theorem ExtM.trans {g : Nat} {a b c : World} (h : ExtM g a b) (k : ExtM g b c) : ExtM g a c :=
  ⟨k.os.trans h.os, k.tape.trans h.tape, k.output.trans h.output, Nat.le_trans h.size k.size, fun j hj hne => (k.block j (Nat.lt_of_lt_of_le hj h.size) hne).trans (h.block j hj hne)⟩
theorem ExtM.of {g : Nat} {w w' : World} (h : Ext w w') : ExtM g w w' := ⟨Below.os h, Below.tape h, Below.output h, h.size, fun _ hk _ => h.block hk⟩
theorem ExtM.toExt {g : Nat} {w0 w w' : World} (h : ExtM g w w') (h0 : Ext w0 w) (hg : w0.heap.size ≤ g) : Ext w0 w' :=
  Below.grown h0 h h0.size (fun k hk => by cases hk; exact hg)
theorem ExtM.turned {g : Nat} {w w' : World} (h : w.mapTurned w' g) : ExtM g w w' := h.grown
theorem ExtM.grown {g : Nat} {a w w' : World} {row : Option Nat} (h : ExtM g a w) (hg : w.grownBy w' row) (hr : ∀ k, row = some k → a.heap.size ≤ k) : ExtM g a w' :=
  ⟨hg.os.trans h.os, hg.tape.trans h.tape, hg.output.trans h.output, Nat.le_trans h.size hg.size, fun j hj hne => (hg.block j (Nat.lt_of_lt_of_le hj h.size) (fun e => by have := hr j e.symm; omega)).trans (h.block j hj hne)⟩
theorem ExtM.setCell {g : Nat} {a w : World} (h : ExtM g a w) {p : Addr} (hp : a.heap.size ≤ p.block) (u : Value) : ExtM g a (w.setCell p u) :=
  h.grown (row := some p.block) ⟨rfl, rfl, rfl, by simp, fun k _ hk => Below.heap_setCell _ _ _ _ (fun e => hk (by rw [e]))⟩ (fun k hk => by injection hk with hk; omega)
theorem ExtM.alloc {g : Nat} {a w : World} (h : ExtM g a w) (o : Obj) : ExtM g a (w.alloc o) := h.trans (.of (Ext.alloc w o))
theorem Blk.set4 {w : World} {g : Nat} {t : TypeId} {cs : Array Value} (h : Blk w g t cs) (hs : cs.size = 4) (a b c d : Value) : Blk ((((w.setCell ⟨g, 0, none⟩ a).setCell ⟨g, 1, none⟩ b).setCell ⟨g, 2, none⟩ c).setCell ⟨g, 3, none⟩ d) g t #[a, b, c, d] := by
  have := (((h.set_ 0 a).set_ 1 b).set_ 2 c).set_ 3 d
  obtain ⟨l⟩ := cs
  match l, hs with
  | [x0, x1, x2, x3], _ => simpa using this
theorem MapS.set4 {w : World} {b n g : Nat} {σ : SMap} (h : MapS w b n σ) (hg : b ≠ g) (u0 u1 u2 u3 : Value) : MapS ((((w.setCell ⟨g, 0, none⟩ u0).setCell ⟨g, 1, none⟩ u1).setCell ⟨g, 2, none⟩ u2).setCell ⟨g, 3, none⟩ u3) b n σ :=
  (((h.setCell (p := ⟨g, 0, none⟩) hg u0).setCell (p := ⟨g, 1, none⟩) hg u1).setCell (p := ⟨g, 2, none⟩) hg u2).setCell (p := ⟨g, 3, none⟩) hg u3
theorem ExtM.set4 {g : Nat} {a w : World} (h : ExtM g a w) {k : Nat} (hk : a.heap.size ≤ k) (u0 u1 u2 u3 : Value) : ExtM g a ((((w.setCell ⟨k, 0, none⟩ u0).setCell ⟨k, 1, none⟩ u1).setCell ⟨k, 2, none⟩ u2).setCell ⟨k, 3, none⟩ u3) :=
  (((h.setCell (p := ⟨k, 0, none⟩) hk u0).setCell (p := ⟨k, 1, none⟩) hk u1).setCell (p := ⟨k, 2, none⟩) hk u2).setCell (p := ⟨k, 3, none⟩) hk u3
theorem own_set4 {w : World} {base g : Nat} {e t : TypeId} {size n : Nat} {v : Value} {xs : List Value} {cs : Array Value} (h : w.ownsRow base e size v n xs) (hb : Blk w g t cs) (hne : e ≠ t) (u0 u1 u2 u3 : Value) :
    ((((w.setCell ⟨g, 0, none⟩ u0).setCell ⟨g, 1, none⟩ u1).setCell ⟨g, 2, none⟩ u2).setCell ⟨g, 3, none⟩ u3).ownsRow base e size v n xs := by
  have h1 := hb.set_ 0 u0
  have h2 := h1.set_ 1 u1
  have h3 := h2.set_ 2 u2
  exact own_set (own_set (own_set (own_set h hb hne 0 u0) h1 hne 1 u1) h2 hne 2 u2) h3 hne 3 u3
theorem own_turned {w w' : World} {b n' base : Nat} {σ : SMap} {e : TypeId} {size n : Nat} {v : Value} {xs : List Value} (h : w.ownsRow base e size v n xs) (hm : MapS w b n' σ) (ht : w.mapTurned w' b) : w'.ownsRow base e size v n xs :=
  h.kept ht.grown (.inr (Ne.symm (hm.ne_own h)))
theorem MapS.grown {w w' : World} {b n base : Nat} {σ : SMap} {e : TypeId} {size m : Nat} {v : Value} {xs : List Value} (h : MapS w b n σ) (ho : w.ownsRow base e size v m xs) (hg : w.grownBy w' v.ownBlock) : MapS w' b n σ :=
  h.block (hg.block b h.lt (h.ne_own ho))
theorem ExtM.cell {g : Nat} {w w' : World} (h : ExtM g w w') {p : Addr} {v : Value} (hp : w.cell? p = some v) (hg : p.block ≠ g) : w'.cell? p = some v :=
  World.grownBy.cell h hp (fun e => hg (by injection e))
theorem ExtM.frozen {g : Nat} {w w' : World} (h : ExtM g w w') {p : Addr} (hp : p.block < w.heap.size) (hg : p.block ≠ g) : w'.frozen? p = w.frozen? p :=
  World.frozen?_of_block (World.grownBy.block h p.block hp (fun e => hg (by injection e)))
theorem ExtM.blk {g g' : Nat} {w w' : World} (h : ExtM g w w') {t : TypeId} {cs : Array Value} (hb : Blk w g' t cs) (hg : g' ≠ g) : Blk w' g' t cs :=
  (World.grownBy.block h g' hb.lt (fun e => hg (by injection e))).trans hb
theorem ExtM.cells {g g' : Nat} {w w' : World} (h : ExtM g w w') {cs : List Value} (hb : CellsAt w g' cs) (hg : g' ≠ g) : CellsAt w' g' cs := fun i u hu => h.cell (hb i u hu) hg
theorem ExtM.own {g : Nat} {w w' : World} (h : ExtM g w w') {base : Nat} {e : TypeId} {s n : Nat} {v : Value} {xs : List Value} (ho : w.ownsRow base e s v n xs) (hg : some g ≠ v.ownBlock) : w'.ownsRow base e s v n xs :=
  ho.kept h (.inr (Ne.symm hg))
/-- block g is no row of cells -/
def NoRow (w : World) (g : Nat) : Prop := ∀ i, w.cell? ⟨g, i, none⟩ = none
theorem MapS.noRow {w : World} {b n : Nat} {σ : SMap} (h : MapS w b n σ) : NoRow w b := fun i => by
  cases hc : w.cell? ⟨b, i, none⟩ with
  | none => rfl
  | some u => exact absurd rfl (h.cell_ne hc)
theorem ExtM.sl {g : Nat} {w w' : World} (h : ExtM g w w') (hg : NoRow w g) {A : Option Addr} {n size : Nat} {xs : List Value} (hs : Sl w A n size xs) : Sl w' A n size xs := by
  refine ⟨hs.1, fun hn => ?_⟩
  obtain ⟨b, off, hA, hc⟩ := hs.2 hn
  refine ⟨b, off, hA, fun j u hu => h.cell (hc j u hu) (fun e => ?_)⟩
  have h1 := hc j u hu
  simp only at e
  rw [e, hg] at h1
  cases h1
theorem ExtM.flat {α : Type} {f : α → List Value} {s g : Nat} {w w' : World} (h : ExtM g w w') (hg : NoRow w g) {A : Option Addr} {n : Nat} {xs : List α} (hl : LAt (RFlat f) s w A n xs) : LAt (RFlat f) s w' A n xs := by
  obtain ⟨h1, cells, h2, h3⟩ := hl
  exact ⟨h1, cells, h2.mono fun _ _ h => h, h.sl hg h3⟩
theorem ExtM.tms {g : Nat} {w w' : World} (h : ExtM g w w') (hg : NoRow w g) {A : Option Addr} {n : Nat} {xs : List Tm} (hl : LAt RT 4 w A n xs) : LAt RT 4 w' A n xs := h.flat hg hl
theorem ExtM.strs {g : Nat} {w w' : World} (h : ExtM g w w') (hg : NoRow w g) {A : Option Addr} {n : Nat} {xs : List ByteArray} (hl : LAt RS 1 w A n xs) : LAt RS 1 w' A n xs := h.flat hg hl
theorem ExtM.atms {g : Nat} {w w' : World} (h : ExtM g w w') (hg : NoRow w g) {A : Option Addr} {n : Nat} {xs : List Atm} (hl : LAt RA 2 w A n xs) : LAt RA 2 w' A n xs := by
  obtain ⟨h1, cells, h2, h3⟩ := hl
  exact ⟨h1, cells, h2.mono fun cs a ⟨A, n, c, e, ha⟩ => ⟨A, n, c, e, h.tms hg ha⟩, h.sl hg h3⟩
theorem ExtM.query {g : Nat} {w w' : World} (h : ExtM g w w') (hg : NoRow w g) {L : QLoc} {q : Qy} (hq : QAt w L q) : QAt w' L q := ⟨h.strs hg hq.head, h.atms hg hq.atoms, hq.cap⟩

section
variable {P : Program}
theorem wpList_append_m {w : World} {ops : Array Oper} {rest : List Oper} {o : Oper} {a : Act} {Q : Exit → Act → World → Prop} (hgd : o.guard = none) (s x : Operand) (t : TypeId)
    (ho : o.op = .call { callee := .builtin .append, args := #[s, x], argTypes := #[t, t] })
    (e : TypeId) (i : TypeInfo) (z : Value) (size bytes : Nat) (ht : P.underlying t = some (.slice e)) (hi : P.info? e = some i) (hz : i.zero = some z)
    (hsize : i.size = size) (hby : i.bytes = bytes) (hzs : z.cells.size = size) (hsz : 0 < size) (base : Nat) (hbase : base ≤ w.heap.size)
    (v : Value) (n : Nat) (xs : List Value) (hs : a.eval s = v) (hown : w.ownsRow base e size v n xs)
    (A : Option Addr) (m c : Nat) (news : List Value) (hx : a.eval x = .slice A m c) (hr : Sl w A m size news) (h1 : OneCells news)
    (h63 : n + m ≤ maxLen) (hbytes : (n + m) * bytes ≤ 140737488355328)
    (h : ∀ A' c' w', Hid (w'.ownsRow base e size (.slice A' (n + m) c') (n + m) (xs ++ news)) → Hid (w.grownBy w' v.ownBlock) → Hid ((Value.slice A' (n + m) c').ownBlock = v.ownBlock ∨ (Value.slice A' (n + m) c').ownBlock = some w.heap.size) → wpList P ops Q rest (a.put o.dst (.slice A' (n + m) c')) w') : wpList P ops Q (o :: rest) a w := by
  refine wpList_plain hgd fun K hK => ?_
  obtain ⟨v', w', hrun, h2, h3, h4⟩ := run_append_sl (P := P) w base t o.type e i z size bytes ht hi hz hsize hby hzs hsz v n xs hown A m c news hr h1 h63 hbytes hbase
  have hv : ∃ A' c', v' = .slice A' (n + m) c' := by
    rcases h2.2 with ⟨h5, h6⟩ | ⟨g, cap, cur, h5, _⟩
    · exact ⟨none, 0, by rw [h5, h6]⟩
    · exact ⟨_, _, h5⟩
  obtain ⟨A', c', rfl⟩ := hv
  unfold Oper.wp execOp
  simp only [ho, resolve, invoke, builtin, Sem.run_bind, Sem.run_pure, Result.andThen_ok, List.map_toArray, List.map_cons, List.map_nil, hs, hx, hrun]
  exact hK _ _ (h A' c' w' h2 h3 h4)
end
end Go.Proofs.Ytpfjkjmimmklcaa

namespace Go.Proofs.Ytpfjkjmimmklcaa
open Go.RowKit

/-- what upon leaves -/
def RetU (w0 : World) (g k : Nat) (r : Env × List ByteArray × Bool) (en : Ending) (w' : World) : Prop :=
  ∃ A c, en = .returned (.tuple #[.slice A r.2.1.length c, .bool r.2.2]) ∧ OwnS w0 w' A r.2.1.length c r.2.1 ∧ MapT w' g k r.1 ∧ ExtM g w0 w'

structure UInv (W w : World) (g k : Nat) (σ : Env) (ts us : List Tm) (i : Nat) (σi : Env) (fr : List ByteArray) (A : Option Addr) (c : Nat) : Prop where
  go : UGo σ σi ts us i fr
  map : MapT w g (k + i) σi
  own : w.ownsRow W.heap.size 9 1 (.slice A fr.length c) fr.length (strC fr)
  ext : ExtM g W w
structure UMid (W wx : World) (s10 g k : Nat) (x : Tm) (σ' : Env) (fr : List ByteArray) (A : Option Addr) (c : Nat) : Prop where
  x : Blk wx s10 60 #[.string x.v, .int .i64 x.c.k, .int .i64 x.c.i, .string x.c.t]
  map : MapT wx g k σ'
  own : wx.ownsRow W.heap.size 9 1 (.slice A fr.length c) fr.length (strC fr)
  ext : ExtM g W wx
theorem zeroT (w : World) : (zeroValue 60).run Try.prog w = .ok (.agg #[.string ⟨#[]⟩, .int .i64 0, .int .i64 0, .string ⟨#[]⟩]) w := by kernel_rfl

set_option maxHeartbeats 4000000 in
set_option maxRecDepth 100000 in
theorem upon_any (a b : Atm) (σ : Env) (g k : Nat) (A B : Option Addr) (n m c d : Nat) (w : World) (ha : LAt RT 4 w A n a.terms) (hb : LAt RT 4 w B m b.terms) (hm : MapT w g k σ) (hMa : smallA 1048576 a) (hk : k ≤ 1125899906842624) :
    Calls Try.prog 94 #[.agg #[.string a.rel, .slice A n c], .agg #[.string b.rel, .slice B m d], .map (some g)] w (RetU w g (k + n) (uponP σ a b)) := by
  obtain ⟨i0, hi0, hz0, hz1, hz2⟩ := info_parts infoS
  obtain ⟨ra, ta⟩ := a
  obtain ⟨rb, tb⟩ := b
  dsimp only at *
  have hnl : n ≤ 1048576 := by have := ha.len; have := hMa.len; simp only at *; omega
  have Ha := hide ha; have Hb := hide hb; have Hm := hide hm; have HMa := hide hMa
  have hgl := hm.lt
  have hnr := hide hm.noRow
  clear ha hb hm hMa
  generalize hW2 : (w.alloc (.cells #[.string ra, .slice A n c] 40)).alloc (.cells #[.string rb, .slice B m d] 40) = W2
  have hs2 : W2.heap.size = w.heap.size + 1 + 1 := by rw [← hW2]; simp
  have HE := hide (show Ext w W2 from hW2 ▸ (Ext.alloc w (.cells #[.string ra, .slice A n c] 40)).alloc' (.cells #[.string rb, .slice B m d] 40))
  have HB0 := hide (show CellsAt W2 w.heap.size [.string ra, .slice A n c] from hW2 ▸ (CellsAt.new w [.string ra, .slice A n c] 40 (0, 0)).ext (Ext.alloc _ _))
  have HB1 := hide (show CellsAt W2 (w.heap.size + 1) [.string rb, .slice B m d] from by
    have := CellsAt.new (w.alloc (.cells #[.string ra, .slice A n c] 40)) [.string rb, .slice B m d] 40 (0, 0)
    rw [World.size_alloc] at this
    rw [← hW2]; exact this)
  have HS2 := hide hs2
  have HW2 := hide hW2; clear hW2 hs2
  by_cases hr : ra = rb
  · subst hr
    by_cases hl : n = m
    · subst hl
      have hup := hide (show uponP σ ⟨ra, ta⟩ ⟨ra, tb⟩ = uponGo σ ta tb by rw [uponP, if_pos ⟨rfl, by have := Ha.out.len; have := Hb.out.len; simp only; omega⟩])
      have hla := hide Ha.out.len
      have hne : ((n : Int) != (n : Int)) = false := by simp
      have HU := hide (show UInv W2 W2 g k σ ta tb 0 σ [] none 0 from UInv.mk (UGo.start _ _ _) (Hm.out.ext HE.out) (World.ownsRow_nil _ _ _ _) (ExtM.refl _ _))
      go_enter Try.func94, Try.ntmps94
      go_wp2_with fail
      rw [HW2.out]
      go_loopw [6, 8, 9, 10, 11, 12, 30] (fun s6 _ _ _ _ _ s30 w' => ∃ (i : Nat) (A' : Option Addr) (c' : Nat) (σi : Env) (fr : List ByteArray), i ≤ n ∧ s30 = .int .i64 i ∧ s6 = .slice A' fr.length c' ∧ fr.length ≤ i ∧ Hid (UInv W2 w' g k σ ta tb i σi fr A' c')) (fun _ _ _ _ _ _ s30 _ => n - (intOf s30).toNat)
      case atStart => exact ⟨0, none, 0, σ, [], by omega, rfl, rfl, by simp, HU.out⟩
      case round =>
        obtain ⟨i, A', c', σi, fr, him, rfl, rfl, hfl, hI⟩ := hrel
        have hXw : ExtM g w wr := (ExtM.of HE.out).trans hI.out.ext
        by_cases h : i < n
        · obtain ⟨b, off, t, rfl, hx, hb1, c0, c1, c2, c3⟩ := (hXw.tms hnr.out Ha.out).tm h
          obtain ⟨b', off', u, rfl, hy, hb2w, D0, D1, D2, D3⟩ := Hb.out.tm h
          have hbg : b' ≠ g := fun e => by
            have := hnr.out (off' + i * 4)
            rw [← e, D0] at this
            cases this
          have hb2 : b' < wr.heap.size := Nat.lt_of_lt_of_le hb2w hXw.size
          have d0 := hXw.cell D0 hbg
          have d1 := hXw.cell D1 hbg
          have d2 := hXw.cell D2 hbg
          have d3 := hXw.cell D3 hbg
          have D0 := hide D0; have D1 := hide D1; have D2 := hide D2; have D3 := hide D3
          have e1 := hI.out.ext.cells HB1.out (by omega) 1 _ rfl
          have hws1 : w.heap.size + 1 < wr.heap.size := by have := hI.out.ext.size; have := HS2.out; omega
          have hb2a : b' < wr.heap.size + 1 := by omega
          have hb2b : b' < wr.heap.size + 1 + 1 := by omega
          have hq1 : w.heap.size < wr.heap.size := by omega
          have hq2 : w.heap.size < wr.heap.size + 1 := by omega
          have hq3 : w.heap.size < wr.heap.size + 1 + 1 := by omega
          have HTT := hide (HMa.out.terms t (List.mem_of_getElem? hx))
          have Hx := hide hx; have Hy := hide hy
          have HXw := hide hXw
          clear hx hy hXw
          go_upto_if 38 with fail
          have hmap := hide (hI.out.map)
          have H9 := hide (Blk.new wr 60 #[.string t.v, .int .i64 t.c.k, .int .i64 t.c.i, .string t.c.t])
          have h10 := Blk.new (wr.alloc (.cells #[.string t.v, .int .i64 t.c.k, .int .i64 t.c.i, .string t.c.t] 60)) 60 #[.string t.v, .int .i64 t.c.k, .int .i64 t.c.i, .string t.c.t]
          rw [World.size_alloc] at h10
          have H10 := hide h10; clear h10
          have hE2 := hide ((Ext.alloc wr (.cells #[.string t.v, .int .i64 t.c.k, .int .i64 t.c.i, .string t.c.t] 60)).alloc' (.cells #[.string t.v, .int .i64 t.c.k, .int .i64 t.c.i, .string t.c.t] 60))
          go_cut [6, 38] from 73 (fun s6 _ wx => ∃ A8 c8, s6 = .slice A8 (stepF σi fr t).length c8 ∧ Hid (UMid W2 wx (wr.heap.size + 1) g (k + (i + 1)) (stepX σi t u) (stepS σi t u) (stepF σi fr t) A8 c8))
          case first =>
            by_cases hv : 0 < t.v.size
            · have he := size_some hv
              have Hnv := hide (noVar_false hv); clear hv
              rw [he]
              have hkv : t.v.size ≤ maxLen := by have := HTT.out.1; unfold maxLen; omega
              cases hσ : σi t.v with
              | some o =>
                have hval : valS σi t.v = some (.agg #[.string o.v, .int .i64 o.c.k, .int .i64 o.c.i, .string o.c.t]) := by rw [valS, hσ]; rfl
                have Hσ := hide hσ; clear hσ
                go_wp2_with (at_lookup; refine wpList_smap_lookup rfl _ _ _ 60 rfl Try.underlying150 (zeroT _) g _ (valS σi) rfl (MapS.ext hmap.out hE2.out) t.v rfl hkv ?_; rintro v rfl; rw [hval])
                go_meet
                have h10 := Blk.new (wr.alloc (.cells #[.string t.v, .int .i64 t.c.k, .int .i64 t.c.i, .string t.c.t] 60)) 60 #[.string o.v, .int .i64 o.c.k, .int .i64 o.c.i, .string o.c.t]
                rw [World.size_alloc] at h10
                have hE3 := ((Ext.alloc wr (.cells #[.string t.v, .int .i64 t.c.k, .int .i64 t.c.i, .string t.c.t] 60)).alloc' (.cells #[.string o.v, .int .i64 o.c.k, .int .i64 o.c.i, .string o.c.t] 60)).alloc' (.cells #[.string o.v, .int .i64 o.c.k, .int .i64 o.c.i, .string o.c.t] 60)
                refine ⟨A', c', by rw [stepF, Hnv.out, Hσ.out]; rfl, ?_⟩
                have e1 : stepX σi t u = o := by simp [stepX, Hnv.out, Hσ.out]
                have e2 : stepS σi t u = σi := by simp [stepS, Hnv.out, Hσ.out]
                have e3 : stepF σi fr t = fr := by simp [stepF, Hnv.out, Hσ.out]
                rw [e1, e2, e3]
                exact UMid.mk (h10.ext (Ext.alloc _ _)) (MapS.mono (MapS.ext hmap.out hE3) (by omega)) (own_ext hI.out.own hE3) (hI.out.ext.trans (.of hE3))
              | none =>
                have hval : valS σi t.v = none := by rw [valS, hσ]; rfl
                have Hσ := hide hσ; clear hσ
                have hE3 := hide (((Ext.alloc wr (.cells #[.string t.v, .int .i64 t.c.k, .int .i64 t.c.i, .string t.c.t] 60)).alloc' (.cells #[.string t.v, .int .i64 t.c.k, .int .i64 t.c.i, .string t.c.t] 60)).alloc' (.cells #[.string u.v, .int .i64 u.c.k, .int .i64 u.c.i, .string u.c.t] 60))
                have hB9 := hide (((Blk.new wr 60 #[.string t.v, .int .i64 t.c.k, .int .i64 t.c.i, .string t.c.t]).ext (Ext.alloc _ (.cells #[.string t.v, .int .i64 t.c.k, .int .i64 t.c.i, .string t.c.t] 60))).ext (Ext.alloc _ (.cells #[.string u.v, .int .i64 u.c.k, .int .i64 u.c.i, .string u.c.t] 60)))
                have hB10 := hide (H10.out.ext (Ext.alloc _ (.cells #[.string u.v, .int .i64 u.c.k, .int .i64 u.c.i, .string u.c.t] 60)))
                have hb11 := Blk.new ((wr.alloc (.cells #[.string t.v, .int .i64 t.c.k, .int .i64 t.c.i, .string t.c.t] 60)).alloc (.cells #[.string t.v, .int .i64 t.c.k, .int .i64 t.c.i, .string t.c.t] 60)) 60 #[.string u.v, .int .i64 u.c.k, .int .i64 u.c.i, .string u.c.t]
                rw [World.size_alloc, World.size_alloc] at hb11
                have hB11 := hide hb11; clear hb11
                have hgn : g ≠ wr.heap.size + 1 := by omega
                have hnn1 : wr.heap.size ≠ g := by omega
                have hnn2 : wr.heap.size + 1 ≠ g := by omega
                have hnn3 : wr.heap.size + 1 + 1 ≠ g := by omega
                have hmax : k + i < maxLen := by unfold maxLen; omega
                have Hgn := hide (And.intro hgn (And.intro hnn1 (And.intro hnn2 (And.intro hnn3 hmax)))); clear hgn hnn1 hnn2 hnn3 hmax
                go_wp2_with (first
                  | (at_lookup; refine wpList_smap_lookup rfl _ _ _ 60 rfl Try.underlying150 (zeroT _) g _ (valS σi) rfl (MapS.ext hmap.out hE2.out) t.v rfl hkv ?_; rintro v rfl; rw [hval])
                  | (at_mapUpdate; refine wpList_smap_put rfl _ _ _ _ 60 rfl Try.underlying150 g _ (valS σi) rfl (MapS.ext hmap.out hE3.out) Hgn.out.2.2.2.2 t.v _ rfl rfl hkv ?_; intro w5 hm5 ht5; have b9 := turned_blk ht5.out hB9.out Hgn.out.2.1; have q9 : w5.cell? ⟨wr.heap.size, 0, none⟩ = some (.string t.v) := b9.cell 0; have l5 : wr.heap.size + 1 + 1 < w5.heap.size := (turned_blk ht5.out hB11.out Hgn.out.2.2.2.1).lt; have B9 := hide b9; clear b9)
                  | (at_builtin
                     refine wpList_append_m rfl (.tmp 57) (.tmp 60) _ rfl 9 i0 _ 1 16 Try.underlying22 hi0 hz0 hz1 hz2 rfl (by omega) W2.heap.size (by have := hI.out.ext.size; simp; omega) (.slice A' fr.length c') fr.length (strC fr) rfl ((own_turned (own_ext hI.out.own hE3.out) (MapS.ext hmap.out hE3.out) ht5.out).alloc _) _ 1 1 [.string t.v] rfl (sl_lit w5 [.string t.v] 9 1 1 rfl) (fun v h => by obtain rfl := List.mem_singleton.1 h; rfl) (by unfold maxLen; omega) (by omega) ?_
                     intro A8 c8 w8 own8 G8 L8
                     have ow := ((own_turned (own_ext hI.out.own hE3.out) (MapS.ext hmap.out hE3.out) ht5.out).alloc (.cells #[.string t.v] 9))
                     have b10 := (turned_blk ht5.out hB10.out Hgn.out.2.2.1).ext (Ext.alloc w5 (.cells #[.string t.v] 9))
                     have b10 := b10.grown G8.out (own_ne_blk ow b10 (by decide))
                     have b11 := (turned_blk ht5.out hB11.out Hgn.out.2.2.2.1).ext (Ext.alloc w5 (.cells #[.string t.v] 9))
                     have b11 := b11.grown G8.out (own_ne_blk ow b11 (by decide))
                     have x0 : w8.cell? ⟨wr.heap.size + 1 + 1, 0, none⟩ = some (.string u.v) := b11.cell 0
                     have x1 : w8.cell? ⟨wr.heap.size + 1 + 1, 1, none⟩ = some (.int .i64 u.c.k) := b11.cell 1
                     have x2 : w8.cell? ⟨wr.heap.size + 1 + 1, 2, none⟩ = some (.int .i64 u.c.i) := b11.cell 2
                     have x3 : w8.cell? ⟨wr.heap.size + 1 + 1, 3, none⟩ = some (.string u.c.t) := b11.cell 3
                     have y0 : w8.cell? ⟨wr.heap.size + 1, 0, none⟩ = some (.string t.v) := b10.cell 0
                     have y1 : w8.cell? ⟨wr.heap.size + 1, 1, none⟩ = some (.int .i64 t.c.k) := b10.cell 1
                     have y2 : w8.cell? ⟨wr.heap.size + 1, 2, none⟩ = some (.int .i64 t.c.i) := b10.cell 2
                     have y3 : w8.cell? ⟨wr.heap.size + 1, 3, none⟩ = some (.string t.c.t) := b10.cell 3
                     have z0 := b10.frozen 0
                     have z1 := b10.frozen 1
                     have z2 := b10.frozen 2
                     have z3 := b10.frozen 3
                     have B10 := hide b10
                     have OW := hide ow
                     clear b10 b11 ow))
                go_meet
                have e1 : stepX σi t u = u := by simp [stepX, Hnv.out, Hσ.out]
                have e2 : stepS σi t u = σi.put t.v u := by simp [stepS, Hnv.out, Hσ.out]
                have e3 : stepF σi fr t = fr ++ [t.v] := by simp [stepF, Hnv.out, Hσ.out]
                refine ⟨A8, c8, by rw [e3]; simp, ?_⟩
                rw [e1, e2, e3]
                have m5 : MapT w5 g (k + (i + 1)) (σi.put t.v u) := by
                  unfold MapT
                  rw [valS_put]
                  exact hm5.out
                have m6 := MapS.ext m5 (Ext.alloc w5 (.cells #[.string t.v] 9))
                have m8 := MapS.grown m6 OW.out G8.out
                have x5 : ExtM g W2 w5 := (hI.out.ext.trans (.of hE3.out)).trans (.turned ht5.out)
                have x8 : ExtM g W2 w8 := (x5.alloc (.cells #[.string t.v] 9)).grown G8.out (fun j hj => (OW.out.lt j hj).1)
                have hw2 : W2.heap.size ≤ wr.heap.size + 1 := by have := hI.out.ext.size; omega
                refine UMid.mk (B10.out.set4 rfl _ _ _ _) (MapS.set4 m8 Hgn.out.1 _ _ _ _) ?_ (x8.set4 hw2 _ _ _ _)
                have := own_set4 own8.out B10.out (by decide) (.string u.v) (.int .i64 u.c.k) (.int .i64 u.c.i) (.string u.c.t)
                rw [strC_snoc, List.length_append]
                exact this
            · have he := size_empty (s := t.v) (by omega)
              have he2 : (!t.v.toList.isEmpty) = false := by rw [he]; rfl
              have Hnv := hide (noVar_true (t := t) (by omega)); clear hv
              rw [he2]
              have He := hide he; clear he he2
              go_wp2_with fail
              go_meet
              have e1 : stepX σi t u = t := by simp [stepX, Hnv.out]
              have e2 : stepS σi t u = σi := by simp [stepS, Hnv.out]
              have e3 : stepF σi fr t = fr := by simp [stepF, Hnv.out]
              refine ⟨A', c', by rw [e3], ?_⟩
              rw [e1, e2, e3]
              exact UMid.mk H10.out (MapS.mono (MapS.ext hmap.out hE2.out) (by omega)) (own_ext hI.out.own hE2.out) (hI.out.ext.trans (.of hE2.out))
          case rest =>
            obtain ⟨A8, c8, rfl, hMid⟩ := hcut
            have Hgo := hide hI.out.go
            have hXc : ExtM g w wc := (ExtM.of HE.out).trans hMid.out.ext
            have d0 := hXc.cell D0.out hbg
            have d1 := hXc.cell D1.out hbg
            have d2 := hXc.cell D2.out hbg
            have d3 := hXc.cell D3.out hbg
            have e1 := hMid.out.ext.cells HB1.out (by omega) 1 _ rfl
            have hl8 := stepF_len σi fr t
            have HM2 := hide (fun hs => hI.out.go.step Hx.out Hy.out hs)
            have HM3 := hide (fun hs => hI.out.go.stop Hx.out Hy.out hs)
            generalize hfx : stepF σi fr t = fr2 at *
            generalize hsx : stepS σi t u = σ2 at *
            generalize hxx : stepX σi t u = x at *
            clear hfx hsx hxx
            have x0 : wc.cell? ⟨wr.heap.size + 1, 0, none⟩ = some (.string x.v) := hMid.out.x.cell 0
            have x1 : wc.cell? ⟨wr.heap.size + 1, 1, none⟩ = some (.int .i64 x.c.k) := hMid.out.x.cell 1
            have x2 : wc.cell? ⟨wr.heap.size + 1, 2, none⟩ = some (.int .i64 x.c.i) := hMid.out.x.cell 2
            have x3 : wc.cell? ⟨wr.heap.size + 1, 3, none⟩ = some (.string x.c.t) := hMid.out.x.cell 3
            have hin1 : i < n := h
            go_wp2_with fail
            have d0 := cell_ext d0
            have d1 := cell_ext d1
            have d2 := cell_ext d2
            have d3 := cell_ext d3
            have x0 := cell_ext x0
            have x1 := cell_ext x1
            have x2 := cell_ext x2
            have x3 := cell_ext x3
            have e1 := cell_ext e1
            refine wp_region_ext 7 (by kernel_rfl) (by kernel_rfl) (by kernel_rfl) ?_
            iterate 6
              refine wpE_k (by kernel_rfl) (by kernel_rfl) ?_
              apply Exists.intro
              refine ⟨fun w1 hw1 => ?_, fun K hK => ?_⟩
              · go_simp; first | done | rfl
              go_simp; refine hK _ _ ?_; clear hK K
            clear d0 d1 d2 d3 x0 x1 x2 x3 e1
            refine wpE_k (by kernel_rfl) (by kernel_rfl) ?_
            refine ⟨.bool (!sameT x u), fun w1 hw1 => ?_, fun K hK => ?_⟩
            · go_simp
              unfold sameT sameV
              have ht := toList_iff x.c.t u.c.t
              have hv := toList_iff x.v u.v
              by_cases h0 : x.v = u.v <;> by_cases h1 : x.c.k = u.c.k <;> by_cases h2 : x.c.i = u.c.i <;> by_cases h3 : x.c.t = u.c.t <;> simp [h0, h1, h2, h3, ht, hv]
            go_simp; refine hK _ _ ?_; clear hK K
            refine wpE_nil ⟨rfl, by kernel_rfl, fun wq hwq => ?_⟩
            simp only [EndQ]
            refine wpList_nil ?_
            have HF := hide hwq; clear hwq
            cases he : sameT x u with
            | true =>
              have He := hide he; clear he
              go_wp2_with fail
              go_roundw
              case rel => exact ⟨i + 1, A8, c8, σ2, fr2, by omega, by go_num, rfl, by omega, UInv.mk (HM2.out He.out) (MapS.ext hMid.out.map HF.out) (own_ext hMid.out.own HF.out) (hMid.out.ext.trans (.of HF.out))⟩
              case measure => simp [intOf]; omega
            | false =>
              have He := hide he; clear he
              go_wp2_with fail
              go_ret2
              have hu := hup.out.trans (HM3.out He.out)
              rw [hu]
              have h1 := HE.out.size
              exact ⟨A8, c8, rfl, ⟨rfl, own_base (own_ext hMid.out.own HF.out) h1⟩, MapS.mono (MapS.ext hMid.out.map HF.out) (by omega), (hXc.trans (.of HF.out))⟩
        · have hdn := hide (hI.out.go.done (by have := hla.out; omega))
          go_wp2_with fail
          go_ret2
          have hu := hup.out.trans hdn.out
          rw [hu]
          obtain rfl : i = n := by omega
          exact ⟨A', c', rfl, ⟨rfl, own_base hI.out.own HE.out.size⟩, hI.out.map, hXw⟩
    · have hne : ((n : Int) != (m : Int)) = true := by simp; omega
      have hup := hide (show uponP σ ⟨ra, ta⟩ ⟨ra, tb⟩ = (σ, [], false) by rw [uponP, if_neg (by have := Ha.out.len; have := Hb.out.len; simp only; omega)])
      go_enter Try.func94, Try.ntmps94
      go_wp2_with fail
      rw [HW2.out]
      go_ret2
      rw [hup.out]
      exact ⟨none, 0, rfl, OwnS.nil _ _, MapS.mono (MapS.ext Hm.out HE.out) (by omega), .of HE.out⟩
  · have hup := hide (show uponP σ ⟨ra, ta⟩ ⟨rb, tb⟩ = (σ, [], false) by rw [uponP, if_neg (fun e => hr e.1)])
    have hr2 : (ra.toList == rb.toList) = false := by simpa using fun e => hr ((bytes_toList ra rb).1 e)
    have Hr := hide hr; clear hr
    go_enter Try.func94, Try.ntmps94
    go_wp2_with fail
    rw [HW2.out]
    go_ret2
    rw [hup.out]
    exact ⟨none, 0, rfl, OwnS.nil _ _, MapS.mono (MapS.ext Hm.out HE.out) (by omega), .of HE.out⟩
end Go.Proofs.Ytpfjkjmimmklcaa
