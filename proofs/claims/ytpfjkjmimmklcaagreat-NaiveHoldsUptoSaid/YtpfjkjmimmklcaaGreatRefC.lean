/-
  A query's variables, by the document.
  The shape of a query: the document's.
-/
import Derived.Test.YtpfjkjmimmklcaaGreatRefB
import Derived.Deep.DeepCutAuto
namespace Go.Proofs.YtpfjkjmimmklcaaGreat
open Go.RowKit

set_option maxRecDepth 100000 in
theorem ref_atom_vars (rel : ByteArray) (ts : List Tm) (A : Option Addr) (n c : Nat) (w : World) (hT : LAt RT 4 w A n ts) (hn : n ≤ 1125899906842) :
    Calls Tryz.prog 76 #[.agg #[.string rel, .slice A n c]] w (RetS w (addTs [] ts)) := by
  obtain ⟨i0, hi0, hz0, hz1, hz2⟩ := info_parts infoS
  have HT := hide hT; have HL := hide hT.len
  have HE := hide (Ext.alloc w (.cells #[.string rel, .slice A n c] 52))
  have HC := hide (CellsAt.new w [.string rel, .slice A n c] 52 (0, 0))
  clear hT
  go_enter Tryz.func76, Tryz.ntmps76
  go_wp2
  go_loopw [3, 4] (fun o k w' => ∃ (i : Nat) (A' : Option Addr) (c' : Nat), i ≤ n ∧ k = .int .i64 i ∧ o = .slice A' (addTs [] (ts.take i)).length c' ∧ Hid (OwnS (w.alloc (.cells #[.string rel, .slice A n c] 52)) w' A' (addTs [] (ts.take i)).length c' (addTs [] (ts.take i))) ∧ Hid (Ext (w.alloc (.cells #[.string rel, .slice A n c] 52)) w')) (fun _ k _ => n - (intOf k).toNat)
  case atStart => exact ⟨0, none, 0, by omega, rfl, rfl, OwnS.nil _ _, Ext.refl _⟩
  case round =>
    obtain ⟨i, A', c', him, rfl, rfl, ho, hw⟩ := hrel
    have hbd := addTs_len [] (ts.take i)
    rw [List.length_take] at hbd
    simp only [List.length_nil] at hbd
    have b1 := HC.out.ext hw.out 1 _ rfl
    by_cases h : i < n
    · obtain ⟨b, off, t, rfl, hx, hb1, c0, c1, c2, c3⟩ := (HT.out.ext RT.stab (HE.out.trans hw.out)).tm h
      have hs := hide (addTs_snoc hx [])
      clear hx c1 c2 c3
      generalize hl : addTs [] (ts.take i) = l at *
      have HL2 := hide hl; clear hl
      by_cases hv : 0 < t.v.size
      · have he := size_some hv
        have Hv := hide (noVar_false hv)
        clear hv
        have HCon := hide (ref_in l t.v A' l.length c' wr ho.out.lat (by omega))
        cases hm : memB l t.v with
        | true =>
          have Hm := hide hm; clear hm
          go_wp2_with ((with_reducible refine HCon.out.mono ?_); rintro e w1 ⟨rfl, rfl⟩; rw [Hm.out])
          go_roundw
          case rel => exact ⟨i + 1, A', c', by omega, by go_num, by rw [hs.out, addT, Hv.out, Hm.out]; rfl, by rw [Hid, hs.out, addT, Hv.out, Hm.out]; exact ho.out, hw.out⟩
          case measure => simp [intOf]; omega
        | false =>
          have Hm := hide hm; clear hm
          have Hsrc := hide (sl_lit wr [.string t.v] 9 1 1 rfl)
          have HO := hide ho.out.2
          go_wp2_with (first | ((with_reducible refine HCon.out.mono ?_); rintro e w1 ⟨rfl, rfl⟩; rw [Hm.out]) | (at_builtin; refine wpList_append_sl rfl (.tmp 30) (.tmp 37) _ rfl 9 i0 _ 1 16 Tryz.underlying22 hi0 hz0 hz1 hz2 rfl (by omega) (w.alloc (.cells #[.string rel, .slice (some ⟨b, off, none⟩) n c] 52)) (hw.out.trans (Ext.alloc _ _)) _ l.length (strC l) rfl (HO.out.alloc _) _ 1 1 [.string t.v] rfl Hsrc.out (fun v h => by obtain rfl := List.mem_singleton.1 h; rfl) (by unfold maxLen; omega) (by omega) ?_; intro A8 c8 w8 own8 E8 G8 L8))
          go_roundw
          case rel =>
            refine ⟨i + 1, A8, c8, by omega, by go_num, by rw [hs.out, addT, Hv.out, Hm.out]; simp, by rw [Hid, hs.out, addT, Hv.out, Hm.out]; simp only [Bool.false_eq_true, if_false, List.length_append, List.length_cons, List.length_nil]; exact ⟨by simp, by rw [strC_snoc]; exact own8.out⟩, E8.out⟩
          case measure => simp [intOf]; omega
      · have he := size_empty (s := t.v) (by omega)
        have Hv := hide (noVar_true (t := t) (by omega))
        clear hv
        go_wp2_with fail
        go_roundw
        case rel => exact ⟨i + 1, A', c', by omega, by go_num, by rw [hs.out, addT, Hv.out]; rfl, by rw [Hid, hs.out, addT, Hv.out]; exact ho.out, hw.out⟩
        case measure => simp [intOf]; omega
    · go_wp2_with fail
      go_ret
      have e : ts.take i = ts := List.take_of_length_le (by have := HL.out; omega)
      rw [e] at ho ⊢
      exact ⟨A', c', rfl, ho.out.base HE.out.size, HE.out.trans hw.out⟩

def flatT (as_ : List Atm) (i : Nat) : List Tm := (as_.take i).flatMap (·.terms)
theorem flatT_snoc {as_ : List Atm} {i : Nat} {a : Atm} (h : as_[i]? = some a) : flatT as_ (i + 1) = flatT as_ i ++ a.terms := by
  unfold flatT
  rw [List.take_add_one, h]
  simp
theorem tmC_append (a b : List Tm) : tmC (a ++ b) = tmC a ++ tmC b := by simp [tmC]
theorem OwnT.nil (w0 w : World) : OwnT w0 w none 0 0 [] := ⟨rfl, World.ownsRow_nil w _ _ _⟩

structure VInv (W w : World) (g : Nat) (as_ : List Atm) (i : Nat) (A : Option Addr) (c : Nat) : Prop where
  var : Blk w g 52 #[.string ⟨#[]⟩, .slice A (flatT as_ i).length c]
  own : OwnT W w A (flatT as_ i).length c (flatT as_ i)
  ext : Ext W w

set_option maxRecDepth 100000 in
theorem ref_vars (q : Qy) (L : QLoc) (w : World) (hq : QAt w L q) (hM : smallM 1048576 q) (h6 : L.m ≤ 512) :
    Calls Tryz.prog 50 #[qval q.name L] w (RetS w (varsQ q)) := by
  obtain ⟨i0, hi0, hz0, hz1, hz2⟩ := info_parts infoT
  have hvq := hide (varsQ_flat q)
  generalize hvv : varsQ q = vq at *
  obtain ⟨nm, hd, as_⟩ := q
  obtain ⟨A, n, c, B, m, d⟩ := L
  simp only [qval] at *
  clear hvv
  have hma := hide (show m = as_.length from hq.atoms.len)
  have HQ := hide hq; have HM := hide hM; clear hq hM
  generalize hW2 : (w.alloc (.cells #[.string nm, .slice A n c, .slice B m d] 25)).alloc (.cells #[.string ⟨#[]⟩, .slice none 0 0] 52) = W2
  have hs2 : W2.heap.size = w.heap.size + 1 + 1 := by rw [← hW2]; simp
  generalize hW1 : w.alloc (.cells #[.string nm, .slice A n c, .slice B m d] 25) = W1 at *
  have HE1 := hide (show Ext w W1 from hW1 ▸ Ext.alloc w _)
  have hs1 : W1.heap.size = w.heap.size + 1 := by rw [← hW1]; simp
  have HE12 := hide (show Ext W1 W2 from hW2 ▸ Ext.alloc _ _)
  have HB0 := hide (show CellsAt W1 w.heap.size [.string nm, .slice A n c, .slice B m d] from hW1 ▸ CellsAt.new w [.string nm, .slice A n c, .slice B m d] 25 (0, 0))
  have HB1 := hide (show Blk W2 (w.heap.size + 1) 52 #[.string ⟨#[]⟩, .slice none 0 0] from by
    have := Blk.new W1 52 #[.string ⟨#[]⟩, .slice none 0 0]
    rw [hs1, hW2] at this; exact this)
  have HS2 := hide hs2; have HS1 := hide hs1
  have HW2 := hide hW2; have HW1 := hide hW1; clear hW2 hs2 hW1 hs1
  go_enter Tryz.func50, Tryz.ntmps50
  go_wp2_with fail
  rw [HW1.out, HW2.out]
  have HS := hide (show VInv W1 W2 (w.heap.size + 1) as_ 0 none 0 from VInv.mk HB1.out ⟨rfl, World.ownsRow_nil _ _ _ _⟩ HE12.out)
  go_loopw [4] (fun k w' => ∃ (i : Nat) (A' : Option Addr) (c' : Nat), i ≤ m ∧ k = .int .i64 i ∧ (flatT as_ i).length ≤ i * 1048576 ∧ Hid (VInv W1 w' (w.heap.size + 1) as_ i A' c')) (fun k _ => m - (intOf k).toNat)
  case atStart => exact ⟨0, none, 0, by omega, rfl, by simp [flatT], HS.out⟩
  case round =>
    obtain ⟨i, A', c', him, rfl, hkb, hI⟩ := hrel
    have b2 := HB0.out.ext hI.out.ext 2 _ rfl
    by_cases h : i < m
    · obtain ⟨b, off, a, B1, m1, d1, rfl, hx, hb1, c0, c1, hT⟩ := (HQ.out.atoms.ext RA.stab (HE1.out.trans hI.out.ext)).at_ h
      have hsn := hide (flatT_snoc hx)
      have hm1 : m1 ≤ 1048576 := by have := (HM.out.atoms a (List.mem_of_getElem? hx)).len; have := hT.len; omega
      have hlen := hide hT.len
      have hkl : (flatT as_ (i + 1)).length = (flatT as_ i).length + m1 := by rw [hsn.out, List.length_append, hT.len]
      have HKL := hide hkl
      obtain ⟨cells, hels, hsl⟩ := hT.sl
      have hce : cells = tmC a.terms := hels.flat_eq
      subst hce
      have HSL := hide hsl
      have v1 : wr.cell? ⟨w.heap.size + 1, 1, none⟩ = some (.slice A' (flatT as_ i).length c') := hI.out.var.cell 1
      have v0 : wr.cell? ⟨w.heap.size + 1, 0, none⟩ = some (.string ⟨#[]⟩) := hI.out.var.cell 0
      have hn2 : some (w.heap.size + 1) ≠ (Value.slice A' (flatT as_ i).length c').ownBlock := own_ne_blk hI.out.own.2 hI.out.var (by decide)
      have f1 : wr.frozen? ⟨w.heap.size + 1, 1, none⟩ = false := hI.out.var.frozen 1
      clear hx hT hels hsl hkl c0
      generalize hk : (flatT as_ i).length = k at *
      go_wp2_with fail
      have b2 := cell_ext b2
      have v1 := cell_ext v1
      have c1 := cell_ext c1
      refine wp_region_ext 8 (by kernel_rfl) (by kernel_rfl) (by kernel_rfl) ?_
      iterate 8
        refine wpE_k (by kernel_rfl) (by kernel_rfl) ?_
        apply Exists.intro
        refine ⟨fun w1 hw1 => ?_, fun K hK => ?_⟩
        · go_simp; first | done | rfl
        go_simp; refine hK _ _ ?_; clear hK K
      clear b2 v1 c1
      refine wpE_nil ⟨rfl, by kernel_rfl, fun w1 hw1 => ?_⟩
      simp only [EndQ, List.drop]
      have V1 := hI.out.var.ext hw1
      rw [hk] at V1
      have HW := hide hw1
      have hgb : w.heap.size + 1 < w1.heap.size := V1.lt
      have HV1 := hide V1
      have v1 : w1.cell? ⟨w.heap.size + 1, 1, none⟩ = some (.slice A' k c') := V1.cell 1
      have f1 : w1.frozen? ⟨w.heap.size + 1, 1, none⟩ = false := V1.frozen 1
      have HO := hide (own_ext hI.out.own.2 hw1)
      rw [hk] at HO
      clear hw1 V1 hk
      go_wp2_with (at_builtin; refine wpList_append_sl rfl (.tmp 14) (.tmp 20) _ rfl 65 i0 _ 4 48 Tryz.underlying50 hi0 hz0 hz1 hz2 rfl (by omega) W1 (hI.out.ext.trans HW.out) (.slice A' k c') k (tmC (flatT as_ i)) rfl HO.out B1 m1 d1 (tmC a.terms) rfl (HSL.out.ext HW.out) (tmC_els w a.terms).one (by unfold maxLen; omega) (by omega) ?_; intro A8 c8 w8 own8 E8 G8 L8; have v8 : w8.cell? ⟨w.heap.size + 1, 1, none⟩ = some (.slice A' k c') := G8.out.cell v1 hn2; have f8 : w8.frozen? ⟨w.heap.size + 1, 1, none⟩ = false := (World.frozen?_of_block (a := ⟨w.heap.size + 1, 1, none⟩) (G8.out.block (w.heap.size + 1) hgb hn2)).trans f1)
      go_roundw
      case rel =>
        have hk8 := HKL.out
        refine ⟨i + 1, A8, c8, by omega, by go_num, by rw [hk8, Nat.add_mul]; omega, ?_⟩
        have V8 := HV1.out.grown G8.out hn2
        refine VInv.mk ?_ ⟨rfl, ?_⟩ ?_
        · rw [hk8]
          have := V8.set_ 1 (.slice A8 (k + m1) c8)
          simpa using this
        · rw [hk8, hsn.out, tmC_append]
          exact own_set own8.out V8 (by decide) 1 _
        · exact E8.out.setCell (p := ⟨w.heap.size + 1, 1, none⟩) (by rw [HS1.out]; exact Nat.le_refl _) _
      case measure => simp [intOf]; omega
    · have v1 : wr.cell? ⟨w.heap.size + 1, 1, none⟩ = some (.slice A' (flatT as_ i).length c') := hI.out.var.cell 1
      have v0 : wr.cell? ⟨w.heap.size + 1, 0, none⟩ = some (.string ⟨#[]⟩) := hI.out.var.cell 0
      have HAV := hide (ref_atom_vars ⟨#[]⟩ (flatT as_ i) A' (flatT as_ i).length c' wr hI.out.own.lat (by omega))
      have hfl := hide (show flatT as_ i = as_.flatMap (·.terms) by rw [flatT, List.take_of_length_le (by have := hma.out; omega)])
      go_wp2_with fail
      refine HAV.out.mono ?_
      rintro e w1 ⟨A2, c2, rfl, hO2, h1⟩
      rw [hfl.out, ← hvq.out] at hO2
      have HO2 := hide hO2
      have E1 := hide (HE1.out.trans (hI.out.ext.trans h1))
      have hsz := hide (HE1.out.trans hI.out.ext).size
      clear h1 hO2 v0 v1
      rw [hfl.out, ← hvq.out]
      go_wp2_with fail
      go_ret
      exact ⟨A2, c2, rfl, HO2.out.base hsz.out, E1.out⟩
end Go.Proofs.YtpfjkjmimmklcaaGreat

namespace Go.Proofs.YtpfjkjmimmklcaaGreat
open Go.RowKit

def okT (t : Tm) : Bool := !badT t
def okA (a : Atm) : Bool := a.terms.all okT
theorem okA_bad (as_ : List Atm) : as_.any badA = !as_.all okA := by
  have h : ∀ a, badA a = !okA a := fun a => by
    unfold badA okA okT
    rw [Bool.eq_iff_iff]; simp
  rw [show badA = fun a => !okA a from funext h]
  exact any_not okA as_
theorem okT_var {t : Tm} (h : noVar t = false) : okT t = sameV t.c zeroV := by simp [okT, badT, h]
theorem okT_const {t : Tm} (h : noVar t = true) : okT t = validV t.c := by simp [okT, badT, h]
theorem at_lt {l : List ByteArray} {i : Nat} {x : ByteArray} (h : l[i]? = some x) : firstI (eqB x) l 0 < (i : Int) ↔ memB (l.take i) x = true := by
  have hx : l.any (eqB x) = true := List.any_eq_true.2 ⟨x, List.mem_of_getElem? h, by simp [eqB]⟩
  obtain ⟨k, y, h1, h2, h3, h4⟩ := firstI_some (eqB x) l 0 ((firstI_iff _ _ _).2 hx)
  have hy : y = x := by simpa [eqB] using h3
  subst hy
  rw [h1, memB_iff]
  constructor
  · intro hk
    have hk' : k < i := by omega
    exact List.mem_iff_getElem?.2 ⟨k, by rw [List.getElem?_take, if_pos hk']; exact h2⟩
  · intro hm
    obtain ⟨j, hj⟩ := List.mem_iff_getElem?.1 hm
    rw [List.getElem?_take] at hj
    split at hj
    · rename_i hji
      rcases Nat.lt_or_ge j k with hjk | hjk
      · have := h4 j y hjk hj
        simp [eqB] at this
      · omega
    · cases hj
theorem take_any {α : Type} (p : α → Bool) (xs : List α) (i : Nat) (x : α) (h : xs[i]? = some x) : (xs.take (i + 1)).any p = ((xs.take i).any p || p x) := by
  rw [List.take_add_one, h]; simp

set_option maxHeartbeats 4000000 in
set_option maxRecDepth 100000 in
theorem ref_shape (q : Qy) (L : QLoc) (w : World) (hq : QAt w L q) (hM : smallM 1048576 q) :
    Calls Tryz.prog 22 #[qval q.name L] w fun e w' => e = .returned (.int .i64 (shapeQ q)) ∧ Ext w w' := by
  obtain ⟨nm, hd, as_⟩ := q
  obtain ⟨A, n, c, B, m, d⟩ := L
  simp only [qval] at *
  have hml : m ≤ 1048576 := by have := hM.atomsL; have := hq.atoms.len; simp only at *; omega
  have hnl : n ≤ 1048576 := by have := hM.headL; have := hq.head.len; simp only at *; omega
  have hma := hide (show m = as_.length from hq.atoms.len)
  have hna := hide (show n = hd.length from hq.head.len)
  have HQ := hide hq; have HM := hide hM; clear hq hM
  generalize hW1 : w.alloc (.cells #[.string nm, .slice A n c, .slice B m d] 25) = W1
  have HE := hide (show Ext w W1 from hW1 ▸ Ext.alloc w _)
  have HB := hide (show CellsAt W1 w.heap.size [.string nm, .slice A n c, .slice B m d] from hW1 ▸ CellsAt.new w [.string nm, .slice A n c, .slice B m d] 25 (0, 0))
  have HN := hide (fun w1 => ref_is_name nm w1 HM.out.name)
  have HW1 := hide hW1; clear hW1
  go_enter Tryz.func22, Tryz.ntmps22
  go_wp2_with ((with_reducible refine (HN.out _).mono ?_); rintro e w1 ⟨rfl, rfl⟩)
  rw [HW1.out]
  generalize hnh : (fun i => nameB nm && (hd.take i).all nameB) = nh
  have NH := hide (show ∀ i, nh i = (nameB nm && (hd.take i).all nameB) from fun i => by rw [← hnh])
  clear hnh
  go_loopw [3, 4] (fun b k w' => ∃ i : Nat, i ≤ n ∧ k = .int .i64 i ∧ b = .bool (nh i) ∧ W1 = w') (fun _ k _ => n - (intOf k).toNat)
  case atStart => exact ⟨0, by omega, rfl, by rw [NH.out]; simp, rfl⟩
  case round =>
    obtain ⟨i, hin, rfl, rfl, rfl⟩ := hrel
    have b1 := HB.out 1 _ rfl
    by_cases h : i < n
    · obtain ⟨b, off, x, rfl, hx, hb1, c0⟩ := (HQ.out.head.ext RS.stab HE.out).str h
      have hs := hide (show nh (i + 1) = (nh i && nameB x) by rw [NH.out, NH.out, take_all _ _ _ _ hx, Bool.and_assoc])
      have HNX := hide (fun w1 => ref_is_name x w1 (HM.out.heads x (List.mem_of_getElem? hx)))
      clear hx
      cases hb : nh i
      all_goals
        have Hb := hide hb; clear hb
        go_wp2_with ((with_reducible refine (HNX.out _).mono ?_); rintro e w1 ⟨rfl, rfl⟩)
        go_roundw
        case rel => exact ⟨i + 1, by omega, by go_num, by rw [hs.out, Hb.out]; simp, trivial⟩
        case measure => simp [intOf]; omega
    · have hnf := hide (show nh i = (nameB nm && hd.all nameB) by rw [NH.out, List.take_of_length_le (by have := hna.out; omega)])
      generalize nh i = nf at *
      clear NH
      generalize hA : (fun i => nf && (as_.take i).all nameA) = na
      generalize hV : (fun i => (as_.take i).all okA) = va
      generalize hWd : (fun i => (as_.take i).any wideA) = wa
      have NA := hide (show ∀ i, na i = (nf && (as_.take i).all nameA) from fun i => by rw [← hA])
      have VA := hide (show ∀ i, va i = (as_.take i).all okA from fun i => by rw [← hV])
      have WA := hide (show ∀ i, wa i = (as_.take i).any wideA from fun i => by rw [← hWd])
      clear hA hV hWd
      go_wp2_with fail
      go_loopw [3, 5, 6, 7, 8, 9] (fun b v wd k _ _ w' => ∃ i : Nat, i ≤ m ∧ k = .int .i64 i ∧ b = .bool (na i) ∧ v = .bool (va i) ∧ wd = .bool (wa i) ∧ Hid (Ext W1 w')) (fun _ _ _ k _ _ _ => m - (intOf k).toNat)
      case atStart => exact ⟨0, by omega, rfl, by rw [NA.out]; simp, by rw [VA.out]; simp, by rw [WA.out]; simp, Ext.refl _⟩
      case round =>
        obtain ⟨i, him, rfl, rfl, rfl, rfl, hw⟩ := hrel
        have b2 := HB.out.ext hw.out 2 _ rfl
        by_cases h2 : i < m
        · obtain ⟨b, off, a, B1, m1, d1, rfl, hx, hb1, c0, c1, hT⟩ := (HQ.out.atoms.ext RA.stab (HE.out.trans hw.out)).at_ h2
          have hs1 := hide (show na (i + 1) = ((na i && nameB a.rel) && a.terms.all nameT) by rw [NA.out, NA.out, take_all _ _ _ _ hx, nameA]; simp [Bool.and_assoc])
          have hs2 := hide (show va (i + 1) = (va i && a.terms.all okT) by rw [VA.out, VA.out, take_all _ _ _ _ hx, okA])
          have hs3 := hide (show wa (i + 1) = (wa i || wideA a) by rw [WA.out, WA.out, take_any _ _ _ _ hx])
          have HSA := hide (HM.out.atoms a (List.mem_of_getElem? hx))
          have HNX := hide (fun w1 => ref_is_name a.rel w1 HSA.out.rel)
          have hmt := hide hT.len
          have hm1 : m1 ≤ 1048576 := by have := HSA.out.len; have := hT.len; omega
          have HT := hide hT
          clear hx hT
          generalize hni : na i = ni at *
          generalize hvi : va i = vi at *
          generalize hwi : wa i = wi at *
          go_upto_region 10 with fail
          go_cut [3] from 151 (fun s3 wx => s3 = .bool (ni && nameB a.rel) ∧ wr = wx)
          case first =>
            cases ni
            all_goals
              go_wp2_with ((with_reducible refine (HNX.out _).mono ?_); rintro e w1 ⟨rfl, rfl⟩)
              go_meet
              exact ⟨by simp, rfl⟩
          case rest =>
            obtain ⟨rfl, rfl⟩ := hcut
            go_upto_region 11 with fail
            have hbm : (m1 : Int) = a.terms.length := by have := hmt.out; omega
            have HWA := hide (show decide ((5 : Int) < (m1 : Int)) = wideA a by rw [wideA, Bool.eq_iff_iff]; simp; omega)
            clear hbm
            go_cut [6] from 151 (fun s6 wx => s6 = .bool (wi || wideA a) ∧ wr = wx)
            case first =>
              cases wi
              all_goals
                go_wp2_with fail
                go_meet
                exact ⟨by first | rfl | (rw [← HWA.out]; simp), rfl⟩
            case rest =>
              obtain ⟨rfl, rfl⟩ := hcut
              go_wp2_with fail
              generalize hnj : (fun j => (ni && nameB a.rel) && (a.terms.take j).all nameT) = nj
              generalize hvj : (fun j => vi && (a.terms.take j).all okT) = vj
              have NJ := hide (show ∀ j, nj j = ((ni && nameB a.rel) && (a.terms.take j).all nameT) from fun j => by rw [← hnj])
              have VJ := hide (show ∀ j, vj j = (vi && (a.terms.take j).all okT) from fun j => by rw [← hvj])
              clear hnj hvj
              have C0 := hide c0; have C1 := hide c1
              clear b2 c0 c1
              go_loopw [3, 5, 8, 9] (fun b v k _ w' => ∃ j : Nat, j ≤ m1 ∧ k = .int .i64 j ∧ b = .bool (nj j) ∧ v = .bool (vj j) ∧ Hid (Ext wr w')) (fun _ _ k _ _ => m1 - (intOf k).toNat)
              case atStart => exact ⟨0, by omega, rfl, by rw [NJ.out]; simp, by rw [VJ.out]; simp, Ext.refl _⟩
              case round =>
                obtain ⟨j, hjm, rfl, rfl, rfl, hw2⟩ := hrel
                have b2 := HB.out.ext (hw.out.trans hw2.out) 2 _ rfl
                have c1 := hw2.out.cell C1.out
                by_cases h3 : j < m1
                · obtain ⟨b', off', t, rfl, hx2, hb2, d0, d1_, d2, d3⟩ := (HT.out.ext RT.stab hw2.out).tm h3
                  have hy1 := hide (show nj (j + 1) = (nj j && nameT t) by rw [NJ.out, NJ.out, take_all _ _ _ _ hx2]; simp [Bool.and_assoc])
                  have hy2 := hide (show vj (j + 1) = (vj j && okT t) by rw [VJ.out, VJ.out, take_all _ _ _ _ hx2]; simp [Bool.and_assoc])
                  have HTT := hide (HSA.out.terms t (List.mem_of_getElem? hx2))
                  have HNT := hide (fun w1 => ref_is_name t.v w1 HTT.out.1)
                  have HVV := hide (fun w1 => ref_val_valid t.c w1 HTT.out.2.1)
                  have HE3 := hide (hw2.out.trans (Ext.alloc wr (.cells #[.string t.v, .int .i64 t.c.k, .int .i64 t.c.i, .string t.c.t] 65)))
                  clear hx2
                  simp only [V.val] at HVV
                  by_cases hv : 0 < t.v.size
                  · have he := size_some hv
                    have hn1 := hide (show nj (j + 1) = (nj j && nameB t.v) by rw [hy1.out, nameT, noVar_false hv]; rfl)
                    have hv1 := hide (show vj (j + 1) = (vj j && sameV t.c zeroV) by rw [hy2.out, okT_var (noVar_false hv)])
                    clear hv
                    go_upto_region 17 with fail
                    go_cut [3] from 151 (fun s3 wx => s3 = .bool (nj (j + 1)) ∧ wr.alloc (.cells #[.string t.v, .int .i64 t.c.k, .int .i64 t.c.i, .string t.c.t] 65) = wx)
                    case first =>
                      cases hnj : nj j
                      all_goals
                        have Hnj := hide hnj; clear hnj
                        go_wp2_with ((with_reducible refine (HNT.out _).mono ?_); rintro e w1 ⟨rfl, rfl⟩)
                        go_meet
                        exact ⟨by rw [hn1.out, Hnj.out]; simp, rfl⟩
                    case rest =>
                      obtain ⟨rfl, rfl⟩ := hcut
                      obtain ⟨tv, ck, ci, ct⟩ := t
                      dsimp only at d0 d1_ d2 d3 he HE3 hv1 hn1 ⊢
                      cases hvj : vj j
                      case' false =>
                        have hfin := hide (show vj (j + 1) = false by rw [hv1.out, hvj]; rfl)
                        have Hvj := hide hvj; clear hvj
                        go_wp2_with fail
                        go_roundw
                        case rel => exact ⟨j + 1, by omega, by go_num, rfl, by rw [hfin.out], HE3.out⟩
                        case measure => simp [intOf]; omega
                      case' true =>
                        have hfin0 := hide (show vj (j + 1) = sameV ⟨ck, ci, ct⟩ zeroV by rw [hv1.out, hvj]; rfl)
                        have Hvj := hide hvj; clear hvj
                        have hx0 := hide (empty_iff ct)
                        by_cases k1 : ck = 0
                        · subst k1
                          by_cases k2 : ci = 0
                          · subst k2
                            by_cases k3 : ct.toList = []
                            · have hfin := hide (show vj (j + 1) = true by rw [hfin0.out, hx0.out.1 k3]; rfl)
                              go_wp2_with fail
                              go_roundw
                              case rel => exact ⟨j + 1, by omega, by go_num, rfl, by rw [hfin.out], HE3.out⟩
                              case measure => simp [intOf]; omega
                            · have hfin := hide (show vj (j + 1) = false by rw [hfin0.out]; simp [sameV, zeroV]; exact decide_eq_false (fun e => k3 (hx0.out.2 e)))
                              go_wp2_with fail
                              go_roundw
                              case rel => exact ⟨j + 1, by omega, by go_num, rfl, by rw [hfin.out], HE3.out⟩
                              case measure => simp [intOf]; omega
                          · have hfin := hide (show vj (j + 1) = false by rw [hfin0.out]; simp [sameV, zeroV, k2])
                            go_wp2_with fail
                            go_roundw
                            case rel => exact ⟨j + 1, by omega, by go_num, rfl, by rw [hfin.out], HE3.out⟩
                            case measure => simp [intOf]; omega
                        · have hfin := hide (show vj (j + 1) = false by rw [hfin0.out]; simp [sameV, zeroV, k1])
                          go_wp2_with fail
                          go_roundw
                          case rel => exact ⟨j + 1, by omega, by go_num, rfl, by rw [hfin.out], HE3.out⟩
                          case measure => simp [intOf]; omega
                  · have he := size_empty (s := t.v) (by omega)
                    have hn1 := hide (show nj (j + 1) = nj j by rw [hy1.out, nameT, noVar_true (by omega)]; simp)
                    have hv1 := hide (show vj (j + 1) = (vj j && validV t.c) by rw [hy2.out, okT_const (noVar_true (by omega))])
                    clear hv
                    cases hvj : vj j
                    case' false =>
                      have Hvj := hide hvj; clear hvj
                      go_wp2_with fail
                      have HE4 := HE3
                    case' true =>
                      have Hvj := hide hvj; clear hvj
                      go_wp2_with ((with_reducible refine (HVV.out _).mono ?_); rintro e w1 ⟨rfl, h1⟩; have HE4 := hide (HE3.out.trans h1); clear h1)
                    all_goals
                      go_roundw
                      case rel => exact ⟨j + 1, by omega, by go_num, by rw [hn1.out], by rw [hv1.out, Hvj.out]; simp, HE4.out⟩
                      case measure => simp [intOf]; omega
                · have hz1 := hide (show nj j = na (i + 1) by rw [NJ.out, hs1.out, List.take_of_length_le (by have := hmt.out; omega)])
                  have hz2 := hide (show vj j = va (i + 1) by rw [VJ.out, hs2.out, List.take_of_length_le (by have := hmt.out; omega)])
                  go_wp2_with fail
                  go_roundw
                  case rel => exact ⟨i + 1, by omega, by go_num, by rw [hz1.out], by rw [hz2.out], by rw [hs3.out], hw.out.trans hw2.out⟩
                  case measure => simp [intOf]; omega
        · have e1 : na i = (nf && as_.all nameA) := by rw [NA.out, List.take_of_length_le (by have := hma.out; omega)]
          have e2 : va i = as_.all okA := by rw [VA.out, List.take_of_length_le (by have := hma.out; omega)]
          have e3 : wa i = as_.any wideA := by rw [WA.out, List.take_of_length_le (by have := hma.out; omega)]
          have HS := hide (show shapeQ ⟨nm, hd, as_⟩ = if na i = false then 72 else if va i = false then 21 else if as_.length = 0 ∨ 6 < as_.length then 90 else if wa i = true then 91 else if dblB hd = true then 92 else if unsafeB ⟨nm, hd, as_⟩ = true then 93 else 0 by
            rw [shapeQ, e1, e2, e3, hnf.out, badNameQ, okA_bad]
            simp only [Bool.not_eq_true', Bool.and_assoc])
          clear e1 e2 e3
          cases hn : na i with
          | false =>
            have HX := hide (HS.out.trans (if_pos hn)); clear HS
            go_wp2_with fail
            go_ret
            exact ⟨ret_int HX.out.symm, HE.out.trans hw.out⟩
          | true =>
            have HS2 := hide (HS.out.trans (if_neg (by simp [hn]))); clear HS
            have Hn := hide hn; clear hn
            cases hv : va i with
            | false =>
              have HX := hide (HS2.out.trans (if_pos hv)); clear HS2
              go_wp2_with fail
              go_ret
              exact ⟨ret_int HX.out.symm, HE.out.trans hw.out⟩
            | true =>
              have HS3 := hide (HS2.out.trans (if_neg (by simp [hv]))); clear HS2
              have Hv := hide hv; clear hv
              by_cases hz : m = 0
              · have HX := hide (HS3.out.trans (if_pos (.inl (by have := hma.out; omega)))); clear HS3
                subst hz
                go_wp2_with fail
                go_ret
                exact ⟨ret_int HX.out.symm, HE.out.trans hw.out⟩
              · have hz1 : ¬ (m : Int) < 1 := by omega
                by_cases h6 : 6 < m
                · have HX := hide (HS3.out.trans (if_pos (.inr (by have := hma.out; omega)))); clear HS3
                  have h61 : (6 : Int) < (m : Int) := by omega
                  go_wp2_with fail
                  go_ret
                  exact ⟨ret_int HX.out.symm, HE.out.trans hw.out⟩
                · have HS4 := hide (HS3.out.trans (if_neg (by have := hma.out; omega))); clear HS3
                  have h61 : ¬ (6 : Int) < (m : Int) := by omega
                  cases hwd : wa i with
                  | true =>
                    have HX := hide (HS4.out.trans (if_pos hwd)); clear HS4
                    go_wp2_with fail
                    go_ret
                    exact ⟨ret_int HX.out.symm, HE.out.trans hw.out⟩
                  | false =>
                    have HS5 := hide (HS4.out.trans (if_neg (by simp [hwd]))); clear HS4
                    have Hwd := hide hwd; clear hwd
                    have HV := hide (fun w1 (h1 : Ext w w1) => ref_vars ⟨nm, hd, as_⟩ ⟨A, n, c, B, m, d⟩ w1 (HQ.out.ext h1) HM.out (by simp only; omega))
                    have hvl := hide (varsQ_len ⟨nm, hd, as_⟩ HM.out)
                    have HU := hide (show unsafeB ⟨nm, hd, as_⟩ = hd.any (fun h => !memB (varsQ ⟨nm, hd, as_⟩) h) from rfl)
                    simp only [qval] at HV
                    generalize varsQ ⟨nm, hd, as_⟩ = vq at HV hvl HU
                    go_wp2_with fail
                    go_loopw [10] (fun k w' => ∃ p : Nat, p ≤ n ∧ k = .int .i64 p ∧ Hid (∀ (j : Nat) (x : ByteArray), j < p → hd[j]? = some x → memB (hd.take j) x = false) ∧ Hid (Ext W1 w')) (fun k _ => n - (intOf k).toNat)
                    case atStart => exact ⟨0, by omega, rfl, fun j x hj => by omega, hw.out⟩
                    case round =>
                      obtain ⟨p, hpn, rfl, hp, hw3⟩ := hrel
                      have b1 := HB.out.ext hw3.out 1 _ rfl
                      by_cases h4 : p < n
                      · obtain ⟨b', off', x, rfl, hx, hb3, e0⟩ := (HQ.out.head.ext RS.stab (HE.out.trans hw3.out)).str h4
                        have hal := at_lt hx
                        have HX := hide hx
                        have HAt := hide (fun w1 (h1 : Ext wr w1) => ref_at hd x (some ⟨b', off', none⟩) n c w1 (HQ.out.head.ext RS.stab (HE.out.trans (hw3.out.trans h1))) (by omega))
                        clear hx
                        generalize hf : firstI (eqB x) hd 0 = f at hal HAt
                        clear hf
                        have b1 := cell_ext b1
                        have e0 := cell_ext e0
                        by_cases hlt : f < (p : Int)
                        · have HDB := hide (show dblB hd = true by
                            have hm := hal.1 hlt
                            unfold dblB
                            rw [decide_eq_true_iff]
                            rcases Int.lt_or_le (dblI hd 0 hd) 0 with hneg | hpos
                            · have := (dblI_neg hd hd 0 rfl).1 hneg p x (Nat.zero_le _) HX.out
                              rw [hm] at this; cases this
                            · exact hpos)
                          clear hal
                          have HX2 := hide (HS5.out.trans (if_pos HDB.out)); clear HS5
                          go_wp2_with fail
                          refine wp_region_ext 10 (by kernel_rfl) (by kernel_rfl) (by kernel_rfl) ?_
                          iterate 10
                            refine wpE_k (by kernel_rfl) (by kernel_rfl) ?_
                            apply Exists.intro
                            refine ⟨fun w1 hw1 => ?_, fun K hK => ?_⟩
                            · go_simp; first | done | rfl | exact sameCall (HAt.out _ ‹_›)
                            go_simp; refine hK _ _ ?_; clear hK K
                          refine wpE_nil ⟨rfl, by kernel_rfl, fun wq hwq => ?_⟩
                          simp only [EndQ]
                          refine wpList_nil ?_
                          have HF := hide (hw3.out.trans hwq); clear hwq b1 e0
                          go_wp2_with fail
                          go_ret
                          exact ⟨ret_int HX2.out.symm, HE.out.trans HF.out⟩
                        · have hnm := hide (show memB (hd.take p) x = false by
                            cases hm : memB (hd.take p) x with
                            | false => rfl
                            | true => exact absurd (hal.2 hm) hlt)
                          clear hal
                          go_wp2_with fail
                          refine wp_region_ext 10 (by kernel_rfl) (by kernel_rfl) (by kernel_rfl) ?_
                          iterate 10
                            refine wpE_k (by kernel_rfl) (by kernel_rfl) ?_
                            apply Exists.intro
                            refine ⟨fun w1 hw1 => ?_, fun K hK => ?_⟩
                            · go_simp; first | done | rfl | exact sameCall (HAt.out _ ‹_›)
                            go_simp; refine hK _ _ ?_; clear hK K
                          refine wpE_nil ⟨rfl, by kernel_rfl, fun wq hwq => ?_⟩
                          simp only [EndQ]
                          refine wpList_nil ?_
                          have HF := hide (hw3.out.trans hwq); clear hwq b1 e0
                          go_wp2_with fail
                          go_roundw
                          case rel =>
                            refine ⟨p + 1, by omega, by go_num, fun j y hj hy => ?_, HF.out⟩
                            rcases Nat.lt_or_ge j p with hjp | hjp
                            · exact hp.out j y hjp hy
                            · obtain rfl : j = p := by omega
                              have h5 := HX.out.symm.trans hy
                              injection h5 with h5
                              rw [← h5]; exact hnm.out
                          case measure => simp [intOf]; omega
                      · have HDB := hide (show dblB hd = false by
                          unfold dblB
                          rw [decide_eq_false_iff_not]
                          have := (dblI_neg hd hd 0 rfl).2 fun j x _ hj => hp.out j x (by have := (List.getElem?_eq_some_iff.1 hj).1; have := hna.out; omega) hj
                          omega)
                        have HS6 := hide (HS5.out.trans (if_neg (by simp [HDB.out]))); clear HS5
                        have b0 := HB.out.ext hw3.out 0 _ rfl
                        have b2 := HB.out.ext hw3.out 2 _ rfl
                        go_wp2_with fail
                        refine (HV.out _ (HE.out.trans hw3.out)).mono ?_
                        rintro e w5 ⟨A5, c5, rfl, hO5, h5⟩
                        have HO5 := hide hO5.lat
                        have E5 := hide (hw3.out.trans h5)
                        clear hO5 h5 b0 b1 b2 HV
                        have hvn : vq.length ≤ 1125899906842624 := hvl.out
                        go_wp2_with fail
                        go_loopw [12] (fun k w' => ∃ r : Nat, r ≤ n ∧ k = .int .i64 r ∧ Hid ((hd.take r).any (fun h => !memB vq h) = false) ∧ w5 = w') (fun k _ => n - (intOf k).toNat)
                        case atStart => exact ⟨0, by omega, rfl, by simp [Hid], rfl⟩
                        case round =>
                          obtain ⟨r, hrn, rfl, hr, rfl⟩ := hrel
                          have b1 := HB.out.ext E5.out 1 _ rfl
                          by_cases h6 : r < n
                          · obtain ⟨b', off', x, rfl, hx, hb3, e0⟩ := (HQ.out.head.ext RS.stab (HE.out.trans E5.out)).str h6
                            have HX := hide hx
                            have HIn := hide (ref_in vq x A5 vq.length c5 w5 HO5.out hvn)
                            have hta := hide (take_any (fun h => !memB vq h) hd r x hx)
                            clear hx
                            cases hm : memB vq x with
                            | false =>
                              have HX2 := hide (HS6.out.trans (if_pos (by rw [HU.out]; exact List.any_eq_true.2 ⟨x, List.mem_of_getElem? HX.out, by simp [hm]⟩))); clear HS6
                              have Hm := hide hm; clear hm
                              go_wp2_with ((with_reducible refine HIn.out.mono ?_); rintro e w1 ⟨rfl, rfl⟩; rw [Hm.out])
                              go_ret
                              exact ⟨ret_int HX2.out.symm, HE.out.trans E5.out⟩
                            | true =>
                              have Hm := hide hm; clear hm
                              go_wp2_with ((with_reducible refine HIn.out.mono ?_); rintro e w1 ⟨rfl, rfl⟩; rw [Hm.out])
                              go_roundw
                              case rel => exact ⟨r + 1, by omega, by go_num, by rw [Hid, hta.out, hr.out, Hm.out]; rfl, trivial⟩
                              case measure => simp [intOf]; omega
                          · have HX2 := hide (HS6.out.trans (if_neg (by
                              rw [HU.out]
                              have := hr.out
                              rw [List.take_of_length_le (by have := hna.out; omega)] at this
                              simp [this]))); clear HS6
                            go_wp2_with fail
                            go_ret
                            exact ⟨ret_int HX2.out.symm, HE.out.trans E5.out⟩
end Go.Proofs.YtpfjkjmimmklcaaGreat
