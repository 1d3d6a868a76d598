/-
  A query's variables, by the document.
-/
import Derived.Test.YthjpcnceppmnmaaRef4
namespace Go.Proofs.Ythjpcnceppmnmaa
open Go.RowKit

set_option maxRecDepth 100000 in
theorem ref_atom_vars (rel : ByteArray) (ts : List Tm) (A : Option Addr) (n c : Nat) (w : World) (hT : LAt RT 4 w A n ts) (hn : n ≤ 1125899906842) :
    Calls Try.prog 69 #[.agg #[.string rel, .slice A n c]] w (RetS w (addTs [] ts)) := by
  obtain ⟨i0, hi0, hz0, hz1, hz2⟩ := info_parts infoS
  have HT := hide hT; have HL := hide hT.len
  have HE := hide (Ext.alloc w (.cells #[.string rel, .slice A n c] 43))
  have HC := hide (CellsAt.new w [.string rel, .slice A n c] 43 (0, 0))
  clear hT
  go_enter Try.func69, Try.ntmps69
  go_wp2
  go_loopw [3, 4] (fun o k w' => ∃ (i : Nat) (A' : Option Addr) (c' : Nat), i ≤ n ∧ k = .int .i64 i ∧ o = .slice A' (addTs [] (ts.take i)).length c' ∧ Hid (OwnS (w.alloc (.cells #[.string rel, .slice A n c] 43)) w' A' (addTs [] (ts.take i)).length c' (addTs [] (ts.take i))) ∧ Hid (Ext (w.alloc (.cells #[.string rel, .slice A n c] 43)) w')) (fun _ k _ => n - (intOf k).toNat)
  case atStart => exact ⟨0, none, 0, by omega, rfl, rfl, OwnS.nil _ _, Ext.refl _⟩
  case round =>
    obtain ⟨i, A', c', him, rfl, rfl, ho, hw⟩ := hrel
    have hbd := addTs_len [] (ts.take i)
    rw [List.length_take] at hbd
    simp only [List.length_nil] at hbd
    have b1 := HC.out.ext hw.out 1 _ rfl
    by_cases h : i < n
    · obtain ⟨b, off, t, rfl, hx, hb1, c0, c1, c2, c3⟩ := (HT.out.ext RT.stab (HE.out.trans hw.out)).tm h
      have hs := hide (addTs_snoc hx [])
      clear hx c1 c2 c3
      generalize hl : addTs [] (ts.take i) = l at *
      have HL2 := hide hl; clear hl
      by_cases hv : 0 < t.v.size
      · have he := size_some hv
        have Hv := hide (noVar_false hv)
        clear hv
        have HCon := hide (ref_in l t.v A' l.length c' wr ho.out.lat (by omega))
        cases hm : memB l t.v with
        | true =>
          have Hm := hide hm; clear hm
          go_wp2_with ((refine HCon.out.mono ?_); rintro e w1 ⟨rfl, rfl⟩; rw [Hm.out])
          go_roundw
          case rel => exact ⟨i + 1, A', c', by omega, by go_num, by rw [hs.out, addT, Hv.out, Hm.out]; rfl, by rw [Hid, hs.out, addT, Hv.out, Hm.out]; exact ho.out, hw.out⟩
          case measure => simp [intOf]; omega
        | false =>
          have Hm := hide hm; clear hm
          have Hsrc := hide (sl_lit wr [.string t.v] 9 1 1 rfl)
          have HO := hide ho.out.2
          go_wp2_with (first | ((refine HCon.out.mono ?_); rintro e w1 ⟨rfl, rfl⟩; rw [Hm.out]) | (at_builtin; refine wpList_append_sl rfl (.tmp 30) (.tmp 37) _ rfl 9 i0 _ 1 16 Try.underlying22 hi0 hz0 hz1 hz2 rfl (by omega) (w.alloc (.cells #[.string rel, .slice (some ⟨b, off, none⟩) n c] 43)) (hw.out.trans (Ext.alloc _ _)) _ l.length (strC l) rfl (HO.out.alloc _) _ 1 1 [.string t.v] rfl Hsrc.out (fun v h => by obtain rfl := List.mem_singleton.1 h; rfl) (by unfold maxLen; omega) (by omega) ?_; intro A8 c8 w8 own8 E8 G8 L8))
          go_roundw
          case rel =>
            refine ⟨i + 1, A8, c8, by omega, by go_num, by rw [hs.out, addT, Hv.out, Hm.out]; simp, by rw [Hid, hs.out, addT, Hv.out, Hm.out]; simp only [Bool.false_eq_true, if_false, List.length_append, List.length_cons, List.length_nil]; exact ⟨by simp, by rw [strC_snoc]; exact own8.out⟩, E8.out⟩
          case measure => simp [intOf]; omega
      · have he := size_empty (s := t.v) (by omega)
        have Hv := hide (noVar_true (t := t) (by omega))
        clear hv
        go_wp2_with fail
        go_roundw
        case rel => exact ⟨i + 1, A', c', by omega, by go_num, by rw [hs.out, addT, Hv.out]; rfl, by rw [Hid, hs.out, addT, Hv.out]; exact ho.out, hw.out⟩
        case measure => simp [intOf]; omega
    · go_wp2_with fail
      go_ret
      have e : ts.take i = ts := List.take_of_length_le (by have := HL.out; omega)
      rw [e] at ho ⊢
      exact ⟨A', c', rfl, ho.out.base HE.out.size, HE.out.trans hw.out⟩

def flatT (as_ : List Atm) (i : Nat) : List Tm := (as_.take i).flatMap (·.terms)
theorem flatT_snoc {as_ : List Atm} {i : Nat} {a : Atm} (h : as_[i]? = some a) : flatT as_ (i + 1) = flatT as_ i ++ a.terms := by
  unfold flatT
  rw [List.take_add_one, h]
  simp
theorem tmC_append (a b : List Tm) : tmC (a ++ b) = tmC a ++ tmC b := by simp [tmC]
theorem OwnT.nil (w0 w : World) : OwnT w0 w none 0 0 [] := ⟨rfl, World.ownsRow_nil w _ _ _⟩

structure VInv (W w : World) (g : Nat) (as_ : List Atm) (i : Nat) (A : Option Addr) (c : Nat) : Prop where
  var : Blk w g 43 #[.string ⟨#[]⟩, .slice A (flatT as_ i).length c]
  own : OwnT W w A (flatT as_ i).length c (flatT as_ i)
  ext : Ext W w

set_option maxRecDepth 100000 in
theorem ref_vars (q : Qy) (L : QLoc) (w : World) (hq : QAt w L q) (hM : smallM 1048576 q) (h6 : L.m ≤ 512) :
    Calls Try.prog 45 #[qval q.name L] w (RetS w (varsQ q)) := by
  obtain ⟨i0, hi0, hz0, hz1, hz2⟩ := info_parts infoT
  have hvq := hide (varsQ_flat q)
  generalize hvv : varsQ q = vq at *
  obtain ⟨nm, hd, as_⟩ := q
  obtain ⟨A, n, c, B, m, d⟩ := L
  simp only [qval] at *
  clear hvv
  have hma := hide (show m = as_.length from hq.atoms.len)
  have HQ := hide hq; have HM := hide hM; clear hq hM
  generalize hW2 : (w.alloc (.cells #[.string nm, .slice A n c, .slice B m d] 25)).alloc (.cells #[.string ⟨#[]⟩, .slice none 0 0] 43) = W2
  have hs2 : W2.heap.size = w.heap.size + 1 + 1 := by rw [← hW2]; simp
  generalize hW1 : w.alloc (.cells #[.string nm, .slice A n c, .slice B m d] 25) = W1 at *
  have HE1 := hide (show Ext w W1 from hW1 ▸ Ext.alloc w _)
  have hs1 : W1.heap.size = w.heap.size + 1 := by rw [← hW1]; simp
  have HE12 := hide (show Ext W1 W2 from hW2 ▸ Ext.alloc _ _)
  have HB0 := hide (show CellsAt W1 w.heap.size [.string nm, .slice A n c, .slice B m d] from hW1 ▸ CellsAt.new w [.string nm, .slice A n c, .slice B m d] 25 (0, 0))
  have HB1 := hide (show Blk W2 (w.heap.size + 1) 43 #[.string ⟨#[]⟩, .slice none 0 0] from by
    have := Blk.new W1 43 #[.string ⟨#[]⟩, .slice none 0 0]
    rw [hs1, hW2] at this; exact this)
  have HS2 := hide hs2; have HS1 := hide hs1
  have HW2 := hide hW2; have HW1 := hide hW1; clear hW2 hs2 hW1 hs1
  go_enter Try.func45, Try.ntmps45
  go_wp2_with fail
  rw [HW1.out, HW2.out]
  have HS := hide (show VInv W1 W2 (w.heap.size + 1) as_ 0 none 0 from VInv.mk HB1.out ⟨rfl, World.ownsRow_nil _ _ _ _⟩ HE12.out)
  go_loopw [4] (fun k w' => ∃ (i : Nat) (A' : Option Addr) (c' : Nat), i ≤ m ∧ k = .int .i64 i ∧ (flatT as_ i).length ≤ i * 1048576 ∧ Hid (VInv W1 w' (w.heap.size + 1) as_ i A' c')) (fun k _ => m - (intOf k).toNat)
  case atStart => exact ⟨0, none, 0, by omega, rfl, by simp [flatT], HS.out⟩
  case round =>
    obtain ⟨i, A', c', him, rfl, hkb, hI⟩ := hrel
    have b2 := HB0.out.ext hI.out.ext 2 _ rfl
    by_cases h : i < m
    · obtain ⟨b, off, a, B1, m1, d1, rfl, hx, hb1, c0, c1, hT⟩ := (HQ.out.atoms.ext RA.stab (HE1.out.trans hI.out.ext)).at_ h
      have hsn := hide (flatT_snoc hx)
      have hm1 : m1 ≤ 1048576 := by have := (HM.out.atoms a (List.mem_of_getElem? hx)).len; have := hT.len; omega
      have hlen := hide hT.len
      have hkl : (flatT as_ (i + 1)).length = (flatT as_ i).length + m1 := by rw [hsn.out, List.length_append, hT.len]
      have HKL := hide hkl
      obtain ⟨cells, hels, hsl⟩ := hT.sl
      have hce : cells = tmC a.terms := hels.flat_eq
      subst hce
      have HSL := hide hsl
      have v1 : wr.cell? ⟨w.heap.size + 1, 1, none⟩ = some (.slice A' (flatT as_ i).length c') := hI.out.var.cell 1
      have v0 : wr.cell? ⟨w.heap.size + 1, 0, none⟩ = some (.string ⟨#[]⟩) := hI.out.var.cell 0
      have hn2 : some (w.heap.size + 1) ≠ (Value.slice A' (flatT as_ i).length c').ownBlock := own_ne_blk hI.out.own.2 hI.out.var (by decide)
      have f1 : wr.frozen? ⟨w.heap.size + 1, 1, none⟩ = false := hI.out.var.frozen 1
      clear hx hT hels hsl hkl c0
      generalize hk : (flatT as_ i).length = k at *
      go_wp2_with fail
      have b2 := cell_ext b2
      have v1 := cell_ext v1
      have c1 := cell_ext c1
      refine wp_region_ext 8 (by kernel_rfl) (by kernel_rfl) (by kernel_rfl) ?_
      iterate 8
        refine wpE_k (by kernel_rfl) (by kernel_rfl) ?_
        apply Exists.intro
        refine ⟨fun w1 hw1 => ?_, fun K hK => ?_⟩
        · go_simp; first | done | rfl
        go_simp; refine hK _ _ ?_; clear hK K
      clear b2 v1 c1
      refine wpE_nil ⟨rfl, by kernel_rfl, fun w1 hw1 => ?_⟩
      simp only [EndQ, List.drop]
      have V1 := hI.out.var.ext hw1
      rw [hk] at V1
      have HW := hide hw1
      have hgb : w.heap.size + 1 < w1.heap.size := V1.lt
      have HV1 := hide V1
      have v1 : w1.cell? ⟨w.heap.size + 1, 1, none⟩ = some (.slice A' k c') := V1.cell 1
      have f1 : w1.frozen? ⟨w.heap.size + 1, 1, none⟩ = false := V1.frozen 1
      have HO := hide (own_ext hI.out.own.2 hw1)
      rw [hk] at HO
      clear hw1 V1 hk
      go_wp2_with (at_builtin; refine wpList_append_sl rfl (.tmp 14) (.tmp 20) _ rfl 76 i0 _ 4 48 Try.underlying41 hi0 hz0 hz1 hz2 rfl (by omega) W1 (hI.out.ext.trans HW.out) (.slice A' k c') k (tmC (flatT as_ i)) rfl HO.out B1 m1 d1 (tmC a.terms) rfl (HSL.out.ext HW.out) (tmC_els w a.terms).one (by unfold maxLen; omega) (by omega) ?_; intro A8 c8 w8 own8 E8 G8 L8; have v8 : w8.cell? ⟨w.heap.size + 1, 1, none⟩ = some (.slice A' k c') := G8.out.cell v1 hn2; have f8 : w8.frozen? ⟨w.heap.size + 1, 1, none⟩ = false := (World.frozen?_of_block (a := ⟨w.heap.size + 1, 1, none⟩) (G8.out.block (w.heap.size + 1) hgb hn2)).trans f1)
      go_roundw
      case rel =>
        have hk8 := HKL.out
        refine ⟨i + 1, A8, c8, by omega, by go_num, by rw [hk8, Nat.add_mul]; omega, ?_⟩
        have V8 := HV1.out.grown G8.out hn2
        refine VInv.mk ?_ ⟨rfl, ?_⟩ ?_
        · rw [hk8]
          have := V8.set_ 1 (.slice A8 (k + m1) c8)
          simpa using this
        · rw [hk8, hsn.out, tmC_append]
          exact own_set own8.out V8 (by decide) 1 _
        · exact E8.out.setCell (p := ⟨w.heap.size + 1, 1, none⟩) (by rw [HS1.out]; exact Nat.le_refl _) _
      case measure => simp [intOf]; omega
    · have v1 : wr.cell? ⟨w.heap.size + 1, 1, none⟩ = some (.slice A' (flatT as_ i).length c') := hI.out.var.cell 1
      have v0 : wr.cell? ⟨w.heap.size + 1, 0, none⟩ = some (.string ⟨#[]⟩) := hI.out.var.cell 0
      have HAV := hide (ref_atom_vars ⟨#[]⟩ (flatT as_ i) A' (flatT as_ i).length c' wr hI.out.own.lat (by omega))
      have hfl := hide (show flatT as_ i = as_.flatMap (·.terms) by rw [flatT, List.take_of_length_le (by have := hma.out; omega)])
      go_wp2_with fail
      refine HAV.out.mono ?_
      rintro e w1 ⟨A2, c2, rfl, hO2, h1⟩
      rw [hfl.out, ← hvq.out] at hO2
      have HO2 := hide hO2
      have E1 := hide (HE1.out.trans (hI.out.ext.trans h1))
      have hsz := hide (HE1.out.trans hI.out.ext).size
      clear h1 hO2 v0 v1
      rw [hfl.out, ← hvq.out]
      go_wp2_with fail
      go_ret
      exact ⟨A2, c2, rfl, HO2.out.base hsz.out, E1.out⟩
end Go.Proofs.Ythjpcnceppmnmaa
