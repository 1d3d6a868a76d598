/-
  NaiveOne: the walk.
-/
import Derived.Test.YtpfjkjmimmklcaaNaiTurnP
import Derived.Test.YtpfjkjmimmklcaaNaiAll
import Derived.Test.YtpfjkjmimmklcaaNaiA
import Derived.Test.YtpfjkjmimmklcaaNaiK
import Derived.Test.YtpfjkjmimmklcaaNaiQ
import Derived.Test.YtpfjkjmimmklcaaRefCmp
namespace Go.Proofs.Ytpfjkjmimmklcaa
open Go.RowKit

/-- a query of one atom, in memory that was made for it -/
structure OneM (base : Nat) (w : World) (A : Option Addr) (n c gA gT : Nat) (a : Atm) : Prop where
  len : n = (varsA a).length
  head : w.ownsRow base 9 1 (.slice A n c) n (strC (varsA a))
  atom : Blk w gA 40 #[.string a.rel, .slice (some ⟨gT, 0, none⟩) a.terms.length a.terms.length]
  terms : Blk w gT 60 (tmC a.terms).toArray
theorem OneM.ext {b : Nat} {w w' : World} {A : Option Addr} {n c gA gT : Nat} {a : Atm} (h : OneM b w A n c gA gT a) (hw : Ext w w') : OneM b w' A n c gA gT a := ⟨h.len, mine_ext h.head hw, h.atom.ext hw, h.terms.ext hw⟩
theorem OneM.set {b g : Nat} {w : World} {A : Option Addr} {n c gA gT : Nat} {a : Atm} {cs : Array Value} (h : OneM b w A n c gA gT a) (hb : Blk w g 25 cs) (i : Nat) (u : Value) : OneM b (w.setCell ⟨g, i, none⟩ u) A n c gA gT a :=
  ⟨h.len, own_set h.head hb (by decide) i u, h.atom.far (blk_ne h.atom hb (by decide)) u, h.terms.far (blk_ne h.terms hb (by decide)) u⟩
theorem OneM.set3 {b g : Nat} {w : World} {A : Option Addr} {n c gA gT : Nat} {a : Atm} {cs : Array Value} (h : OneM b w A n c gA gT a) (hb : Blk w g 25 cs) (x0 x1 x2 : Value) : OneM b (((w.setCell ⟨g, 0, none⟩ x0).setCell ⟨g, 1, none⟩ x1).setCell ⟨g, 2, none⟩ x2) A n c gA gT a :=
  ((h.set hb 0 x0).set (hb.set_ 0 x0) 1 x1).set ((hb.set_ 0 x0).set_ 1 x1) 2 x2
theorem OneM.qat {b : Nat} {w : World} {A : Option Addr} {n c gA gT : Nat} {a : Atm} (h : OneM b w A n c gA gT a) (hc : n ≤ c) : QAt w ⟨A, n, c, some ⟨gA, 0, none⟩, 1, 1⟩ (oneQ a) := by
  refine ⟨LAt.own h.len (strC_els w (varsA a)) h.head, ⟨rfl, _, Els.single (x := a) rfl ?_ ⟨_, _, _, rfl, blk_terms h.terms⟩, h.atom.sl (n := 1) (size := 2) rfl⟩, hc⟩
  intro v hv
  simp only [List.mem_cons, List.not_mem_nil, or_false] at hv
  rcases hv with rfl | rfl <;> rfl
theorem own_cap {w : World} {b n c s : Nat} {e : TypeId} {A : Option Addr} {xs : List Value} (h : w.ownsRow b e s (.slice A n c) n xs) : n ≤ c := by
  rcases h.2 with ⟨e1, h3⟩ | ⟨g, cap, cur, he, -, -, hn, -⟩
  · omega
  · injection he with e1 e2 e3
    omega
/-- a variable that was made: nothing in it yet -/
def VarO (w0 : World) : Value → World → Prop := fun u w => ∃ g, u = .pointer (some ⟨g, 0, none⟩) ∧ w0.heap.size ≤ g ∧ Blk w g 25 #[.string .empty, .slice none 0 0, .slice none 0 0]
theorem VarO.ext {w0 : World} {u : Value} {w w' : World} (hw : Ext w w') (h : VarO w0 u w) : VarO w0 u w' := by
  obtain ⟨g, h1, h2, h3⟩ := h
  exact ⟨g, h1, h2, h3.ext hw⟩
theorem blk_put3 {w : World} {g : Nat} {t : TypeId} {c0 c1 c2 : Value} (h : Blk w g t #[c0, c1, c2]) (x0 x1 x2 : Value) : Blk (((w.setCell ⟨g, 0, none⟩ x0).setCell ⟨g, 1, none⟩ x1).setCell ⟨g, 2, none⟩ x2) g t #[x0, x1, x2] := by
  have := ((h.set_ 0 x0).set_ 1 x1).set_ 2 x2
  simpa using this
theorem ext_put3 {a w : World} (h : Ext a w) {g : Nat} (hg : a.heap.size ≤ g) (x0 x1 x2 : Value) : Ext a (((w.setCell ⟨g, 0, none⟩ x0).setCell ⟨g, 1, none⟩ x1).setCell ⟨g, 2, none⟩ x2) :=
  ((h.setCell (p := ⟨g, 0, none⟩) hg x0).setCell (p := ⟨g, 1, none⟩) hg x1).setCell (p := ⟨g, 2, none⟩) hg x2
/-- the texts, the copied atom, the row of the atom, the query: as values -/
def TxIs (base : Nat) (a : Atm) (u : Value) (w : World) : Prop := ∃ A c, u = .slice A (varsA a).length c ∧ w.ownsRow base 9 1 (.slice A (varsA a).length c) (varsA a).length (strC (varsA a))
def AtIs (a : Atm) (u : Value) (w : World) : Prop := ∃ g, u = .agg #[.string a.rel, .slice (some ⟨g, 0, none⟩) a.terms.length a.terms.length] ∧ Blk w g 60 (tmC a.terms).toArray
def AsIs (a : Atm) (u : Value) (w : World) : Prop := ∃ gA gT, u = .slice (some ⟨gA, 0, none⟩) 1 1 ∧ Blk w gA 40 #[.string a.rel, .slice (some ⟨gT, 0, none⟩) a.terms.length a.terms.length] ∧ Blk w gT 60 (tmC a.terms).toArray
def OqIs (base : Nat) (a : Atm) (u : Value) (w : World) : Prop := ∃ A n c gA gT, u = .agg #[.string ⟨#[81]⟩, .slice A n c, .slice (some ⟨gA, 0, none⟩) 1 1] ∧ OneM base w A n c gA gT a
def TbIs (rel : ByteArray) (rows : List (List V)) (u : Value) (w : World) : Prop := ∃ A c, u = .agg #[.string rel, .slice A rows.length c] ∧ LAt RRow 1 w A rows.length rows
theorem TbIs.ext {rel : ByteArray} {rows : List (List V)} {u : Value} {w w' : World} (h : TbIs rel rows u w) (hw : Ext w w') : TbIs rel rows u w' := by
  obtain ⟨A, c, h1, h2⟩ := h
  exact ⟨A, c, h1, h2.ext RRow.stab hw⟩
section
variable {b : Nat} {a : Atm} {u : Value} {w w' : World}
theorem TxIs.ext (h : TxIs b a u w) (hw : Ext w w') : TxIs b a u w' := by
  obtain ⟨A, c, h1, h2⟩ := h
  exact ⟨A, c, h1, mine_ext h2 hw⟩
theorem AtIs.ext (h : AtIs a u w) (hw : Ext w w') : AtIs a u w' := by
  obtain ⟨g, h1, h2⟩ := h
  exact ⟨g, h1, h2.ext hw⟩
theorem AsIs.ext (h : AsIs a u w) (hw : Ext w w') : AsIs a u w' := by
  obtain ⟨g, k, h1, h2, h3⟩ := h
  exact ⟨g, k, h1, h2.ext hw, h3.ext hw⟩
theorem OqIs.ext (h : OqIs b a u w) (hw : Ext w w') : OqIs b a u w' := by
  obtain ⟨A, n, c, gA, gT, h1, h2⟩ := h
  exact ⟨A, n, c, gA, gT, h1, h2.ext hw⟩
end
theorem one_small {a : Atm} {M : Nat} (h : smallA M a) (hM : 1 ≤ M) : smallM M (oneQ a) := by
  have hl := addTs_len [] a.terms
  refine ⟨hM, ?_, fun x hx => ?_, hM, fun b hb => ?_⟩
  · have := h.len
    show (addTs [] a.terms).length ≤ M
    simp only [List.length_nil] at hl
    omega
  · rcases (mem_addTs _ _ _).1 (show x ∈ addTs [] a.terms from hx) with h1 | ⟨t, h1, h2, h3⟩
    · cases h1
    · rw [← h3]; exact (h.terms t h1).1
  · obtain rfl := List.mem_singleton.1 (show b ∈ [a] from hb)
    exact h
/-- one of the rows gives g -/
def fromB (a : Atm) (g : List V) (rs : List (List V)) : Bool := rs.any fun r => match matchA a r with | some m => sameR m g | none => false
theorem fromB_next {a : Atm} {g : List V} {rs : List (List V)} {j : Nat} {r : List V} (h : rs[j]? = some r) : fromB a g (rs.take (j + 1)) = (fromB a g (rs.take j) || (match matchA a r with | some m => sameR m g | none => false)) := by
  unfold fromB
  rw [take_next rs j r h, List.any_append]
  simp
theorem fromB_all {a : Atm} {g : List V} {rs : List (List V)} (h : ∃ r ∈ rs, matchA a r = some g) : fromB a g rs = true := by
  obtain ⟨r, hr, hm⟩ := h
  unfold fromB
  rw [List.any_eq_true]
  exact ⟨r, hr, by rw [hm]; exact sameR_iff.2 rfl⟩
theorem hasR_mem {xs : List (List V)} {r : List V} : hasR xs r = true ↔ r ∈ xs := by
  unfold hasR
  rw [List.any_eq_true]
  constructor
  · rintro ⟨s, h1, h2⟩
    rw [← sameR_iff.1 h2]; exact h1
  · intro h
    exact ⟨r, h, sameR_iff.2 rfl⟩
theorem rises_at {l : List (List V)} (h : Rises l) {i : Nat} {x y : List V} (hx : l[i]? = some x) (hy : l[i + 1]? = some y) : cmpR x y < 0 := by
  obtain ⟨h1, rfl⟩ := List.getElem?_eq_some_iff.1 hx
  obtain ⟨h2, rfl⟩ := List.getElem?_eq_some_iff.1 hy
  exact List.pairwise_iff_getElem.1 h i (i + 1) h1 h2 (by omega)

set_option maxHeartbeats 8000000 in
set_option maxRecDepth 100000 in
theorem law_one (a : Atm) (A : Option Addr) (n c : Nat) (rows : List (List V)) (B : Option Addr) (m d : Nat) (w : World) (ha : LAt RT 4 w A n a.terms) (hS : smallA 1048576 a)
    (hb : LAt RRow 1 w B m rows) (hm : m ≤ 1048576) (hr : ∀ r ∈ rows, r.length ≤ 1048576 ∧ ∀ v ∈ r, v.t.size ≤ 1048576) :
    Calls Try.prog 5 #[.agg #[.string a.rel, .slice A n c], .slice B m d] w fun e w' => e = .returned (.bool true) ∧ Ext w w' := by
  have hn : n ≤ 1048576 := by have := ha.len; have := hS.len; omega
  have hM := one_small hS (by omega)
  obtain rfl : m = rows.length := hb.len
  have HAV := hide (fun w1 (h1 : Ext w w1) => (show Calls Try.prog 21 #[.agg #[.string a.rel, .slice A n c]] w1 (RetS w1 (varsA a)) from ref_atom_vars a.rel a.terms A n c w1 (ha.ext RT.stab h1) (by omega)))
  have HCA := hide (fun w1 (h1 : Ext w w1) => copy_atom a A n c w1 (ha.ext RT.stab h1) (by omega))
  have HCR := hide (fun w1 (h1 : Ext w w1) => copy_all rows B rows.length d w1 (hb.ext RRow.stab h1) (by omega) (fun r h => by have := (hr r h).1; omega))
  have HAN := hide (fun L1 A1 c1 w1 (h1 : QAt w1 L1 (oneQ a)) (h2 : LAt RB 2 w1 A1 1 (oneD a rows)) => answers_lat (oneQ a) L1 (oneD a rows) A1 1 c1 1073741824 w1 h1 hM h2 (by omega) (by simp [oneD]; omega) (fun t ht r h => by
    obtain rfl := List.mem_singleton.1 (show t ∈ [(⟨a.rel, rows⟩ : Tbl)] from ht)
    exact (hr r h).1))
  have HSH := hide (fun L1 w1 (h1 : QAt w1 L1 (oneQ a)) => ref_shape (oneQ a) L1 w1 h1 hM)
  have HMT := hide (fun (x : List V) (A9 : Option Addr) (n9 c9 : Nat) (w9 : World) (h9 : Ext w w9) (hx : RowAt w9 A9 n9 x) (hxr : x ∈ rows) => ref_match a x A n c A9 n9 c9 w9 (ha.ext RT.stab h9) hn hx (by have := (hr x hxr).1; have := hx.len; omega))
  have HB := hide hb
  have HML := hide (show rows.length ≤ 1048576 from hm)
  have HMO := hide (fun (h : shapeQ (oneQ a) = 0) x => mem_one (a := a) (rows := rows) (shapeQ_iff.1 h) (x := x))
  have HRI := hide (rises_ans (oneQ a) (oneD a rows))
  have HSM := hide (show ∀ x ∈ ansP (oneQ a) (oneD a rows), x.length ≤ 1048576 ∧ smallR x from fun x hx => by
    refine ⟨by have := ans_row hx; have := hM.headL; omega, ?_⟩
    unfold ansP at hx
    obtain ⟨v, hv, rfl⟩ := List.mem_map.1 (mem_arr.1 hx)
    exact fun y hy => head_small (leaf_small (q := oneQ a) (data := oneD a rows) (M := 1048576) (fun t ht r h => by
      obtain rfl := List.mem_singleton.1 (show t ∈ [(⟨a.rel, rows⟩ : Tbl)] from ht)
      exact (hr r h).2) v hv) y hy)
  have HAL := hide (ans_one_len a rows)
  have HYM := hide (show ∀ x y, x ∈ rows → matchA a x = some y → y.length ≤ 1048576 from fun x y hx hy => by
    obtain ⟨τ, -, rfl⟩ := matchA_iff.1 hy
    have h1 := hM.headL
    simpa [oneQ] using h1)
  rw [answers_one] at HAN
  clear ha hS hb hm hr hM
  have HE := hide (Ext.alloc w (.cells #[.string a.rel, .slice A n c] 40))
  have HBk := hide (Blk.new w 40 #[.string a.rel, .slice A n c])
  generalize hW : w.alloc (.cells #[.string a.rel, .slice A n c] 40) = W at *
  have HW := hide hW; clear hW
  have a0 := cell_ext (show W.cell? ⟨w.heap.size, 0, none⟩ = some (.string a.rel) from HBk.out.cell 0)
  have a1 := cell_ext (show W.cell? ⟨w.heap.size, 1, none⟩ = some (.slice A n c) from HBk.out.cell 1)
  generalize ansP (oneQ a) (oneD a rows) = an at *
  generalize hsq : shapeQ (oneQ a) = sq at *
  clear hsq
  go_enter Try.func5, Try.ntmps5
  go_upto_region 1 with fail
  rw [HW.out]
  refine wp_region_ext 7 (by kernel_rfl) (by kernel_rfl) (by kernel_rfl) ?_
  iterate 1
    refine wpE_k (by kernel_rfl) (by kernel_rfl) ?_
    apply Exists.intro
    refine ⟨fun w1 hw1 => ?_, fun K hK => ?_⟩
    · go_simp; first | done | rfl
    go_simp; refine hK _ _ ?_; clear hK K
  refine wpE_p [] (TxIs W.heap.size a) (fun u w1 w2 _ h2 h => TxIs.ext h h2) rfl (by kernel_rfl) (fun w1 hw1 => ?_) ?_
  · simp only [LookQ]
    clear a0 a1
    go_simp
    refine ⟨Ext.refl _, (HAV.out w1 (HE.out.trans hw1)).mono ?_⟩
    rintro e w9 ⟨A5, c5, rfl, o5, x5⟩
    exact ⟨_, rfl, x5, A5, c5, rfl, mine_base o5.2 hw1.size⟩
  iterate 1
    refine wpE_k (by kernel_rfl) (by kernel_rfl) ?_
    apply Exists.intro
    refine ⟨fun w1 hw1 => ?_, fun K hK => ?_⟩
    · go_simp; first | done | rfl
    go_simp; refine hK _ _ ?_; clear hK K
  refine wpE_p [] (AtIs a) (fun u w1 w2 _ h2 h => AtIs.ext h h2) rfl (by kernel_rfl) (fun w1 hw1 => ?_) ?_
  · simp only [LookQ]
    clear a0 a1
    go_simp
    refine ⟨Ext.refl _, (HCA.out w1 (HE.out.trans hw1)).mono ?_⟩
    rintro e w9 ⟨g5, rfl, _, o5, x5⟩
    exact ⟨_, rfl, x5, g5, rfl, o5⟩
  refine wpE_p [22] (AsIs a) (fun u w1 w2 _ h2 h => AsIs.ext h h2) rfl (by kernel_rfl) (fun w1 hw1 => ?_) ?_
  · simp only [LookQ]
    rintro _ hu
    obtain ⟨gT, rfl, h7⟩ := hu _ rfl
    clear hu a0 a1
    go_simp
    exact ⟨Ext.alloc _ _, _, gT, rfl, Blk.new _ _ _, h7.ext (Ext.alloc _ _)⟩
  refine wpE_p [20, 23] (OqIs W.heap.size a) (fun u w1 w2 _ h2 h => OqIs.ext h h2) rfl (by kernel_rfl) (fun w1 hw1 => ?_) ?_
  · simp only [LookQ]
    rintro _ hu _ hv
    obtain ⟨A5, c5, rfl, h5⟩ := hu _ rfl
    obtain ⟨gA, gT, rfl, h6, h7⟩ := hv _ rfl
    clear hu hv a0 a1
    go_simp
    exact ⟨Ext.refl _, A5, _, c5, gA, gT, rfl, rfl, h5, h6, h7⟩
  refine wpE_p [] (VarO W) (fun u w1 w2 _ h2 h => VarO.ext h2 h) rfl (by kernel_rfl) (fun w1 hw1 => ?_) ?_
  · simp only [LookQ]
    clear a0 a1
    go_simp
    exact ⟨Ext.alloc _ _, _, rfl, hw1.size, Blk.new _ _ _⟩
  refine wpE_nil ⟨rfl, by kernel_rfl, fun w1 hw1 => ?_⟩
  simp only [EndQ, List.drop]
  rintro _ ⟨gq, rfl, hgq, hB⟩ _ ⟨A5, n5, c5, gA, gT, rfl, hO⟩ _ _ _ _ _ _
  clear a0 a1
  have x0 : w1.cell? ⟨gq, 0, none⟩ = some (.string .empty) := hB.cell 0
  have x1 : w1.cell? ⟨gq, 1, none⟩ = some (.slice none 0 0) := hB.cell 1
  have x2 : w1.cell? ⟨gq, 2, none⟩ = some (.slice none 0 0) := hB.cell 2
  have y0 := hB.frozen 0
  have y1 := hB.frozen 1
  have y2 := hB.frozen 2
  have HO := hide (hO.set3 hB (.string ⟨#[81]⟩) (.slice A5 n5 c5) (.slice (some ⟨gA, 0, none⟩) 1 1))
  have HBQ := hide (blk_put3 hB (.string ⟨#[81]⟩) (.slice A5 n5 c5) (.slice (some ⟨gA, 0, none⟩) 1 1))
  have HXW := hide (ext_put3 hw1 hgq (.string ⟨#[81]⟩) (.slice A5 n5 c5) (.slice (some ⟨gA, 0, none⟩) 1 1))
  have HGQ := hide hgq
  clear hw1 hB hO hgq
  go_upto_region 2 with fail
  clear x0 x1 x2 y0 y1 y2
  generalize hW3 : ((w1.setCell ⟨gq, 0, none⟩ (.string ⟨#[81]⟩)).setCell ⟨gq, 1, none⟩ (.slice A5 n5 c5)).setCell ⟨gq, 2, none⟩ (.slice (some ⟨gA, 0, none⟩) 1 1) = W3 at *
  clear hW3
  have HQ := hide (HO.out.qat (own_cap HO.out.head))
  have XW := hide (HE.out.trans HXW.out)
  have HB3 := hide (HBk.out.ext HXW.out)
  have a0 := cell_ext (show W3.cell? ⟨w.heap.size, 0, none⟩ = some (.string a.rel) from HB3.out.cell 0)
  have q0 := cell_ext (show W3.cell? ⟨gq, 0, none⟩ = some (.string ⟨#[81]⟩) from HBQ.out.cell 0)
  have q1 := cell_ext (show W3.cell? ⟨gq, 1, none⟩ = some (.slice A5 n5 c5) from HBQ.out.cell 1)
  have q2 := cell_ext (show W3.cell? ⟨gq, 2, none⟩ = some (.slice (some ⟨gA, 0, none⟩) 1 1) from HBQ.out.cell 2)
  generalize hra : (if sq = 0 then if rows.length ≤ 131072 then (an, (0 : Int)) else ([], 120) else ([], sq)) = ra at HAN
  obtain ⟨got, er⟩ := ra
  have HRA := hide hra; clear hra
  simp only [oneQ] at HAN
  refine wp_region_ext 13 (by kernel_rfl) (by kernel_rfl) (by kernel_rfl) ?_
  iterate 4
    refine wpE_k (by kernel_rfl) (by kernel_rfl) ?_
    apply Exists.intro
    refine ⟨fun w1 hw1 => ?_, fun K hK => ?_⟩
    · go_simp; first | done | rfl
    go_simp; refine hK _ _ ?_; clear hK K
  refine wpE_p [] (RowsIs rows) (fun u w1 w2 _ h2 h => RowsIs.ext h h2) rfl (by kernel_rfl) (fun w1 hw1 => ?_) ?_
  · simp only [LookQ]
    clear a0 q0 q1 q2
    go_simp
    refine ⟨Ext.refl _, (HCR.out w1 (XW.out.trans hw1)).mono ?_⟩
    rintro e w9 ⟨A7, n7, c7, cells, rfl, rfl, h1, h2, h3⟩
    exact ⟨_, rfl, h3, A7, c7, rfl, mine_lat rfl h1 h2⟩
  refine wpE_p [30] (TbIs a.rel rows) (fun u w1 w2 _ h2 h => TbIs.ext h h2) rfl (by kernel_rfl) (fun w1 hw1 => ?_) ?_
  · simp only [LookQ]
    rintro _ hu
    obtain ⟨A7, c7, rfl, h7⟩ := hu _ rfl
    clear hu a0 q0 q1 q2
    go_simp
    exact ⟨Ext.refl _, A7, c7, rfl, h7⟩
  refine wpE_p [31] (TabsIs (oneD a rows)) (fun u w1 w2 _ h2 h => TabsIs.ext h h2) rfl (by kernel_rfl) (fun w1 hw1 => ?_) ?_
  · simp only [LookQ]
    rintro _ hu
    obtain ⟨A7, c7, rfl, h7⟩ := hu _ rfl
    clear hu a0 q0 q1 q2
    go_simp
    refine ⟨Ext.alloc _ _, _, _, rfl, rfl, [.string a.rel, .slice A7 rows.length c7], Els.single (x := (⟨a.rel, rows⟩ : Tbl)) rfl ?_ ⟨_, _, _, rfl, h7.ext RRow.stab (Ext.alloc _ _)⟩, (Blk.new w1 _ _).sl (n := 1) (size := 2) rfl⟩
    intro v hv
    simp only [List.mem_cons, List.not_mem_nil, or_false] at hv
    rcases hv with rfl | rfl <;> rfl
  refine wpE_p [32] (AnsIs got er) (fun u w1 w2 _ h2 h => AnsIs.ext h h2) rfl (by kernel_rfl) (fun w1 hw1 => ?_) ?_
  · simp only [LookQ]
    rintro _ hu
    obtain ⟨A7, c7, rfl, h7⟩ := hu _ rfl
    clear hu a0 q0 q1 q2
    go_simp
    exact ⟨Ext.refl _, (HAN.out ⟨A5, n5, c5, some ⟨gA, 0, none⟩, 1, 1⟩ A7 c7 w1 (HQ.out.ext hw1) h7).mono fun e w9 ⟨A9, c9, e9, l9, x9⟩ => ⟨_, e9, x9, A9, c9, rfl, l9⟩⟩
  refine wpE_p [33] (AnsIs got er) (fun u w1 w2 _ h2 h => AnsIs.ext h h2) rfl (by kernel_rfl) (fun w1 hw1 => ?_) ?_
  · simp only [LookQ]
    rintro _ hu
    obtain ⟨A7, c7, rfl, h7⟩ := hu _ rfl
    clear hu a0 q0 q1 q2
    go_simp
    exact ⟨Ext.refl _, A7, c7, rfl, h7⟩
  refine wpE_p [25] (RowsIs got) (fun u w1 w2 _ h2 h => RowsIs.ext h h2) rfl (by kernel_rfl) (fun w1 hw1 => ?_) ?_
  · simp only [LookQ]
    rintro _ hu
    obtain ⟨A7, c7, rfl, h7⟩ := hu _ rfl
    clear hu a0 q0 q1 q2
    go_simp
    exact ⟨Ext.refl _, A7, c7, rfl, h7⟩
  refine wpE_kp [25] (.int .i64 er) (by kernel_rfl) (by kernel_rfl) (fun w1 hw1 => ?_) (fun K hK => ?_)
  · simp only [LookQ]
    rintro _ hu
    obtain ⟨A7, c7, rfl, h7⟩ := hu _ rfl
    clear hu a0 q0 q1 q2
    go_simp
    exact Ext.refl _
  go_simp; refine hK _ _ ?_; clear hK K
  refine wpE_p [34] (RowsIs got) (fun u w1 w2 _ h2 h => RowsIs.ext h h2) rfl (by kernel_rfl) (fun w1 hw1 => ?_) ?_
  · simp only [LookQ]
    rintro _ hu
    obtain ⟨A7, c7, rfl, h7⟩ := hu _ rfl
    clear hu a0 q0 q1 q2
    go_simp
    exact ⟨Ext.refl _, A7, c7, rfl, h7⟩
  iterate 1
    refine wpE_k (by kernel_rfl) (by kernel_rfl) ?_
    apply Exists.intro
    refine ⟨fun w1 hw1 => ?_, fun K hK => ?_⟩
    · go_simp; first | done | rfl
    go_simp; refine hK _ _ ?_; clear hK K
  refine wpE_nil ⟨rfl, by kernel_rfl, fun w1 hw1 => ?_⟩
  simp only [EndQ, List.drop]
  rintro _ ⟨A6, c6, rfl, l6⟩ _ _ _ _ _ _ _ _ _ _ _ _
  refine wpList_nil ?_
  clear a0 q0 q1 q2
  have L6 := hide l6
  have X1 := hide (XW.out.trans hw1)
  have b0 : w1.cell? ⟨gq, 0, none⟩ = some (.string ⟨#[81]⟩) := (HBQ.out.ext hw1).cell 0
  have b1 : w1.cell? ⟨gq, 1, none⟩ = some (.slice A5 n5 c5) := (HBQ.out.ext hw1).cell 1
  have b2 : w1.cell? ⟨gq, 2, none⟩ = some (.slice (some ⟨gA, 0, none⟩) 1 1) := (HBQ.out.ext hw1).cell 2
  have HSQ := hide (HSH.out ⟨A5, n5, c5, some ⟨gA, 0, none⟩, 1, 1⟩ w1 (HQ.out.ext hw1))
  have HB1 := hide (HB3.out.ext hw1)
  simp only [oneQ, qval] at HSQ
  clear l6 hw1 HQ HO
  by_cases h0 : sq = 0
  · subst h0
    by_cases hl : rows.length ≤ 131072
    · have e1 := HRA.out
      rw [if_pos rfl, if_pos hl] at e1
      injection e1 with e1 e2
      subst e1; subst e2
      have HMM := hide (HMO.out rfl)
      have hnl : ¬ ((131072 : Int) < (rows.length : Int)) := by omega
      go_wp2_with ((with_reducible refine HSQ.out.mono ?_); rintro e w4 ⟨rfl, x4⟩; have X4 := hide (X1.out.trans x4); have L4 := hide (L6.out.ext RRow.stab x4); have B4 := hide (HB1.out.ext x4); clear x4 b0 b1 b2)
      clear HRA HAN HSQ HMO
      go_loopw [9, 10, 11, 51] (fun _ _ _ s51 w' => ∃ i : Nat, i ≤ rows.length ∧ s51 = .int .i64 i ∧ Hid (Ext w4 w')) (fun _ _ _ s51 _ => rows.length - (intOf s51).toNat)
      case atStart => exact ⟨0, by omega, rfl, Ext.refl _⟩
      case round =>
        obtain ⟨i, hin, rfl, hX⟩ := hrel
        by_cases h : i < rows.length
        · obtain ⟨rb, ro, x, A8, n8, c8, hA6, hxr, hrb, d0, hR8⟩ := (HB.out.ext RRow.stab (X4.out.trans hX.out)).row_ h
          subst hA6
          have a0 : wr.cell? ⟨w.heap.size, 0, none⟩ = some (.string a.rel) := (B4.out.ext hX.out).cell 0
          have a1 : wr.cell? ⟨w.heap.size, 1, none⟩ = some (.slice A n c) := (B4.out.ext hX.out).cell 1
          have HXR := hide (List.mem_of_getElem? hxr)
          have HCM := hide (HMT.out x A8 n8 c8 wr (X4.out.trans hX.out) hR8 HXR.out)
          have HXA := hide (show ∀ y, matchA a x = some y → y ∈ an from fun y hy => (HMM.out y).2 ⟨x, HXR.out, hy⟩)
          clear hxr hrb hR8
          generalize matchA a x = res at *
          cases res with
          | none =>
            go_wp2_with ((with_reducible refine HCM.out.mono ?_); rintro e w5 ⟨rfl, x5⟩; have X5 := hide (hX.out.trans x5); clear x5 a0 a1 d0)
            go_roundw
            case rel => exact ⟨i + 1, by omega, by go_num, X5.out⟩
            case measure => simp [intOf]; omega
          | some y =>
            have HHA := hide (show hasR an y = true from hasR_mem.2 (HXA.out y rfl))
            go_wp2_with (first
              | ((with_reducible refine HCM.out.mono ?_); rintro e w5 ⟨g5, rfl, -, h5, x5⟩; have X5 := hide (hX.out.trans x5)
                 have HHC := hide (has_any an y A6 (some ⟨g5, 0, none⟩) an.length y.length c6 y.length w5 (L4.out.ext RRow.stab (hX.out.trans x5)) ⟨rfl, h5.sl (n := y.length) (size := 3) (by simp [cellsR_len])⟩ (by have := HAL.out; omega) (fun s hs => by have := (HSM.out s hs).1; omega))
                 rw [HHA.out] at HHC
                 clear h5 x5 a0 a1 d0)
              | ((with_reducible refine HHC.out.mono ?_); rintro e w6 ⟨rfl, x6⟩; have X6 := hide (X5.out.trans x6); clear x6))
            go_roundw
            case rel => exact ⟨i + 1, by omega, by go_num, X6.out⟩
            case measure => simp [intOf]; omega
        · obtain rfl : i = rows.length := by omega
          go_wp2_with fail
          have hal := HAL.out
          go_loopw [12, 13, 14, 16, 17, 18, 71] (fun _ _ _ _ _ _ s71 w' => ∃ i : Nat, i ≤ an.length ∧ s71 = .int .i64 i ∧ Hid (Ext w4 w')) (fun _ _ _ _ _ _ s71 _ => an.length - (intOf s71).toNat)
          case atStart => exact ⟨0, by omega, rfl, hX.out⟩
          case round =>
            clear hX
            obtain ⟨i, hin, rfl, hX⟩ := hrel
            by_cases h : i < an.length
            · obtain ⟨gb, go, g, A8, n8, c8, hA6, hxg, hgb, d0, hR8⟩ := (L4.out.ext RRow.stab hX.out).row_ h
              subst hA6
              have HXG := hide hxg
              have HG8 := hide hR8
              clear hxg hgb hR8
              go_wp2_with fail
              have HX0 := hide hX.out
              clear d0
              go_loopw [14, 16, 17, 18, 78] (fun s14 _ _ _ s78 w' => ∃ (j : Nat) (fb : Bool), j ≤ rows.length ∧ s78 = .int .i64 j ∧ s14 = .bool fb ∧ Hid (fb = fromB a g (rows.take j)) ∧ Hid (Ext wr w')) (fun _ _ _ _ s78 _ => rows.length - (intOf s78).toNat)
              case atStart => exact ⟨0, false, by omega, rfl, rfl, by simp [Hid, fromB], Ext.refl _⟩
              case round =>
                obtain ⟨j, fb, hjn, rfl, rfl, hfb, hY⟩ := hrel
                by_cases h2 : j < rows.length
                · obtain ⟨rb, ro, x, A9, n9, c9, hA9, hxr, hrb, d1, hR9⟩ := (HB.out.ext RRow.stab (X4.out.trans (HX0.out.trans hY.out))).row_ h2
                  subst hA9
                  have a0 := (B4.out.ext (HX0.out.trans hY.out)).cell 0
                  have a1 := (B4.out.ext (HX0.out.trans hY.out)).cell 1
                  have HNX := hide (fromB_next (a := a) (g := g) hxr)
                  have HXR9 := hide hxr
                  have HCM := hide (HMT.out x A9 n9 c9 _ (X4.out.trans (HX0.out.trans hY.out)) hR9 (List.mem_of_getElem? hxr))
                  clear hxr hrb hR9
                  generalize hmx : matchA a x = res at *
                  have HMX := hide hmx; clear hmx
                  cases res with
                  | none =>
                    have HN := hide (show fromB a g (rows.take (j + 1)) = fb from by rw [HNX.out, ← hfb.out]; simp)
                    cases fb with
                    | false =>
                      go_wp2_with ((with_reducible refine HCM.out.mono ?_); rintro e w5 ⟨rfl, x5⟩; have Y5 := hide (hY.out.trans x5); clear x5 a0 a1 d1)
                      go_roundw
                      case rel => exact ⟨j + 1, false, by omega, by go_num, rfl, HN.out.symm, Y5.out⟩
                      case measure => simp [intOf]; omega
                    | true =>
                      go_wp2_with ((with_reducible refine HCM.out.mono ?_); rintro e w5 ⟨rfl, x5⟩; have Y5 := hide (hY.out.trans x5); clear x5 a0 a1 d1)
                      go_roundw
                      case rel => exact ⟨j + 1, true, by omega, by go_num, rfl, HN.out.symm, Y5.out⟩
                      case measure => simp [intOf]; omega
                  | some y =>
                    cases fb with
                    | true =>
                      have HN := hide (show fromB a g (rows.take (j + 1)) = true from by rw [HNX.out, ← hfb.out]; rfl)
                      go_wp2_with ((with_reducible refine HCM.out.mono ?_); rintro e w5 ⟨g5, rfl, -, -, x5⟩; have Y5 := hide (hY.out.trans x5); clear x5 a0 a1 d1)
                      go_roundw
                      case rel => exact ⟨j + 1, true, by omega, by go_num, rfl, HN.out.symm, Y5.out⟩
                      case measure => simp [intOf]; omega
                    | false =>
                      have HN := hide (show fromB a g (rows.take (j + 1)) = sameR y g from by rw [HNX.out, ← hfb.out]; simp)
                      have HYS := hide (fun g5 w5 (hw5 : Ext wr w5) (h5 : Blk w5 g5 58 (cellsR y).toArray) (hn5 : y.length ≤ 1048576) => same_any y g (some ⟨g5, 0, none⟩) A8 y.length n8 y.length c8 w5 ⟨rfl, h5.sl (n := y.length) (size := 3) (by simp [cellsR_len])⟩ (HG8.out.ext (hY.out.trans hw5)) (by omega))
                      have HYL := hide (HYM.out x y (List.mem_of_getElem? HXR9.out) HMX.out)
                      generalize sameR y g = sb at *
                      go_wp2_with (first
                        | ((with_reducible refine HCM.out.mono ?_); rintro e w5 ⟨g5, rfl, -, h5, x5⟩; have Y5 := hide (hY.out.trans x5); have HSC := hide (HYS.out g5 w5 x5 h5 HYL.out); clear h5 x5 a0 a1 d1)
                        | ((with_reducible refine HSC.out.mono ?_); rintro e w6 ⟨rfl, x6⟩; have Y6 := hide (Y5.out.trans x6); clear x6))
                      go_roundw
                      case rel => exact ⟨j + 1, sb, by omega, by go_num, rfl, HN.out.symm, Y6.out⟩
                      case measure => simp [intOf]; omega
                · obtain rfl : j = rows.length := by omega
                  have h5 := hfb.out
                  rw [List.take_length, fromB_all ((HMM.out g).1 (List.mem_of_getElem? HXG.out))] at h5
                  subst h5
                  have Z0 := hide (HX0.out.trans hY.out)
                  by_cases hi0 : i = 0
                  · subst hi0
                    go_wp2_with fail
                    go_roundw
                    case rel => exact ⟨1, by omega, by go_num, Z0.out⟩
                    case measure => simp [intOf]; omega
                  · obtain ⟨k, rfl⟩ : ∃ k, i = k + 1 := ⟨i - 1, by omega⟩
                    obtain ⟨gb2, go2, g0, A7, n7, c7, hA6, hx0, hgb, d0, hR7⟩ := (L4.out.ext RRow.stab Z0.out).row_ (i := k) (by omega)
                    injection hA6 with hA6
                    injection hA6 with q1 q2
                    subst q1; subst q2
                    have hk := rises_at HRI.out hx0 HXG.out
                    have hxs := HSM.out g (List.mem_of_getElem? HXG.out)
                    have hys := HSM.out g0 (List.mem_of_getElem? hx0)
                    have HC := hide (ref_cmp g0 g A7 A8 n7 n8 c7 c8 _ hR7 (HG8.out.ext hY.out) (by have := hR7.len; omega) (by have := HG8.out.len; omega) hys.2 hxs.2)
                    generalize cmpR g0 g = cm at *
                    have hk2 : ¬ (0 : Int) ≤ cm := by omega
                    have hj0 : (0 : Int) ≤ (k : Int) + 1 := by omega
                    have hj1 : (0 : Int) < (k : Int) + 1 := by omega
                    have hj3 : ((k : Int) + 1).toNat = k + 1 := by omega
                    have hj4 : IntKind.i64.wrap (k : Int) = (k : Int) := IntWalk.i64_in _ (by have := HML.out; omega)
                    have hj5 : (k : Int) < (an.length : Int) := by omega
                    have hj6 : (0 : Int) ≤ (k : Int) := by omega
                    have hj7 : k < an.length := by omega
                    clear hx0 hgb hR7 hxs hys
                    go_wp2_with ((with_reducible refine HC.out.mono ?_); rintro e w6 ⟨rfl, x6⟩; have X6 := hide (Z0.out.trans x6); clear x6)
                    go_roundw
                    case rel => exact ⟨k + 1 + 1, by omega, by go_num, X6.out⟩
                    case measure => simp [intOf]; omega
            · obtain rfl : i = an.length := by omega
              go_wp2_with ((with_reducible refine (awake_any _).mono ?_); rintro e w9 ⟨rfl, x9⟩; have X9 := hide (X4.out.trans (hX.out.trans x9)); clear x9)
              go_ret
              exact ⟨rfl, X9.out⟩
    · have e1 := HRA.out
      rw [if_pos rfl, if_neg hl] at e1
      injection e1 with e1 e2
      subst e1; subst e2
      have hnl : (131072 : Int) < (rows.length : Int) := by omega
      go_wp2_with ((with_reducible refine HSQ.out.mono ?_); rintro e w4 ⟨rfl, x4⟩; have X4 := hide (X1.out.trans x4); clear x4 b0 b1 b2)
      go_ret
      exact ⟨rfl, X4.out⟩
  · have e1 := HRA.out
    rw [if_neg h0] at e1
    injection e1 with e1 e2
    subst e1; subst e2
    have hne : (sq != 0) = true := by simpa using h0
    go_wp2_with (first
      | ((with_reducible refine HSQ.out.mono ?_); rintro e w4 ⟨rfl, x4⟩; have X4 := hide (X1.out.trans x4); clear x4 b0 b1 b2)
      | ((with_reducible refine (awake_any _).mono ?_); rintro e w9 ⟨rfl, x9⟩; have X9 := hide (X4.out.trans x9); clear x9))
    go_ret
    exact ⟨rfl, X9.out⟩
theorem law_one_all (a : Atm) (A : Option Addr) (n c : Nat) (rows : List (List V)) (B : Option Addr) (m d : Nat) (w : World) (ha : LAt RT 4 w A n a.terms) (hS : smallA 1048576 a)
    (hb : LAt RRow 1 w B m rows) (_ : m ≤ d) (hm : m ≤ 1048576) (hr : ∀ r ∈ rows, r.length ≤ 1048576 ∧ ∀ v ∈ r, v.t.size ≤ 1048576) (_ : ∀ r ∈ rows, wfR r) :
    Calls Try.prog 5 #[.agg #[.string a.rel, .slice A n c], .slice B m d] w fun e w' => e = .returned (.bool true) ∧ Ext w w' := law_one a A n c rows B m d w ha hS hb hm hr
end Go.Proofs.Ytpfjkjmimmklcaa
