/-
  newWalk: the walk.
-/
import Derived.Test.YtpfjkjmimmklcaaNaiNV
namespace Go.Proofs.Ytpfjkjmimmklcaa
open Go.RowKit

theorem flags_made (N : Nat) : madeCells #[Value.bool false] N = (flagsF N fun _ => false).toArray := by
  apply Array.toList_inj.1
  rw [toList_madeCells_one]
  show List.replicate N (Value.bool false) = flagsF N fun _ => false
  apply List.ext_getElem?
  intro i
  rw [List.getElem?_replicate]
  by_cases h : i < N
  · rw [if_pos h, flagsF_get h]
  · rw [if_neg h]; symm; rw [List.getElem?_eq_none_iff, flagsF_len]; omega
/-- rows of the tables so far -/
theorem rowsOfP_snoc {data : List Tbl} {j : Nat} {t : Tbl} (h : data[j]? = some t) (rel : ByteArray) : rowsOfP (data.take (j + 1)) rel = rowsOfP (data.take j) rel ++ if t.rel = rel then t.rows else [] := by
  unfold rowsOfP
  rw [List.take_add_one, h]
  simp
theorem rowsOfP_len (data : List Tbl) (rel : ByteArray) : (rowsOfP data rel).length ≤ (data.flatMap Tbl.rows).length := by
  unfold rowsOfP
  induction data with
  | nil => simp
  | cons t data ih =>
    rw [List.flatMap_cons, List.flatMap_cons, List.length_append, List.length_append]
    split
    · omega
    · simp only [List.length_nil]; omega
theorem rowsOfP_take (data : List Tbl) (rel : ByteArray) (j : Nat) : (rowsOfP (data.take j) rel).length ≤ (data.flatMap Tbl.rows).length := by
  refine Nat.le_trans (rowsOfP_len _ _) ?_
  induction data generalizing j with
  | nil => simp
  | cons t data ih =>
    cases j with
    | zero => simp
    | succ j =>
      rw [List.take_succ_cons, List.flatMap_cons, List.flatMap_cons, List.length_append, List.length_append]
      have := ih j
      omega
theorem atN_int {l : List ByteArray} {x : ByteArray} (h : x ∈ l) : firstI (eqB x) l 0 = ((atN l x : Nat) : Int) := by
  obtain ⟨k, h1, -⟩ := at_mem h
  unfold atN
  rw [h1]; rfl
def WLoc.mk0 (L : QLoc) (nm : ByteArray) (gw gv gb gt : Nat) : WLoc := ⟨gw, gv, gb, gt, nm, L, .slice none 0 0, .slice none 0 0, .slice none 0 0⟩

set_option maxRecDepth 100000 in
set_option maxHeartbeats 4000000 in
theorem new_walk (q : Qy) (L : QLoc) (data : List Tbl) (B : Option Addr) (m c : Nat) (w0 w : World) (hx0 : Ext w0 w) (hq : QAt w0 L q) (hM : smallM 1048576 q) (hsh : Shaped q) (hb : LAt RB 2 w0 B m data) (hm : m ≤ 1048576) (hsum : (data.flatMap Tbl.rows).length ≤ 1099511627776) :
    Calls Try.prog 55 #[qval q.name L, .slice B m c] w fun e w' => ∃ (D : WLoc) (base : Nat), e = .returned (.pointer (some ⟨D.gw, 0, none⟩)) ∧ D.L = L ∧ D.nm = q.name ∧
      NB w0 base D (varsQ q).length q.atoms.length ((lvsFrom (varsQ q) data q.atoms).map Lv.rows) ((lvsFrom (varsQ q) data q.atoms).map Lv.ks) (q.head.map (atN (varsQ q))) w' ∧ w.heap.size ≤ base ∧ (∀ g, D.S4 g → w.heap.size ≤ g) ∧ Ext w w' := by
  obtain ⟨nm, hd, as_⟩ := q
  obtain ⟨A, n, cA, AB, k, d⟩ := L
  simp only [qval]
  have HQ := hide hq; have HM := hide hM; have HSH := hide hsh; have HB := hide hb
  have hk : k = as_.length := hq.atoms.len
  have hk6 : k ≤ 6 := by have := hsh.six; simp only at this; omega
  have HHd := hide (show n = hd.length from hq.head.len)
  have hn30 : n ≤ 30 := by have := head_len hsh; have := HHd.out; simp only at *; omega
  have hN60 : (varsQ ⟨nm, hd, as_⟩).length ≤ 60 := by
    have h1 := addTs_len [] ((⟨nm, hd, as_⟩ : Qy).atoms.flatMap (·.terms))
    have h2 := flat_len hsh
    rw [varsQ_flat]
    simp only [List.length_nil] at h1 h2 ⊢
    omega
  have HBE := hide (Ext.alloc w (.cells #[.string nm, .slice A n cA, .slice AB k d] 25))
  have HC := hide (CellsAt.new w [.string nm, .slice A n cA, .slice AB k d] 25 (0, 0))
  have hc0 := HC.out 0 _ rfl
  have hc1 := HC.out 1 _ rfl
  have hc2 := HC.out 2 _ rfl
  have HQV := hide (query_vars ⟨nm, hd, as_⟩ ⟨A, n, cA, AB, k, d⟩ _ (hq.ext (hx0.trans HBE.out)) hM)
  simp only [qval] at HQV
  have HSUM := hide hsum
  have HK := hide hk
  have HX0 := hide hx0
  clear hq hM hsh hb hsum hk hx0
  go_enter Try.func55, Try.ntmps55
  go_upto_region 2 with ((with_reducible refine HQV.out.mono ?_); rintro e w1 ⟨VA_, cV, rfl, oV, xV⟩)
  generalize hall : varsQ ⟨nm, hd, as_⟩ = all at *
  have HALL := hide hall; clear hall HQV hc0 hc1 hc2
  have HOV := hide oV; have HXV := hide (HBE.out.trans xV)
  have HC1 := hide (HC.out.ext xV)
  have b0 := cell_ext (HC1.out 0 _ rfl)
  have b1 := cell_ext (HC1.out 1 _ rfl)
  have b2 := cell_ext (HC1.out 2 _ rfl)
  clear oV xV
  obtain ⟨i0, hi0, hz0, hz1, hz2⟩ := info_parts infoV
  obtain ⟨j0, hj0, hy0, hy1, hy2⟩ := info_parts infoBo
  obtain ⟨k0, hk0, hx0, hx1, hx2⟩ := info_parts infoRw
  have hmk1 := run_make_n (P := Try.prog) 34 58 i0 _ Try.underlying34 hi0 hz0 (by omega) .i64 .i64 all.length (by omega)
  have hmk2 := run_make_n (P := Try.prog) 73 4 j0 _ Try.underlying73 hj0 hy0 (by omega) .i64 .i64 all.length (by omega)
  have hmk3 := run_make_n (P := Try.prog) 27 35 k0 _ Try.underlying27 hk0 hx0 (by omega) .i64 .i64 k (by omega)
  simp only [hz1] at hmk1; simp only [hy1] at hmk2; simp only [hx1] at hmk3
  refine wp_region_ext 14 (by kernel_rfl) (by kernel_rfl) (by kernel_rfl) ?_
  iterate 3
    refine wpE_k (by kernel_rfl) (by kernel_rfl) ?_
    apply Exists.intro
    refine ⟨fun w1 hw1 => ?_, fun K hK => ?_⟩
    · go_simp; first | done | rfl
    go_simp; refine hK _ _ ?_; clear hK K
  refine wpE_p [] (fun u w2 => ∃ g, u = .slice (some ⟨g, 0, none⟩) all.length all.length ∧ w1.heap.size ≤ g ∧ Blk w2 g 58 (madeCells #[Value.int .i64 0, Value.int .i64 0, Value.string ByteArray.empty] (all.length * 3))) (fun u w2 w3 _ h2 ⟨g, h3, h4, h5⟩ => ⟨g, h3, h4, h5.ext h2⟩) rfl (by kernel_rfl) (fun w2 hw2 => ?_) ?_
  · simp only [LookQ]
    clear b0 b1 b2
    go_simp
    exact ⟨Ext.alloc _ _, hw2.size, Blk.new _ _ _⟩
  iterate 2
    refine wpE_k (by kernel_rfl) (by kernel_rfl) ?_
    apply Exists.intro
    refine ⟨fun w1 hw1 => ?_, fun K hK => ?_⟩
    · go_simp; first | done | rfl
    go_simp; refine hK _ _ ?_; clear hK K
  refine wpE_p [] (fun u w2 => ∃ g, u = .slice (some ⟨g, 0, none⟩) all.length all.length ∧ w1.heap.size ≤ g ∧ Blk w2 g 4 (madeCells #[Value.bool false] all.length)) (fun u w2 w3 _ h2 ⟨g, h3, h4, h5⟩ => ⟨g, h3, h4, h5.ext h2⟩) rfl (by kernel_rfl) (fun w2 hw2 => ?_) ?_
  · simp only [LookQ]
    clear b0 b1 b2
    go_simp
    exact ⟨Ext.alloc _ _, hw2.size, Blk.new _ _ _⟩
  iterate 3
    refine wpE_k (by kernel_rfl) (by kernel_rfl) ?_
    apply Exists.intro
    refine ⟨fun w1 hw1 => ?_, fun K hK => ?_⟩
    · go_simp; first | done | rfl
    go_simp; refine hK _ _ ?_; clear hK K
  refine wpE_p [] (fun u w2 => ∃ g, u = .slice (some ⟨g, 0, none⟩) k k ∧ w1.heap.size ≤ g ∧ Blk w2 g 35 (madeCells #[Value.slice none 0 0] k)) (fun u w2 w3 _ h2 ⟨g, h3, h4, h5⟩ => ⟨g, h3, h4, h5.ext h2⟩) rfl (by kernel_rfl) (fun w2 hw2 => ?_) ?_
  · simp only [LookQ]
    clear b0 b1 b2
    go_simp
    exact ⟨Ext.alloc _ _, hw2.size, Blk.new _ _ _⟩
  refine wpE_p [22, 25, 29] (fun u w2 => ∃ gv gb gt, u = .agg #[.string nm, .slice A n cA, .slice AB k d, .slice none 0 0, .slice none 0 0, .slice none 0 0, .slice (some ⟨gv, 0, none⟩) all.length all.length, .slice (some ⟨gb, 0, none⟩) all.length all.length, .slice (some ⟨gt, 0, none⟩) k k, .int .i64 0] ∧
      (w1.heap.size ≤ gv ∧ w1.heap.size ≤ gb ∧ w1.heap.size ≤ gt) ∧ Blk w2 gv 58 (madeCells #[Value.int .i64 0, Value.int .i64 0, Value.string ByteArray.empty] (all.length * 3)) ∧ Blk w2 gb 4 (madeCells #[Value.bool false] all.length) ∧ Blk w2 gt 35 (madeCells #[Value.slice none 0 0] k))
    (fun u w2 w3 _ h2 ⟨gv, gb, gt, h3, h4, h5, h6, h7⟩ => ⟨gv, gb, gt, h3, h4, h5.ext h2, h6.ext h2, h7.ext h2⟩) rfl (by kernel_rfl) (fun w2 hw2 => ?_) ?_
  · simp only [LookQ]
    intro u1 hu1 u2 hu2 u3 hu3
    obtain ⟨gv, rfl, hv1, hv2⟩ := hu1 _ rfl
    obtain ⟨gb, rfl, hb1, hb2⟩ := hu2 _ rfl
    obtain ⟨gt, rfl, ht1, ht2⟩ := hu3 _ rfl
    clear b0 b1 b2 hu1 hu2 hu3
    go_simp
    exact ⟨Ext.refl _, gv, gb, gt, ⟨rfl, rfl, rfl⟩, ⟨hv1, hb1, ht1⟩, hv2, hb2, ht2⟩
  refine wpE_p [30] (fun u w2 => ∃ gw gv gb gt, u = .pointer (some ⟨gw, 0, none⟩) ∧ w1.heap.size ≤ gw ∧ (w1.heap.size ≤ gv ∧ w1.heap.size ≤ gb ∧ w1.heap.size ≤ gt) ∧ Blk w2 gw 136 #[.string nm, .slice A n cA, .slice AB k d, .slice none 0 0, .slice none 0 0, .slice none 0 0, .slice (some ⟨gv, 0, none⟩) all.length all.length, .slice (some ⟨gb, 0, none⟩) all.length all.length, .slice (some ⟨gt, 0, none⟩) k k, .int .i64 0] ∧
      Blk w2 gv 58 (madeCells #[Value.int .i64 0, Value.int .i64 0, Value.string ByteArray.empty] (all.length * 3)) ∧ Blk w2 gb 4 (madeCells #[Value.bool false] all.length) ∧ Blk w2 gt 35 (madeCells #[Value.slice none 0 0] k))
    (fun u w2 w3 _ h2 ⟨gw, gv, gb, gt, h3, g1, h4, g2, h5, h6, h7⟩ => ⟨gw, gv, gb, gt, h3, g1, h4, g2.ext h2, h5.ext h2, h6.ext h2, h7.ext h2⟩) rfl (by kernel_rfl) (fun w2 hw2 => ?_) ?_
  · simp only [LookQ]
    intro u1 hu1
    obtain ⟨gv, gb, gt, rfl, h1, h2, h3, h4⟩ := hu1 _ rfl
    clear b0 b1 b2 hu1
    go_simp
    exact ⟨Ext.alloc _ _, hw2.size, gv, gb, gt, h1, Blk.new _ _ _, h2.ext (Ext.alloc _ _), h3.ext (Ext.alloc _ _), h4.ext (Ext.alloc _ _)⟩
  refine wpE_p [31] (fun u w2 => ∃ gw gv gb gt, u = .pointer (some ⟨gw, 0, none⟩) ∧ w1.heap.size ≤ gw ∧ (w1.heap.size ≤ gv ∧ w1.heap.size ≤ gb ∧ w1.heap.size ≤ gt) ∧ Blk w2 gw 136 #[.string nm, .slice A n cA, .slice AB k d, .slice none 0 0, .slice none 0 0, .slice none 0 0, .slice (some ⟨gv, 0, none⟩) all.length all.length, .slice (some ⟨gb, 0, none⟩) all.length all.length, .slice (some ⟨gt, 0, none⟩) k k, .int .i64 0] ∧
      Blk w2 gv 58 (madeCells #[Value.int .i64 0, Value.int .i64 0, Value.string ByteArray.empty] (all.length * 3)) ∧ Blk w2 gb 4 (madeCells #[Value.bool false] all.length) ∧ Blk w2 gt 35 (madeCells #[Value.slice none 0 0] k))
    (fun u w2 w3 _ h2 ⟨gw, gv, gb, gt, h3, g1, h4, g2, h5, h6, h7⟩ => ⟨gw, gv, gb, gt, h3, g1, h4, g2.ext h2, h5.ext h2, h6.ext h2, h7.ext h2⟩) rfl (by kernel_rfl) (fun w2 hw2 => ?_) ?_
  · simp only [LookQ]
    intro u1 hu1
    obtain ⟨gw, gv, gb, gt, rfl, hg, h⟩ := hu1 _ rfl
    clear b0 b1 b2 hu1
    go_simp
    exact ⟨Ext.refl _, gv, gb, gt, h⟩
  refine wpE_nil ⟨rfl, by kernel_rfl, fun w2 hw2 => ?_⟩
  simp only [EndQ, List.drop]
  rintro u6 ⟨gw, gv, gb, gt, rfl, g1, g2, g3, g4, g5, g6⟩ u31 - u30 - u29 - u25 - u22 -
  refine wpList_nil ?_
  clear b0 b1 b2 hmk1 hmk2 hmk3
  have HX2 := hide (HXV.out.trans hw2)
  have HN0 := hide (show NB w0 w2.heap.size (WLoc.mk0 ⟨A, n, cA, AB, k, d⟩ nm gw gv gb gt) all.length k [] [] [] w2 from
    ⟨g3, ⟨_, g4, by rw [size_madeCells]⟩, by rw [← flags_made]; exact g5, ⟨_, g6, by rw [size_madeCells]⟩, ⟨none, 0, [], rfl, World.ownsRow_nil _ _ _ _, .nil⟩, ⟨none, 0, [], rfl, World.ownsRow_nil _ _ _ _, .nil⟩, ⟨none, 0, rfl, World.ownsRow_nil _ _ _ _⟩,
      fun g hg => by
        have hs := HXV.out.size; have hs0 := HX0.out.size
        have l1 := g3.lt; have l2 := g4.lt; have l3 := g5.lt; have l4 := g6.lt
        rcases hg with h | h | h | h <;> (simp only [WLoc.mk0] at h; omega)⟩)
  have HC2 := hide (HC1.out.ext hw2)
  have HVL := hide HOV.out.lat
  have HXW := hide hw2
  have HXV3 := hide HXV.out
  have HXV2 := hide (HX0.out.trans HXV.out)
  have HG4 := hide (show ∀ g, (⟨gw, gv, gb, gt, nm, ⟨A, n, cA, AB, k, d⟩, .slice none 0 0, .slice none 0 0, .slice none 0 0⟩ : WLoc).S4 g → w.heap.size ≤ g from fun g hg => by
    have hs := HXV.out.size
    rcases hg with h | h | h | h <;> (simp only at h; omega))
  have hgw : w1.heap.size ≤ gw := g1
  have HBA := hide (Nat.le_trans HX2.out.size (Nat.le_refl _))
  clear g1 g2 g3 g4 g5 g6 hw2 HXV HOV
  generalize hbase : w2.heap.size = base at *
  have HBASE := hide hbase; clear hbase
  have b2 := HC2.out 2 _ rfl
  go_wp2_with fail
  clear b2
  go_loopw [8, 9, 11, 12, 14, 35] (fun _ _ _ _ _ s35 w' => ∃ (i : Nat) (R Vs : Value), i ≤ k ∧ s35 = .int .i64 i ∧ Hid (NB w0 base ⟨gw, gv, gb, gt, nm, ⟨A, n, cA, AB, k, d⟩, R, Vs, .slice none 0 0⟩ all.length k ((as_.take i).map fun a => rowsOfP data a.rel) ((as_.take i).map fun a => (varsA a).map (atN all)) [] w') ∧ Hid (Ext w1 w') ∧ Hid (base ≤ w'.heap.size)) (fun _ _ _ _ _ s35 _ => k - (intOf s35).toNat)
  case atStart => exact ⟨0, _, _, by omega, rfl, HN0.out, HXW.out, Nat.le_of_eq HBASE.out.symm⟩
  case round =>
    obtain ⟨i, R, Vs, hi, rfl, hNB, hE, hBs⟩ := hrel
    by_cases h : i < k
    · obtain ⟨b, off, a, B1, m1, d1, rfl, hx, hb1, c0, c1, hT⟩ := (HQ.out.atoms.ext RA.stab (HXV2.out.trans hE.out)).at_ h
      have hsm := HM.out.atoms a (List.mem_of_getElem? hx)
      have hm1 : m1 ≤ 1048576 := by have := hsm.len; have := hT.len; omega
      have HAV := hide (fun w3 (h3 : Ext wr w3) => atom_vars a B1 m1 d1 w3 (hT.ext RT.stab h3) hm1)
      have HEa := hide (Ext.alloc wr (.cells #[.string a.rel, .slice B1 m1 d1] 40))
      have HCa := hide (Blk.new wr 40 #[.string a.rel, .slice B1 m1 d1])
      have HX := hide hx
      clear hx hb1 hT hsm
      go_wp2_with fail
      generalize wr.alloc (.cells #[.string a.rel, .slice B1 m1 d1] 40) = wa at *
      generalize wr.heap.size = gA at *
      go_loopw [9, 11, 41] (fun s9 _ s41 w' => ∃ (j : Nat) (A' : Option Addr) (n' c' : Nat) (cells : List Value), j ≤ m ∧ s41 = .int .i64 j ∧ s9 = .slice A' n' c' ∧ n' ≤ 1099511627776 ∧ Hid (n' = (rowsOfP (data.take j) a.rel).length) ∧ Hid (w'.ownsRow wa.heap.size 35 1 (.slice A' n' c') n' cells) ∧ Hid (Els RRow 1 w0 cells (rowsOfP (data.take j) a.rel)) ∧ Hid (Ext wa w')) (fun _ _ s41 _ => m - (intOf s41).toNat)
      case atStart => exact ⟨0, none, 0, 0, [], by omega, rfl, rfl, by omega, by simp [Hid, rowsOfP], World.ownsRow_nil _ _ _ _, by simp only [Hid, List.take_zero, rowsOfP, List.flatMap_nil]; exact .nil, Ext.refl _⟩
      case round =>
        obtain ⟨j, A', n', c', cells, hj, rfl, rfl, hn', hnl, ho, hels, hEj⟩ := hrel
        by_cases h2 : j < m
        · obtain ⟨b2, off2, t, A9, n9, c9, rfl, hxt, hb2, e0, e1, hRR⟩ := HB.out.tab_ h2
          have HE2 := hide (HXV2.out.trans (hE.out.trans (HEa.out.trans hEj.out)))
          have e0 := HE2.out.cell e0
          have e1 := HE2.out.cell e1
          have a0 : wr.cell? ⟨gA, 0, none⟩ = some (.string a.rel) := (HCa.out.ext hEj.out).cell 0
          have hgA := (HCa.out.ext hEj.out).lt
          have hsn := rowsOfP_snoc hxt a.rel
          have htk := Nat.le_trans (rowsOfP_take data a.rel (j + 1)) HSUM.out
          clear hxt hb2
          obtain ⟨ncells, hne, hns⟩ := hRR.sl
          have hn9 := hRR.len
          by_cases hre : t.rel = a.rel
          · have hrb : (t.rel.toList == a.rel.toList) = true := by rw [hre]; simp
            rw [if_pos hre] at hsn
            have hlen : (rowsOfP (data.take (j + 1)) a.rel).length = n' + n9 := by rw [hsn, List.length_append, ← hnl.out, hn9]
            have hb9 : n' + n9 ≤ 1099511627776 := by omega
            have HSN := hide hsn; have HNE := hide hne; have HNS := hide (hns.ext (HE2.out.trans (Ext.alloc _ (.cells #[.string t.rel, .slice A9 n9 c9] 43)))); have HLN := hide hlen
            have H9 := hide hn9
            clear hsn hne hns hlen htk hRR hre hn9
            go_wp2_with (at_builtin; refine wpList_append_sl rfl (.tmp 50) (.tmp 52) _ rfl 35 k0 _ 1 24 Try.underlying27 hk0 hx0 hx1 hx2 rfl (by omega) wa (hEj.out.trans (Ext.alloc _ _)) (.slice A' n' c') n' cells rfl (mine_ext ho.out (Ext.alloc _ _)) _ n9 c9 ncells rfl HNS.out HNE.out.one (by unfold maxLen; omega) (by omega) ?_; intro A8 c8 w8 own8 E8 G8 L8)
            go_roundw
            case rel => exact ⟨j + 1, A8, n' + n9, c8, cells ++ ncells, by omega, by go_num, rfl, hb9, HLN.out.symm, own8.out, by rw [Hid, HSN.out]; exact hels.out.append HNE.out, E8.out⟩
            case measure => simp [intOf]; omega
          · have hrb : (t.rel.toList == a.rel.toList) = false := by simpa using fun e => hre ((bytes_toList t.rel a.rel).1 e)
            rw [if_neg hre, List.append_nil] at hsn
            have HSN := hide hsn
            clear hsn hne hns htk hRR hre hn9
            go_wp2_with fail
            go_roundw
            case rel => exact ⟨j + 1, A', n', c', cells, by omega, by go_num, rfl, hn', by rw [HSN.out]; exact hnl.out, mine_ext ho.out (Ext.alloc _ _), by rw [HSN.out]; exact hels.out, hEj.out.trans (Ext.alloc _ _)⟩
            case measure => simp [intOf]; omega
        · have hjm : data.take j = data := List.take_of_length_le (by have := HB.out.len; omega)
          rw [hjm] at hnl hels
          clear hjm
          have a0 : wr.cell? ⟨gA, 0, none⟩ = some (.string a.rel) := (HCa.out.ext hEj.out).cell 0
          have a1 : wr.cell? ⟨gA, 1, none⟩ = some (.slice B1 m1 d1) := (HCa.out.ext hEj.out).cell 1
          have HAV2 := hide (HAV.out wr (HEa.out.trans hEj.out))
          obtain ⟨l0, hl0, hu0, hu1, hu2⟩ := info_parts infoI
          go_upto_region 15 with ((with_reducible refine HAV2.out.mono ?_); rintro e w4 ⟨A2, c2, rfl, o4, x4⟩)
          have HO4 := hide o4.lat; have HX4 := hide (hEj.out.trans x4); have HX5 := hide (hE.out.trans (HEa.out.trans (hEj.out.trans x4)))
          have hvl : (varsA a).length ≤ 1048576 := by
            have h1 := varsA_len a
            have h2 := (HM.out.atoms a (List.mem_of_getElem? HX.out)).len
            omega
          have hin : ∀ x ∈ varsA a, x ∈ all := fun x hx => by
            obtain h1 | ⟨t, h1, h2, h3⟩ := (mem_addTs x a.terms []).1 hx
            · cases h1
            · rw [← HALL.out]; exact mem_vars.2 ⟨a, List.mem_of_getElem? HX.out, t, h1, h2, h3⟩
          have HIN := hide hin
          have ho4 := hide (mine_ext ho.out x4)
          clear o4 x4 a0 a1 hin HAV2
          generalize hvs : varsA a = vs at *
          have HVS := hide hvs; clear hvs
          go_wp2_with fail
          go_loopw [12, 14, 58] (fun s12 _ s58 w' => ∃ (p : Nat) (V' : Option Addr) (cv : Nat), p ≤ vs.length ∧ s58 = .int .i64 p ∧ s12 = .slice V' p cv ∧ Hid (w'.ownsRow w4.heap.size 3 1 (.slice V' p cv) p ((((vs.take p).map (atN all)).map Int.ofNat).map (Value.int .i64))) ∧ Hid (Ext w4 w')) (fun _ _ s58 _ => vs.length - (intOf s58).toNat)
          case atStart => exact ⟨0, none, 0, by omega, rfl, rfl, World.ownsRow_nil _ _ _ _, Ext.refl _⟩
          case round =>
            obtain ⟨p, V', cv, hp, rfl, rfl, hov, hEp⟩ := hrel
            by_cases h3 : p < vs.length
            · obtain ⟨b3, off3, x, rfl, hx3, hb3, g0⟩ := (HO4.out.ext RS.stab hEp.out).str h3
              have hxa := HIN.out x (List.mem_of_getElem? hx3)
              have hix := index_str all x VA_ all.length cV wr (HVL.out.ext RS.stab (HX5.out.trans hEp.out)) (by omega)
              rw [atN_int hxa] at hix
              have HIX := hide hix
              have HSN := hide (take_snoc' vs p x hx3)
              have Hsrc := hide (sl_lit wr [.int .i64 ((atN all x : Nat) : Int)] 3 1 1 rfl)
              clear hx3 hb3 hxa hix
              go_wp2_with (first | ((with_reducible refine HIX.out.mono ?_); rintro e w5 ⟨rfl, rfl⟩) | (at_builtin; refine wpList_append_sl rfl (.tmp 62) (.tmp 66) _ rfl 3 l0 _ 1 8 Try.underlying100 hl0 hu0 hu1 hu2 rfl (by omega) w4 (hEp.out.trans (Ext.alloc _ _)) _ p _ rfl (mine_ext hov.out (Ext.alloc _ _)) _ 1 1 _ rfl Hsrc.out (fun v h => by obtain rfl := List.mem_singleton.1 h; rfl) (by unfold maxLen; omega) (by omega) ?_; intro A8 c8 w8 own8 E8 G8 L8))
              go_roundw
              case rel => exact ⟨p + 1, A8, c8, by omega, by go_num, rfl, by rw [Hid, HSN.out, List.map_append, List.map_append, List.map_append]; exact own8.out, E8.out⟩
              case measure => simp [intOf]; omega
            · have hpv : vs.take p = vs := List.take_of_length_le (by omega)
              rw [hpv] at hov
              obtain rfl : p = vs.length := by omega
              clear hpv
              go_upto_region 19 with fail
              have HN5 := hide ((hNB.out.ext (HEa.out.trans HX4.out)).ext hEp.out)
              obtain ⟨AR, cR, cellsA, hR, hoA, heA⟩ := id HN5.out.rows
              obtain ⟨AV, cVs, cellsB, hVs, hoB, heB⟩ := id HN5.out.vars
              have hik : (as_.take i).length = i := by rw [List.length_take]; have := HK.out; omega
              simp only [List.length_map, hik] at hR hVs hoA
              subst hR hVs
              dsimp only at hoB
              obtain ⟨x0, hx0', hv0, hv1, hv2⟩ := info_parts infoRs
              obtain ⟨y0, hy0', hw0, hw1, hw2⟩ := info_parts infoIs
              have hb4 : base ≤ w4.heap.size := Nat.le_trans hBs.out (Nat.le_trans (Nat.le_of_lt HCa.out.lt) HX4.out.size)
              have hbw : base ≤ wr.heap.size := Nat.le_trans hb4 hEp.out.size
              have hro := hide (mine_base (b := base) (mine_ext ho4.out hEp.out) (Nat.le_trans hBs.out (Nat.le_of_lt HCa.out.lt)))
              have hvo := hide (mine_base (b := base) hov.out hb4)
              have hXL := hide (HX5.out.trans hEp.out)
              have hLb := hide (show w1.heap.size ≤ base by rw [← HBASE.out]; exact HXW.out.size)
              have HSNa := hide (take_snoc' as_ i a HX.out)
              have c3 : wr.cell? ⟨gw, 3, none⟩ = some (.slice AR i cR) := HN5.out.st.cell 3
              have c4 : wr.cell? ⟨gw, 4, none⟩ = some (.slice AV i cVs) := HN5.out.st.cell 4
              have hgl : gw < wr.heap.size := HN5.out.st.lt
              have hi6 : i ≤ 1048576 := by omega
              have hlr : i = ((as_.take i).map fun a => rowsOfP data a.rel).length := by rw [List.length_map, hik]
              have hlv : i = ((as_.take i).map fun a => (varsA a).map (atN all)).length := by rw [List.length_map, hik]
              have hvn : vs.length = (vs.map (atN all)).length := by rw [List.length_map]
              have HOA := hide hoA; have HEA := hide heA; have HLR := hide hlr; have HLV := hide hlv; have HVN := hide hvn; have HIK := hide hik
              have Hne := hide (show ∀ g, wr.heap.size ≤ g → some g ≠ (Value.slice AR i cR).ownBlock from fun g hg e => by
                have := (hoA.lt g e.symm).2
                omega)
              clear hoA heA hoB heB hlr hlv hvn hik c0 c1
              go_region_law
                (first
                  | ((refine step_pr hx0' hv0 hv1 hv2 HLR.out hi6 HN5.out HOA.out HEA.out hnl.out hro.out hels.out hvo.out hbw hXL.out hLb.out (by rfl) _ _ (by rfl) (by rfl) (Ext.drew' (Ext.alloc wr _)) wr.heap.size (by rfl) ((Blk.new wr _ _).ext (Ext.drew _)) ?_); intro A6 c6 w5 hP1 hP5 hP6 hP7 hP8; have q4 : w5.cell? ⟨gw, 4, none⟩ = some (.slice AV i cVs) := hP1.st.cell 4; have q3 : w5.cell? ⟨gw, 3, none⟩ = some (.slice AR i cR) := hP1.st.cell 3; have q5 : gw < w5.heap.size := hP1.st.lt)
                  | ((refine step_pr hx0' hv0 hv1 hv2 HLR.out hi6 HN5.out HOA.out HEA.out hnl.out hro.out hels.out hvo.out hbw hXL.out hLb.out (by rfl) _ _ (by rfl) (by rfl) (Ext.drew' (Ext.alloc' (Ext.alloc wr _) _)) wr.heap.size (by rfl) (((Blk.new wr _ _).ext (Ext.alloc _ _)).ext (Ext.drew _)) ?_); intro A6 c6 w5 hP1 hP5 hP6 hP7 hP8; have q4 : w5.cell? ⟨gw, 4, none⟩ = some (.slice AV i cVs) := hP1.st.cell 4; have q3 : w5.cell? ⟨gw, 3, none⟩ = some (.slice AR i cR) := hP1.st.cell 3; have q5 : gw < w5.heap.size := hP1.st.lt)
                  | ((refine step_pr hx0' hv0 hv1 hv2 HLR.out hi6 HN5.out HOA.out HEA.out hnl.out hro.out hels.out hvo.out hbw hXL.out hLb.out (by rfl) _ _ (by rfl) (by rfl) (Ext.drew' (Ext.alloc' (Ext.alloc wr _) _)) (wr.heap.size + 1) (by rfl) ((blk_newAt (World.size_alloc _ _)).ext (Ext.drew _)) ?_); intro A6 c6 w5 hP1 hP5 hP6 hP7 hP8; have q4 : w5.cell? ⟨gw, 4, none⟩ = some (.slice AV i cVs) := hP1.st.cell 4; have q3 : w5.cell? ⟨gw, 3, none⟩ = some (.slice AR i cR) := hP1.st.cell 3; have q5 : gw < w5.heap.size := hP1.st.lt)
                  | ((refine step_pv hy0' hw0 hw1 hw2 HLV.out hi6 (hP1.ext (Ext.alloc w5 _)) HVN.out (mine_ext hP8 (Ext.alloc w5 _)) (Nat.le_trans hP7 (Ext.alloc w5 _).size) (hP6.trans (Ext.alloc w5 _)) hLb.out (by rfl) _ _ (by rfl) (by rfl) w5.heap.size (by rfl) (Blk.new w5 _ _) ?_); intro A7 c7 w6 hP2 hP3 hP4; have d3 : w6.cell? ⟨gw, 3, none⟩ = some (.slice AR i cR) := hP2.st.cell 3; have d4 : w6.cell? ⟨gw, 4, none⟩ = some (.slice AV i cVs) := hP2.st.cell 4; have f3 : w6.frozen? ⟨gw, 3, none⟩ = false := hP2.st.frozen 3; have f4 : w6.frozen? ⟨gw, 4, none⟩ = false := hP2.st.frozen 4)
                  | ((refine step_pv hy0' hw0 hw1 hw2 HLV.out hi6 hP1 HVN.out hP8 hP7 hP6 hLb.out (by rfl) _ _ (by rfl) (by rfl) (wr.heap.size + 1) (by rfl) (((blk_newAt (World.size_alloc _ _)).ext (Ext.drew _)).grown hP5 (Hne.out _ (Nat.le_succ _))) ?_); intro A7 c7 w6 hP2 hP3 hP4; have d3 : w6.cell? ⟨gw, 3, none⟩ = some (.slice AR i cR) := hP2.st.cell 3; have d4 : w6.cell? ⟨gw, 4, none⟩ = some (.slice AV i cVs) := hP2.st.cell 4; have f3 : w6.frozen? ⟨gw, 3, none⟩ = false := hP2.st.frozen 3; have f4 : w6.frozen? ⟨gw, 4, none⟩ = false := hP2.st.frozen 4)
                  | ((refine step_pv hy0' hw0 hw1 hw2 HLV.out hi6 hP1 HVN.out hP8 hP7 hP6 hLb.out (by rfl) _ _ (by rfl) (by rfl) wr.heap.size (by rfl) ((((Blk.new wr _ _).ext (Ext.alloc _ _)).ext (Ext.drew _)).grown hP5 (Hne.out _ (Nat.le_refl _))) ?_); intro A7 c7 w6 hP2 hP3 hP4; have d3 : w6.cell? ⟨gw, 3, none⟩ = some (.slice AR i cR) := hP2.st.cell 3; have d4 : w6.cell? ⟨gw, 4, none⟩ = some (.slice AV i cVs) := hP2.st.cell 4; have f3 : w6.frozen? ⟨gw, 3, none⟩ = false := hP2.st.frozen 3; have f4 : w6.frozen? ⟨gw, 4, none⟩ = false := hP2.st.frozen 4))
              all_goals
                have HP2 := hide hP2; have HP3 := hide hP3; have HP4 := hide hP4
                clear hP1 hP2 hP3 hP4 hP5 hP6 hP7 hP8
                go_wp2_with fail
                go_roundw
                case rel =>
                  have hz := ((HP2.out.set_ ⟨gw, gv, gb, gt, nm, ⟨A, n, cA, some ⟨b, off, none⟩, k, d⟩, .slice A6 (i + 1) c6, .slice AV i cVs, .slice none 0 0⟩ 3 _ rfl rfl rfl rfl rfl rfl).set_ ⟨gw, gv, gb, gt, nm, ⟨A, n, cA, some ⟨b, off, none⟩, k, d⟩, .slice A6 (i + 1) c6, .slice A7 (i + 1) c7, .slice none 0 0⟩ 4 _ rfl rfl rfl rfl rfl rfl)
                  refine ⟨i + 1, .slice A6 (i + 1) c6, .slice A7 (i + 1) c7, by omega, by go_num, ?_, ?_, ?_⟩
                  · rw [HSNa.out, List.map_append, List.map_append, List.map_singleton, List.map_singleton, HVS.out]
                    simp only at hz
                    exact hz
                  · exact ((HP3.out.setCell (p := ⟨gw, 3, none⟩) hgw _).setCell (p := ⟨gw, 4, none⟩) hgw _)
                  · have := HP4.out
                    simpa [Hid] using this
                case measure => simp [intOf]; omega
    · obtain rfl : i = k := by omega
      have hti : as_.take i = as_ := List.take_of_length_le (by have := HK.out; omega)
      rw [hti] at hNB
      clear hti
      have q1 : wr.cell? ⟨w.heap.size, 1, none⟩ = some (.slice A n cA) := (HC1.out.ext hE.out) 1 _ rfl
      obtain ⟨l0, hl0, hu0, hu1, hu2⟩ := info_parts infoI
      have HIN := hide (show ∀ x ∈ hd, x ∈ all from fun x hx => by rw [← HALL.out]; exact mem_vars.2 (HSH.out.safe x hx))
      go_wp2_with fail
      have HST0 := hide hNB.out.st
      have HNN := hide (Nat.le_refl n)
      generalize hwb : wr = wb at *
      have HWB := hide hwb; clear hwb q1
      go_loopw [16, 93] (fun _ s93 w' => ∃ (p : Nat) (A' : Option Addr) (c' : Nat), p ≤ n ∧ s93 = .int .i64 p ∧ Hid (Blk w' gw 136 ((⟨gw, gv, gb, gt, nm, ⟨A, n, cA, AB, i, d⟩, R, Vs, .slice A' p c'⟩ : WLoc).cells all.length i 0).toArray) ∧
          Hid (w'.ownsRow wb.heap.size 3 1 (.slice A' p c') p ((((hd.take p).map (atN all)).map Int.ofNat).map (Value.int .i64))) ∧ Hid (Fr (fun g => g = gw) wb w') ∧ Hid (Ext w1 w')) (fun _ s93 _ => n - (intOf s93).toNat)
      case atStart => exact ⟨0, none, 0, by omega, rfl, HST0.out, World.ownsRow_nil _ _ _ _, Fr.refl _ _, hE.out⟩
      case round =>
        obtain ⟨p, A', c', hp, rfl, hst, hown, hFp, hEp⟩ := hrel
        by_cases h3 : p < n
        · obtain ⟨b3, off3, x, rfl, hx3, hb3, g0⟩ := (HQ.out.head.ext RS.stab (HXV2.out.trans hEp.out)).str h3
          have hxa := HIN.out x (List.mem_of_getElem? hx3)
          have hix := fun w5 (h5 : Ext wr w5) => index_str all x VA_ all.length cV w5 (HVL.out.ext RS.stab (hEp.out.trans h5)) (by omega)
          simp only [atN_int hxa] at hix
          have HIX := hide hix
          have HSN := hide (take_snoc' hd p x hx3)
          clear hx3 hb3 hxa hix
          go_upto_region 24 with fail
          have g5 : wr.cell? ⟨gw, 5, none⟩ = some (.slice A' p c') := hst.out.cell 5
          have hgl : gw < wr.heap.size := hst.out.lt
          have hbq := hide hFp.out.size
          clear g0
          go_region_law
            (first
              | ((refine step_ph (x9 := ((atN all x : Nat) : Int)) hl0 hu0 hu1 hu2 (by omega) hown.out hbq.out (by rfl) _ _ (by rfl) (by rfl) (Ext.drew' (Ext.alloc wr _)) wr.heap.size (by rfl) ((Blk.new wr _ _).ext (Ext.drew _)) ?_); intro A8 c8 w8 own8 G8; have V8 := (((hst.out.ext (Ext.alloc wr _)).ext (Ext.drew _)).grown G8 (own_ne_blk hown.out hst.out (by decide))); have v8 : w8.cell? ⟨gw, 5, none⟩ = some (.slice A' p c') := V8.cell 5; have f8 : w8.frozen? ⟨gw, 5, none⟩ = false := V8.frozen 5)
              | (refine step_call (by rfl) (by kernel_rfl) (HIX.out _ (Ext.drew _)) ?_)
              | (refine step_call (by rfl) (by kernel_rfl) (HIX.out _ (Ext.drew' (Ext.alloc _ _))) ?_))
          all_goals
            have V8 := hide V8; have G8 := hide G8; have own8 := hide own8
            have HWQ := hide (Ext.drew' (Ext.alloc wr (.cells #[.int .i64 ((atN all x : Nat) : Int)] 3)))
            have Hlw := hide (hown.out.lt)
            clear v8 f8
            go_wp2_with fail
            go_roundw
            case rel =>
              refine ⟨p + 1, A8, c8, by omega, by go_num, V8.out.set_ 5 _, ?_, ?_, ?_⟩
              · rw [Hid, HSN.out, List.map_append, List.map_append, List.map_append]
                exact mine_set own8.out V8.out (by decide) 5 _
              · exact ((hFp.out.ext HWQ.out).grown G8.out (fun g hg => .inr (Hlw.out g hg).1)).setCell (p := ⟨gw, 5, none⟩) (.inl rfl) _
              · exact (Below.grown (hEp.out.trans HWQ.out) G8.out (hEp.out.trans HWQ.out).size (fun g hg => Nat.le_trans hE.out.size (Hlw.out g hg).1)).setCell (p := ⟨gw, 5, none⟩) hgw _
            case measure => simp [intOf]; omega
        · obtain rfl : p = n := by omega
          have htp : hd.take p = hd := List.take_of_length_le (by have := HHd.out; omega)
          rw [htp] at hown
          clear htp
          go_wp2_with fail
          go_ret
          have hpl : (hd.map (atN all)).length = p := by rw [List.length_map]; exact HHd.out.symm
          refine ⟨⟨gw, gv, gb, gt, nm, ⟨A, p, cA, AB, i, d⟩, R, Vs, .slice A' p c'⟩, rfl, rfl, rfl, base, ?_, HBA.out, HG4.out, HXV3.out.trans hEp.out⟩
          have hk9 : (⟨nm, hd, as_⟩ : Qy).atoms.length = i := HK.out.symm
          have hz := NC.finish (A := A') (c := c') (b := wb.heap.size) (hs := hd.map (atN all)) hNB.out ⟨gw, gv, gb, gt, nm, ⟨A, p, cA, AB, i, d⟩, R, Vs, .slice A' p c'⟩ (by rw [hpl]) hFp.out hst.out (by rw [hpl]; exact hown.out) hBs.out
          rw [hk9, HALL.out]
          have e1 : (lvsFrom all data as_).map Lv.rows = as_.map fun a => rowsOfP data a.rel := by simp [lvsFrom]
          have e2 : (lvsFrom all data as_).map Lv.ks = as_.map fun a => (varsA a).map (atN all) := by simp [lvsFrom]
          show NB w0 base _ all.length i ((lvsFrom all data as_).map Lv.rows) ((lvsFrom all data as_).map Lv.ks) (hd.map (atN all)) wr
          rw [e1, e2]
          exact hz
end Go.Proofs.Ytpfjkjmimmklcaa
