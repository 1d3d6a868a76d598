/-
  NaiveApart: the walk.
-/
import Derived.Test.YtpfjkjmimmklcaaNaiApartM
import Derived.Test.YtpfjkjmimmklcaaNaiAll
import Derived.Test.YtpfjkjmimmklcaaNaiA
import Derived.Test.YtpfjkjmimmklcaaNaiK
import Derived.Test.YtpfjkjmimmklcaaCloseA
import Derived.ArgAppend
namespace Go.Proofs.Ytpfjkjmimmklcaa
open Go.RowKit

theorem both_small {q p : Qy} (hM : smallM 1048576 q) (hM' : smallM 1048576 p) (hq : Shaped q) (hp : Shaped p) (h6 : q.atoms.length + p.atoms.length ≤ 6) : smallM 1048576 (bothQ (plainQ q) (plainQ p)) := by
  have hB := both_shaped hq hp h6
  have h1 := plain_small_any hM
  have h2 := plain_small_any hM'
  have name16 : ∀ {s : ByteArray}, nameB s = true → s.size ≤ 1048576 := fun {s} h => by
    unfold nameB at h
    simp only [Bool.and_eq_true, decide_eq_true_eq] at h
    omega
  refine ⟨h1.name, ?_, fun x hx => name16 (hB.head x hx), Nat.le_trans hB.six (by decide), fun a ha => ?_⟩
  · have := head_len hB
    omega
  · have hA := hB.atoms a ha
    refine ⟨name16 hA.1, by omega, fun t ht => ?_⟩
    rcases List.mem_append.1 (show a ∈ (plainQ q).atoms ++ (plainQ p).atoms.map wA from ha) with h | h
    · exact (h1.atoms a h).terms t ht
    · obtain ⟨b, hb, rfl⟩ := List.mem_map.1 h
      obtain ⟨u, hu, rfl⟩ := List.mem_map.1 (show t ∈ b.terms.map wT from ht)
      have h3 := (h2.atoms b hb).terms u hu
      have h4 := hA.2.2 (wT u) ht
      rw [noVar_wT] at h4
      cases hn : noVar u with
      | true =>
        unfold wT
        rw [if_pos hn]
        exact h3
      | false =>
        have h5 := name16 (h4.2 hn).1
        unfold wT at h5 ⊢
        rw [if_neg (by rw [hn]; decide)] at h5 ⊢
        exact ⟨h5, h3.2⟩
theorem noVar_eq' {t : Tm} (h : noVar t = true) : t.v = .empty := by
  obtain ⟨v, c⟩ := t
  have h1 : v.toList.isEmpty = true := h
  rw [ByteArray.toList_eq] at h1
  obtain ⟨d⟩ := v
  have h2 : d.toList = [] := List.isEmpty_iff.1 h1
  have h3 : d = #[] := by simpa using h2
  subst h3
  rfl
/-- a plain form in memory of its own, as a value -/
def PfIs (q : Qy) (u : Value) (w : World) : Prop := ∃ L w0, u = .agg #[.string q.name, .slice L.A L.n L.c, .slice L.B L.m L.d] ∧ Copied w0 w L (plainQ q)
theorem PfIs.ext {q : Qy} {u : Value} {w w' : World} (h : PfIs q u w) (hw : Ext w w') : PfIs q u w' := by
  obtain ⟨L, w0, h1, h2⟩ := h
  exact ⟨L, w0, h1, h2.ext hw⟩
theorem plain_pf {q : Qy} {L : QLoc} {w : World} (hq : QAt w L q) (hM : smallM 1048576 q) :
    Calls Try.prog 18 #[.agg #[.string q.name, .slice L.A L.n L.c, .slice L.B L.m L.d]] w fun e w' => ∃ v, e = .returned v ∧ Ext w w' ∧ PfIs q v w' :=
  (ref_plain q L w hq hM).mono fun _ _ ⟨L', h1, h2, h3⟩ => ⟨_, h1, h3, L', w, rfl, h2⟩

/-- a copy of a row without room behind it -/
def CrIs (r : List V) (u : Value) (w : World) : Prop := ∃ g, u = .slice (some ⟨g, 0, none⟩) r.length r.length ∧ Blk w g 58 (cellsR r).toArray
theorem CrIs.ext {r : List V} {u : Value} {w w' : World} (h : CrIs r u w) (hw : Ext w w') : CrIs r u w' := by
  obtain ⟨g, h1, h2⟩ := h
  exact ⟨g, h1, h2.ext hw⟩
def RaIs (r : List V) (u : Value) (w : World) : Prop := ∃ A c, u = .slice A r.length c ∧ RowAt w A r.length r
theorem RaIs.ext {r : List V} {u : Value} {w w' : World} (h : RaIs r u w) (hw : Ext w w') : RaIs r u w' := by
  obtain ⟨A, c, h1, h2⟩ := h
  exact ⟨A, c, h1, h2.ext hw⟩
set_option maxRecDepth 100000 in
theorem copy_cr (r : List V) (A : Option Addr) (n c : Nat) (w : World) (ha : RowAt w A n r) (hn : n ≤ 16777216) :
    Calls Try.prog 19 #[.slice A n c] w fun e w' => ∃ u, e = .returned u ∧ Ext w w' ∧ CrIs r u w' := by
  obtain rfl : n = r.length := ha.len
  obtain ⟨i0, hi0, hz0, hz1, hz2⟩ := info_parts infoV
  have hmk := run_make_n (P := Try.prog) 35 58 i0 _ Try.underlying35 hi0 hz0 (by omega) .i64 .i64 r.length hn
  simp only [hz1] at hmk
  have Ha := hide ha; clear ha hz1 hz2 hz0 hi0
  go_enter Try.func19, Try.ntmps19
  go_wp2_with (refine wpList_copy_sl rfl (.tmp 7) (.tmp 8) 35 35 rfl 58 3 Try.underlying35 sizeV A w.heap.size 0 r.length r.length r.length c rfl rfl _ 58 (heap_alloc_new w _) (cellsR r) (Ha.out.ext (Ext.alloc w _)).2 (Nat.le_refl _) (by rw [size_madeCells, Nat.zero_add, Ha.out.2.1]; exact Nat.le_refl _) (cellsR_one r) w (Ext.alloc w _) (Nat.le_refl _) ?_; intro w1 hg1 hE1 hs1)
  go_ret
  refine ⟨_, rfl, hE1.out, w.heap.size, rfl, ?_⟩
  have hl := Ha.out.2.1
  have hg := hg1.out
  rw [splice_all (by rw [Array.length_toList, size_madeCells]; exact hl.symm)] at hg
  exact hg
theorem app_row {w : World} {g m d : Nat} {B : Option Addr} {r s : List V} (hb : Blk w g 58 (cellsR r).toArray) (hs : RowAt w B m s) (hr : r.length ≤ 1048576) (hm : m ≤ 1048576) :
    ∃ v' w', (Builtin.append_ #[35, 35] 35 #[.slice (some ⟨g, 0, none⟩) r.length r.length, .slice B m d]).run Try.prog w = .ok v' w' ∧ Ext w w' ∧ RaIs (r ++ s) v' w' := by
  obtain rfl : m = s.length := hs.len
  obtain ⟨i0, hi0, hz0, hz1, hz2⟩ := info_parts infoV
  rcases Nat.eq_zero_or_pos s.length with h0 | h0
  · have hn : s = [] := List.eq_nil_of_length_eq_zero h0
    subst hn
    refine ⟨.slice (some ⟨g, 0, none⟩) r.length r.length, w, ?_, Ext.refl _, some ⟨g, 0, none⟩, r.length, by rw [List.append_nil], ?_⟩
    · have hu := run_underlying (P := Try.prog) (w := w) Try.underlying35
      cases B <;> simp [Builtin.append_, hu, sizeOf, typeInfo, hi0, Builtin.lenOf, Builtin.firstCells, loadCells, loadCellsFrom, storeCells]
    · rw [List.append_nil]
      exact ⟨rfl, by have := hb.sl (n := r.length) (size := 3) (by simp [cellsR_len]); simpa using this⟩
  · obtain ⟨b, off, rfl, hc⟩ := hs.2.2 h0
    obtain ⟨v', w', hrun, ho, hg⟩ := run_append_arg_grows (P := Try.prog) w 35 35 58 i0 _ 3 32 Try.underlying35 hi0 hz0 hz1 hz2 rfl (by omega) ⟨g, 0, none⟩ r.length r.length (cellsR r) (by rw [cellsR_len])
      (fun j u hj => by rw [add_flat, Nat.zero_add, hb.cell]; simpa using hj) ⟨b, off, none⟩ s.length d (cellsR s) (by rw [cellsR_len]) (fun j u hj => by rw [add_flat]; exact hc j u hj) (by omega) (by unfold maxLen; omega) (by omega)
    have hv : ∃ A' c', v' = .slice A' (r.length + s.length) c' := by
      rcases ho.2 with ⟨h5, h6⟩ | ⟨g, cap, cur, h5, _⟩
      · exact ⟨none, 0, by rw [h5, h6]⟩
      · exact ⟨_, _, h5⟩
    obtain ⟨A', c', rfl⟩ := hv
    have hX : Ext w w' := Below.grown (Ext.refl w) hg (Nat.le_refl _) (fun k hk => by cases hk)
    refine ⟨_, w', hrun, hX, A', c', by rw [List.length_append], ?_⟩
    rw [List.length_append]
    rw [← cellsR_append] at ho
    exact RowAt.own ho
theorem eUpon_app {P : Program} {w w' : World} {a : Act} {ops : Array Oper} {o : Oper} {s x : Operand} {t : TypeId} {u1 u2 v' : Value} {G : Value → World → Prop} (hw : Region.wanted o (yielded ops a.tmps) = true) (ho : o.op = .call { callee := .builtin .append, args := #[s, x], argTypes := #[t, t] })
    (hs : a.eval s = u1) (hx : a.eval x = u2) (hrun : (Builtin.append_ #[t, t] o.type #[u1, u2]).run P w = .ok v' w') (hG : Ext w w' ∧ G v' w') : if Region.wanted o (yielded ops a.tmps) = true then eUpon P w (.p G) ((execOp a.eval o).run P w) else G undef w := by
  rw [if_pos hw]
  unfold execOp
  simp only [ho, resolve, invoke, builtin, Sem.run_bind, Sem.run_pure, Result.andThen_ok, List.map_toArray, List.map_cons, List.map_nil, hs, hx, hrun]
  exact hG

set_option maxHeartbeats 8000000 in
set_option maxRecDepth 100000 in
theorem law_apart (q p : Qy) (L L' : QLoc) (data : List Tbl) (B : Option Addr) (m c : Nat) (w : World) (hq : QAt w L q) (hM : smallM 1048576 q) (hp : QAt w L' p) (hM' : smallM 1048576 p)
    (hb : LAt RB 2 w B m data) (hd : ∀ t ∈ data, smallTb 1048576 t) (hm : m ≤ 1048576) :
    Calls Try.prog 6 #[qval q.name L, qval p.name L', .slice B m c] w fun e w' => e = .returned (.bool true) ∧ Ext w w' := by
  have hfd : ∀ (x y z : Value) (w : World), (Instr.field 25 (.agg #[x, y, z]) 2).run Try.prog w = .ok z w := fun x y z w => by first | rfl | kernel_rfl | (go_simp; done) | simp [go_sem]
  obtain rfl : m = data.length := hb.len
  have hs1 : (data.flatMap Tbl.rows).length ≤ 1099511627776 := Nat.le_trans (sum_rows data hd) (by have : data.length * 1048576 ≤ 1048576 * 1048576 := Nat.mul_le_mul_right _ (by omega); omega)
  have HSQ := hide (fun w1 (h1 : Ext w w1) => ref_shape q L w1 (hq.ext h1) hM)
  have HSP := hide (fun w1 (h1 : Ext w w1) => ref_shape p L' w1 (hp.ext h1) hM')
  have HPQ := hide (fun w1 (h1 : Ext w w1) => plain_pf (hq.ext h1) hM)
  have HPP := hide (fun w1 (h1 : Ext w w1) => plain_pf (hp.ext h1) hM')
  have HCI := hide (fun w1 (h1 : Ext w w1) => copy_tabsIs (c := c) (hb.ext RB.stab h1) (by omega) (fun t ht => ⟨Nat.le_trans (hd t ht).2.1 (by omega), fun r hr => Nat.le_trans ((hd t ht).2.2 r hr).1 (by omega)⟩))
  have HAX := hide (fun L1 A1 n1 c1 w1 (h1 : QAt w1 L1 (plainQ q)) (h2 : LAt RB 2 w1 A1 n1 data) => answers_lat (plainQ q) L1 data A1 n1 c1 1073741824 w1 h1 (plain_small_any hM) h2 (by have := h2.len; omega) hs1 (fun t ht r hr => ((hd t ht).2.2 r hr).1))
  have HAY := hide (fun L1 A1 n1 c1 w1 (h1 : QAt w1 L1 (plainQ p)) (h2 : LAt RB 2 w1 A1 n1 data) => answers_lat (plainQ p) L1 data A1 n1 c1 1073741824 w1 h1 (plain_small_any hM') h2 (by have := h2.len; omega) hs1 (fun t ht r hr => ((hd t ht).2.2 r hr).1))
  have HAB := hide (fun L1 A1 n1 c1 w1 (hS : smallM 1048576 (bothQ (plainQ q) (plainQ p))) (h1 : QAt w1 L1 (bothQ (plainQ q) (plainQ p))) (h2 : LAt RB 2 w1 A1 n1 data) => answers_lat (bothQ (plainQ q) (plainQ p)) L1 data A1 n1 c1 1073741824 w1 h1 hS h2 (by have := h2.len; omega) hs1 (fun t ht r hr => ((hd t ht).2.2 r hr).1))
  have HCX := hide (fun L1 w1 (h1 : QAt w1 L1 (plainQ q)) => copy_cp (plainQ q) L1 w1 h1 (plain_small_any hM))
  have HCY := hide (fun L1 w1 (h1 : QAt w1 L1 (plainQ p)) => copy_cp (plainQ p) L1 w1 h1 (plain_small_any hM'))
  have HE := hide ((Ext.alloc w (.cells #[.string q.name, .slice L.A L.n L.c, .slice L.B L.m L.d] 25)).alloc' (.cells #[.string p.name, .slice L'.A L'.n L'.c, .slice L'.B L'.m L'.d] 25))
  have HB0 := hide ((Blk.new w 25 #[.string q.name, .slice L.A L.n L.c, .slice L.B L.m L.d]).ext (Ext.alloc _ (.cells #[.string p.name, .slice L'.A L'.n L'.c, .slice L'.B L'.m L'.d] 25)))
  have HB1 := hide (show Blk ((w.alloc (.cells #[.string q.name, .slice L.A L.n L.c, .slice L.B L.m L.d] 25)).alloc (.cells #[.string p.name, .slice L'.A L'.n L'.c, .slice L'.B L'.m L'.d] 25)) (w.heap.size + 1) 25 #[.string p.name, .slice L'.A L'.n L'.c, .slice L'.B L'.m L'.d] from Blk.newAt (World.size_alloc _ _))
  generalize hW2 : (w.alloc (.cells #[.string q.name, .slice L.A L.n L.c, .slice L.B L.m L.d] 25)).alloc (.cells #[.string p.name, .slice L'.A L'.n L'.c, .slice L'.B L'.m L'.d] 25) = W2 at *
  have HW2 := hide hW2; clear hW2
  have HLQ := hide (show L.m = q.atoms.length ∧ L'.m = p.atoms.length from ⟨hq.atoms.len, hp.atoms.len⟩)
  have HLM := hide (show q.atoms.length ≤ 1048576 ∧ p.atoms.length ≤ 1048576 from ⟨hM.atomsL, hM'.atomsL⟩)
  have HSM := hide (both_small hM hM')
  clear hq hM hp hM' hb hd hs1
  obtain ⟨A, n, cA, AB, k, d⟩ := L
  obtain ⟨A', n', cA', AB', k', d'⟩ := L'
  simp only [qval] at *
  obtain rfl : k = q.atoms.length := HLQ.out.1
  obtain rfl : k' = p.atoms.length := HLQ.out.2
  have hl1 := HLM.out.1
  have hl2 := HLM.out.2
  go_enter Try.func6, Try.ntmps6
  go_wp2_with fail
  rw [HW2.out]
  have a0 : W2.cell? ⟨w.heap.size, 0, none⟩ = some (.string q.name) := HB0.out.cell 0
  have a1 : W2.cell? ⟨w.heap.size, 1, none⟩ = some (.slice A n cA) := HB0.out.cell 1
  have a2 : W2.cell? ⟨w.heap.size, 2, none⟩ = some (.slice AB q.atoms.length d) := HB0.out.cell 2
  by_cases hsq : shapeQ q = 0
  · rw [hsq] at HSQ
    have HQS := hide (shapeQ_iff.1 hsq)
    clear hsq
    by_cases hsp : shapeQ p = 0
    · rw [hsp] at HSP
      have HPS := hide (shapeQ_iff.1 hsp)
      clear hsp
      by_cases h6 : q.atoms.length + p.atoms.length ≤ 6
      · have h6i : ¬ (6 : Int) < (q.atoms.length : Int) + (p.atoms.length : Int) := by omega
        go_upto_region 3 with (first
          | ((with_reducible refine (HSQ.out _ HE.out).mono ?_); rintro e w1 ⟨rfl, x1⟩; have X1 := hide x1; clear x1 a0 a1 a2
             have b0 : w1.cell? ⟨w.heap.size + 1, 0, none⟩ = some (.string p.name) := (HB1.out.ext X1.out).cell 0
             have b1 : w1.cell? ⟨w.heap.size + 1, 1, none⟩ = some (.slice A' n' cA') := (HB1.out.ext X1.out).cell 1
             have b2 : w1.cell? ⟨w.heap.size + 1, 2, none⟩ = some (.slice AB' p.atoms.length d') := (HB1.out.ext X1.out).cell 2)
          | ((with_reducible refine (HSP.out _ (HE.out.trans X1.out)).mono ?_); rintro e w2 ⟨rfl, x2⟩; have X2 := hide (X1.out.trans x2); clear x2 b0 b1 b2
             have a2 : w2.cell? ⟨w.heap.size, 2, none⟩ = some (.slice AB q.atoms.length d) := (HB0.out.ext X2.out).cell 2
             have b2 : w2.cell? ⟨w.heap.size + 1, 2, none⟩ = some (.slice AB' p.atoms.length d') := (HB1.out.ext X2.out).cell 2))
        have HSMB := hide (HSM.out HQS.out HPS.out h6)
        clear a2 b2 HSM
        have a0 := cell_ext (show w2.cell? ⟨w.heap.size, 0, none⟩ = some (.string q.name) from (HB0.out.ext X2.out).cell 0)
        have a1 := cell_ext (show w2.cell? ⟨w.heap.size, 1, none⟩ = some (.slice A n cA) from (HB0.out.ext X2.out).cell 1)
        have a2 := cell_ext (show w2.cell? ⟨w.heap.size, 2, none⟩ = some (.slice AB q.atoms.length d) from (HB0.out.ext X2.out).cell 2)
        have b0 := cell_ext (show w2.cell? ⟨w.heap.size + 1, 0, none⟩ = some (.string p.name) from (HB1.out.ext X2.out).cell 0)
        have b1 := cell_ext (show w2.cell? ⟨w.heap.size + 1, 1, none⟩ = some (.slice A' n' cA') from (HB1.out.ext X2.out).cell 1)
        have b2 := cell_ext (show w2.cell? ⟨w.heap.size + 1, 2, none⟩ = some (.slice AB' p.atoms.length d') from (HB1.out.ext X2.out).cell 2)
        refine wp_region_ext2 7 8 6 (by decide) (by kernel_rfl) (by rfl) (by rfl) (by kernel_rfl) (by kernel_rfl) (by kernel_rfl) ?_
        iterate 1
          refine wpE_k (by kernel_rfl) (by kernel_rfl) ?_
          apply Exists.intro
          refine ⟨fun w1 hw1 => ?_, fun K hK => ?_⟩
          · go_simp; first | done | rfl
          go_simp; refine hK _ _ ?_; clear hK K
        refine wpE_p [] (PfIs q) (fun u w1 w2 _ h2 h => PfIs.ext h h2) rfl (by kernel_rfl) (fun w3 hw3 => ?_) ?_
        · simp only [LookQ]
          clear a0 a1 a2 b0 b1 b2
          go_simp
          exact ⟨Ext.refl _, HPQ.out w3 (HE.out.trans (X2.out.trans hw3))⟩
        iterate 1
          refine wpE_k (by kernel_rfl) (by kernel_rfl) ?_
          apply Exists.intro
          refine ⟨fun w1 hw1 => ?_, fun K hK => ?_⟩
          · go_simp; first | done | rfl
          go_simp; refine hK _ _ ?_; clear hK K
        refine wpE_p [] (PfIs p) (fun u w1 w2 _ h2 h => PfIs.ext h h2) rfl (by kernel_rfl) (fun w3 hw3 => ?_) ?_
        · simp only [LookQ]
          clear a0 a1 a2 b0 b1 b2
          go_simp
          exact ⟨Ext.refl _, HPP.out w3 (HE.out.trans (X2.out.trans hw3))⟩
        clear a0 a1 a2 b0 b1 b2
        refine wpE_p [] (VarQ w2) (fun u w1 w2 _ h2 h => h.ext h2) rfl (by kernel_rfl) (fun w3 hw3 => ?_) ?_
        · simp only [LookQ]
          go_simp
          exact ⟨Ext.alloc _ _, w3.heap.size, rfl, hw3.size, Blk.new _ _ _⟩
        refine wpE_p [] (VarQ w2) (fun u w1 w2 _ h2 h => h.ext h2) rfl (by kernel_rfl) (fun w3 hw3 => ?_) ?_
        · simp only [LookQ]
          go_simp
          exact ⟨Ext.alloc _ _, w3.heap.size, rfl, hw3.size, Blk.new _ _ _⟩
        refine wpE_nil ⟨rfl, by kernel_rfl, fun w3 hw3 => ?_⟩
        simp only [EndQ, List.drop]
        rintro u8 ⟨g8, rfl, hg8, hB8⟩ u7 ⟨g7, rfl, hg7, hB7⟩ v48 ⟨⟨A2, n2, c2, B2, m2, d2⟩, w02, rfl, hq2⟩ v46 ⟨⟨A1, n1, c1, B1, m1, d1⟩, w01, rfl, hq1⟩ hne
        have hgg : g7 ≠ g8 := fun e => by subst e; exact ptr_ne_undef _ (hne rfl)
        clear hne
        have hgg2 : g8 ≠ g7 := Ne.symm hgg
        have E1 := hide hw3; have Q1 := hide hq1; have Q2 := hide hq2; have B7 := hide hB7; have B8 := hide hB8
        have f0 := hB7.frozen 0; have f1 := hB7.frozen 1; have f2 := hB7.frozen 2
        have k0 := hB8.frozen 0; have k1 := hB8.frozen 1; have k2 := hB8.frozen 2
        have z0 : w3.cell? ⟨g7, 0, none⟩ = some (.string .empty) := hB7.cell 0
        have z1 : w3.cell? ⟨g7, 1, none⟩ = some (.slice none 0 0) := hB7.cell 1
        have z2 : w3.cell? ⟨g7, 2, none⟩ = some (.slice none 0 0) := hB7.cell 2
        have y0 : w3.cell? ⟨g8, 0, none⟩ = some (.string .empty) := hB8.cell 0
        have y1 : w3.cell? ⟨g8, 1, none⟩ = some (.slice none 0 0) := hB8.cell 1
        have y2 : w3.cell? ⟨g8, 2, none⟩ = some (.slice none 0 0) := hB8.cell 2
        clear hw3 hq1 hq2 hB7 hB8
        obtain ⟨W5, hW5⟩ : ∃ W5, W5 = (((((w3.setCell ⟨g7, 0, none⟩ (.string q.name)).setCell ⟨g7, 1, none⟩ (.slice A1 n1 c1)).setCell ⟨g7, 2, none⟩ (.slice B1 m1 d1)).setCell ⟨g8, 0, none⟩ (.string p.name)).setCell ⟨g8, 1, none⟩ (.slice A2 n2 c2)).setCell ⟨g8, 2, none⟩ (.slice B2 m2 d2) := ⟨_, rfl⟩
        have E5 := hide (show Ext w2 W5 from hW5 ▸ (E1.out.set3 hg7 _ _ _).set3 hg8 _ _ _)
        have D7 := hide (show Blk W5 g7 25 #[.string q.name, .slice A1 n1 c1, .slice B1 m1 d1] from hW5 ▸ (blk_set3 B7.out _ _ _).far3 hgg _ _ _)
        have D8 := hide (show Blk W5 g8 25 #[.string p.name, .slice A2 n2 c2, .slice B2 m2 d2] from hW5 ▸ blk_set3 (B8.out.far3 hgg2 _ _ _) _ _ _)
        have R1 := hide (show QAt W5 ⟨A1, n1, c1, B1, m1, d1⟩ (plainQ q) from (show Copied w01 W5 ⟨A1, n1, c1, B1, m1, d1⟩ (plainQ q) from hW5 ▸ (Q1.out.set3 B7.out _ _ _).set3 (B8.out.far3 hgg2 _ _ _) _ _ _).qat)
        have R2 := hide (show QAt W5 ⟨A2, n2, c2, B2, m2, d2⟩ (plainQ p) from (show Copied w02 W5 ⟨A2, n2, c2, B2, m2, d2⟩ (plainQ p) from hW5 ▸ (Q2.out.set3 B7.out _ _ _).set3 (B8.out.far3 hgg2 _ _ _) _ _ _).qat)
        have HC5 := hide (show Calls Try.prog 14 #[.agg #[.string q.name, .slice A1 n1 c1, .slice B1 m1 d1]] W5 _ from HCX.out ⟨A1, n1, c1, B1, m1, d1⟩ W5 R1.out)
        have HG78 := hide (show W2.heap.size ≤ g7 ∧ W2.heap.size ≤ g8 from ⟨Nat.le_trans X2.out.size hg7, Nat.le_trans X2.out.size hg8⟩)
        have HW5 := hide hW5
        rw [hW5] at HC5
        clear hW5 Q1 Q2 B7 B8 E1 HCX
        go_wp2_with ((with_reducible refine HC5.out.mono ?_); rintro e w6 ⟨A6, n6, c6, B6, m6, d6, rfl, q6, x6⟩; rw [← HW5.out] at q6 x6; have Q6 := hide q6; have X6 := hide x6; have y1' : w6.cell? ⟨g8, 1, none⟩ = some (.slice A2 n2 c2) := (D8.out.ext X6.out).cell 1; have hlt8 : g8 < w6.heap.size := (D8.out.ext X6.out).lt; have hne8 : g8 ≠ w6.heap.size := Nat.ne_of_lt hlt8; clear q6 x6 f0 f1 f2 k0 k1 k2 z0 z1 z2 y0 y1 y2)
        have HPH := hide (show (plainQ q).head.length = q.head.length ∧ (plainQ p).head.length = p.head.length ∧ q.head.length ≤ 30 ∧ p.head.length ≤ 30 ∧ (plainQ q).atoms.length = q.atoms.length ∧ (plainQ p).atoms.length = p.atoms.length from ⟨by simp [plainQ], by simp [plainQ], head_len HQS.out, head_len HPS.out, by simp [plainQ], by simp [plainQ]⟩)
        have HVS := hide (plain_heads HPS.out)
        have HVT := hide (plain_terms HPS.out)
        obtain ⟨psx, HPX, HPL, HBM⟩ := BothM.start (q := plainQ q) Q6.out X6.out (Ext.alloc w6 (.cells #[.string (plainQ q).name, .slice A6 n6 c6, .slice B6 m6 d6] 25)) (by have := HPH.out; omega) (Blk.new w6 _ _)
        have HPX := hide HPX; have HPL := hide HPL; have HBM := hide HBM
        have HX6 := hide (X6.out.alloc' (.cells #[.string (plainQ q).name, .slice A6 n6 c6, .slice B6 m6 d6] 25))
        have HG9 := hide (show W5.heap.size ≤ w6.heap.size from X6.out.size)
        obtain rfl : n2 = p.head.length := R2.out.head.len.trans HPH.out.2.1
        have HH2 := hide R2.out.head
        simp only at HH2 HBM
        generalize hg9 : w6.heap.size = g9 at *
        generalize w6.alloc (.cells #[.string (plainQ q).name, .slice A6 n6 c6, .slice B6 m6 d6] 25) = w7 at *
        clear y1' hlt8 hne8 hg9
        generalize hYh : (plainQ p).head = yh at *
        generalize hXh : (plainQ q).head = xh at *
        have HYX := hide (And.intro hYh hXh); clear hYh hXh
        obtain ⟨i0, hi0, hz0, hz1, hz2⟩ := info_parts infoS
        go_loopw [11, 54] (fun _ s54 w' => ∃ (i : Nat) (A : Option Addr) (c : Nat), i ≤ p.head.length ∧ s54 = .int .i64 i ∧ Hid (BothM W5 w' g9 (plainQ q).name (xh ++ (yh.take i).map wN) A c psx B6 d6)) (fun _ s54 _ => p.head.length - (intOf s54).toNat)
        case atStart => exact ⟨0, A6, c6, by omega, rfl, by simpa [Hid] using HBM.out⟩
        case round =>
          obtain ⟨i, A9, c9, hin, rfl, hB⟩ := hrel
          have hlen := HPH.out
          by_cases h : i < p.head.length
          · obtain ⟨bs, so, x, rfl, hx, hbs, e0⟩ := (HH2.out.ext RS.stab hB.out.ext).str h
            have HNX := hide (show xh ++ (yh.take (i + 1)).map wN = (xh ++ (yh.take i).map wN) ++ [wN x] by rw [take_next _ _ _ hx, List.map_append, List.append_assoc]; rfl)
            have HXS := hide (show x.size ≤ 1048576 from by
              obtain ⟨n, hn, rfl⟩ := HVS.out x (List.mem_of_getElem? hx)
              exact vName_le (by omega))
            have hxs := HXS.out
            have hll : (xh ++ (yh.take i).map wN).length ≤ 100 := by
              rw [List.length_append, List.length_map, List.length_take]
              omega
            clear hx hbs
            generalize xh ++ (yh.take i).map wN = hdi at *
            have hv := hB.out.var
            have v1 : wr.cell? ⟨g9, 1, none⟩ = some (.slice A9 hdi.length c9) := hv.cell 1
            have v2 := hv.frozen 1
            have hXW := hB.out.ext
            clear hv
            go_wp2_with (at_builtin; refine wpList_append_sl rfl (.tmp 59) (.tmp 62) _ rfl 9 i0 _ 1 16 Try.underlying22 hi0 hz0 hz1 hz2 rfl (by omega) W5 (hXW.trans (Ext.alloc _ _)) _ hdi.length (strC hdi) rfl (mine_ext hB.out.head (Ext.alloc _ _)) _ 1 1 [.string ((⟨#[119]⟩ : ByteArray) ++ x)] rfl ((Blk.new _ _ _).sl (n := 1) (size := 1) rfl) (by intro v hv; obtain rfl := List.mem_singleton.1 hv; rfl) (by unfold maxLen; omega) (by omega) ?_; intro A12 c12 w12 own12 E12 G12 L12; have HB12 := hide (hB.out.go (Ext.alloc wr (.cells #[.string ((⟨#[119]⟩ : ByteArray) ++ x)] 9))); have HV12 := hide (HB12.out.var.grown G12.out (own_ne_blk HB12.out.head HB12.out.var (by decide))); have u1 : w12.cell? ⟨g9, 1, none⟩ = some (.slice A9 hdi.length c9) := HV12.out.cell 1; have u2 := HV12.out.frozen 1)
            have hfin := HB12.out.pushH (x := wN x) G12.out E12.out own12.out HG9.out
            rw [← HNX.out] at hfin
            go_roundw
            case rel => exact ⟨i + 1, A12, c12, by omega, by go_num, by simpa [Hid] using hfin⟩
            case measure => simp [intOf]; omega
          · obtain rfl : i = p.head.length := by omega
            have hbf := hB.out
            rw [List.take_of_length_le (by omega)] at hbf
            have HBF := hide hbf
            have HWL := hide hB.out.ext
            have HC8 := hide (show Calls Try.prog 14 #[.agg #[.string p.name, .slice A2 p.head.length c2, .slice B2 m2 d2]] wr _ from HCY.out ⟨A2, p.head.length, c2, B2, m2, d2⟩ wr (R2.out.ext HWL.out))
            have q0 : wr.cell? ⟨g8, 0, none⟩ = some (.string p.name) := (D8.out.ext HWL.out).cell 0
            have q1 : wr.cell? ⟨g8, 1, none⟩ = some (.slice A2 p.head.length c2) := (D8.out.ext HWL.out).cell 1
            have q2 : wr.cell? ⟨g8, 2, none⟩ = some (.slice B2 m2 d2) := (D8.out.ext HWL.out).cell 2
            clear hbf hB HCY hi0 hz0 hz1 hz2
            obtain ⟨ia, ha0, hb0, hb1, hb2⟩ := info_parts infoA
            generalize hwl : wr = wl at *
            clear hwl
            go_wp2_with ((with_reducible refine HC8.out.mono ?_); rintro e w10 ⟨A10, n10, c10, B10, m10, d10, rfl, q10, x10⟩; have Q10 := hide q10; have X10 := hide x10; clear q10 x10 q0 q1 q2)
            obtain ⟨psy, HPY, hmy, HYM⟩ := YM.start Q10.out
            simp only at hmy HYM
            subst hmy
            have HPY := hide HPY; have HYM := hide HYM
            have HBG := hide (HBF.out.go X10.out)
            have HPXL := hide (show psx.length = q.atoms.length ∧ psy.length = p.atoms.length ∧ q.atoms.length + p.atoms.length ≤ 6 from ⟨by have := congrArg List.length HPX.out; rw [List.length_map] at this; exact this.trans HPH.out.2.2.2.2.1, by have := congrArg List.length HPY.out; rw [List.length_map] at this; exact this.trans HPH.out.2.2.2.2.2, h6⟩)
            have HLX := hide (show ∀ p ∈ psx, p.2 < wl.heap.size from fun p hp => (HBF.out.terms p hp).lt)
            have HSEP := hide (Sep.start HBF.out.row HYM.out.row (Nat.le_refl _))
            have HT5 := hide (show ∀ p ∈ psy, p.1.terms.length ≤ 5 ∧ ∀ t ∈ p.1.terms, t.v.size ≤ 1048575 from fun p1 hp1 => by
              have hm : p1.1 ∈ (plainQ p).atoms := by rw [← HPY.out]; exact List.mem_map.2 ⟨p1, hp1, rfl⟩
              refine ⟨((plain_shaped HPS.out).atoms p1.1 hm).2.1, fun t ht => ?_⟩
              cases hn : noVar t with
              | true => rw [noVar_eq' hn]; decide
              | false =>
                obtain ⟨n, hn100, e⟩ := HVT.out p1.1 hm t ht hn
                rw [e]
                have := digL_len hn100
                show (118 :: digL n).toArray.size ≤ 1048575
                simp only [List.size_toArray, List.length_cons]
                omega)
            generalize hhd : xh ++ yh.map wN = hd9 at *
            have HHD := hide hhd; clear hhd
            go_loopw [13, 14, 70, 77] (fun _ _ s70 _ w' => ∃ (i : Nat) (B : Option Addr) (d : Nat), i ≤ psy.length ∧ s70 = .int .i64 i ∧ Hid (BothM W5 w' g9 (plainQ q).name hd9 A9 c9 (psx ++ (psy.take i).map wP) B d) ∧ Hid (YM wl w' psy i B10 d10) ∧ Hid (Sep B B10)) (fun _ _ s70 _ _ => psy.length - (intOf s70).toNat)
            case atStart => exact ⟨0, B6, d6, by omega, rfl, by simpa [Hid] using HBG.out, HYM.out, HSEP.out⟩
            case round =>
              obtain ⟨i, B9, d9, hin, rfl, hB, hY, hS⟩ := hrel
              clear HBG HYM HSEP
              have hx6 : psy.length ≤ 6 := by have h9 := HPXL.out; omega
              by_cases h : i < psy.length
              · have hp0 : psy[i]? = some psy[i] := List.getElem?_eq_getElem h
                generalize psy[i] = p0 at hp0
                obtain ⟨b10, hB10, e0, e1⟩ := hY.out.at_ hp0
                subst hB10
                obtain ⟨a0, gt⟩ := p0
                obtain ⟨rl, ts⟩ := a0
                simp only at e0 e1
                have HP0 := hide hp0
                have HTS := hide (HT5.out _ (List.mem_of_getElem? hp0))
                have HTB := hide (hY.out.terms i _ (Nat.le_refl _) hp0)
                have hts := HTS.out.1
                simp only at hts HTB HTS
                clear hp0
                go_wp2_with fail
                have HBA := hide (Blk.new wr 40 #[.string rl, .slice (some ⟨gt, 0, none⟩) ts.length ts.length])
                have XA := hide (Ext.alloc wr (.cells #[.string rl, .slice (some ⟨gt, 0, none⟩) ts.length ts.length] 40))
                have HB12 := hide (hB.out.go XA.out); have HY12 := hide (hY.out.go XA.out); have HT12 := hide (HTB.out.ext XA.out)
                clear e0 e1 hB hY HTB
                generalize wr.alloc (.cells #[.string rl, .slice (some ⟨gt, 0, none⟩) ts.length ts.length] 40) = w12 at *
                generalize wr.heap.size = ga at *
                clear XA
                go_loopw [14, 77] (fun _ s77 w' => ∃ j : Nat, j ≤ ts.length ∧ s77 = .int .i64 j ∧ Hid (Fr (fun g => g = gt) w12 w') ∧ Hid (Blk w' gt 60 (tmC (partL wT j ts)).toArray)) (fun _ s77 _ => ts.length - (intOf s77).toNat)
                case atStart => exact ⟨0, by omega, rfl, Fr.refl _ _, by rw [Hid, partL_zero]; exact HT12.out⟩
                case round =>
                  obtain ⟨j, hjn, rfl, hF, hT⟩ := hrel
                  have HBA' := hide (HBA.out.fr hF.out (fun e => blk_ne HBA.out HT12.out (by decide) e))
                  by_cases hj : j < ts.length
                  · have ht : ts[j]? = some ts[j] := List.getElem?_eq_getElem hj
                    generalize ts[j] = t at ht
                    have hg := partL_get wT ht
                    obtain ⟨bt, ot, t', hA, hx, hbt, d0, _, _, _⟩ := (blk_terms hT.out).tm (show j < (partL wT j ts).length by rw [partL_len]; exact hj)
                    injection hA with hA
                    injection hA with hA1 hA2
                    subst hA1; subst hA2
                    obtain rfl : t' = t := by rw [hx] at hg; exact Option.some.inj hg
                    rw [Nat.zero_add] at d0
                    have d1 : wr.cell? ⟨ga, 1, none⟩ = some (.slice (some ⟨gt, 0, none⟩) ts.length ts.length) := HBA'.out.cell 1
                    have HTV := hide (HTS.out.2 t' (List.mem_of_getElem? ht))
                    have HTX := hide ht
                    clear hx hg hbt ht
                    by_cases hv : 0 < t'.v.size
                    · have he := size_some hv
                      have hnv := hide (noVar_false (t := t') hv)
                      have hsz : ¬ 9223372036854775807 < 1 + t'.v.size := by have := HTV.out; omega
                      have hs1 : (⟨#[119]⟩ : ByteArray).size = 1 := rfl
                      go_upto_region 17 with fail
                      have d0 := cell_ext d0
                      have d1 := cell_ext d1
                      refine wp_region_ext 12 (by kernel_rfl) (by kernel_rfl) (by kernel_rfl) ?_
                      iterate 12
                        refine wpE_k (by kernel_rfl) (by kernel_rfl) ?_
                        apply Exists.intro
                        refine ⟨fun w1 hw1 => ?_, fun K hK => ?_⟩
                        · go_simp; first | done | rfl
                        go_simp; refine hK _ _ ?_; clear hK K
                      refine wpE_nil ⟨rfl, by kernel_rfl, fun wq hwq => ?_⟩
                      simp only [EndQ, List.drop]
                      clear d0 d1
                      have HTQ := hide (hT.out.ext hwq)
                      have XQ := hide hwq
                      clear hwq
                      have u1 : wq.cell? ⟨gt, j * 4, none⟩ = some (.string t'.v) := by
                        obtain ⟨bt, ot, t2, hA, hx, hbt, d9, _, _, _⟩ := (blk_terms HTQ.out).tm (show j < (partL wT j ts).length by rw [partL_len]; exact hj)
                        injection hA with hA
                        injection hA with hA1 hA2
                        subst hA1; subst hA2
                        have hg := partL_get wT HTX.out
                        obtain rfl : t2 = t' := by rw [hx] at hg; exact Option.some.inj hg
                        simpa using d9
                      have u2 := HTQ.out.frozen (j * 4)
                      have hwt : wT t' = ⟨(⟨#[119]⟩ : ByteArray) ++ t'.v, t'.c⟩ := by unfold wT; rw [if_neg (by rw [hnv.out]; decide)]; rfl
                      have hfin := HTQ.out.set_ (j * 4) (.string ((⟨#[119]⟩ : ByteArray) ++ t'.v))
                      rw [tmC_part wT HTX.out hwt] at hfin
                      have HFN := hide hfin
                      clear hfin
                      go_wp2_with fail
                      go_roundw
                      case rel => exact ⟨j + 1, by omega, by go_num, (hF.out.ext XQ.out).setCell (p := ⟨gt, j * 4, none⟩) (.inl rfl) _, HFN.out⟩
                      case measure => simp [intOf]; omega
                    · have he := size_empty (s := t'.v) (by omega)
                      have hnv := hide (noVar_true (t := t') (by omega))
                      have hwt : wT t' = t' := by unfold wT; rw [if_pos hnv.out]
                      have hkeep := hide (partL_keep wT HTX.out hwt)
                      go_wp2_with fail
                      go_roundw
                      case rel => exact ⟨j + 1, by omega, by go_num, hF.out, by rw [Hid, hkeep.out]; exact hT.out⟩
                      case measure => simp [intOf]; omega
                  · obtain rfl : j = ts.length := by omega
                    have hT2 := hT.out
                    rw [partL_all] at hT2
                    have hne : ∀ p1 ∈ psx ++ (psy.take i).map wP, p1.2 ≠ gt := fun p1 hp1 => by
                      rcases List.mem_append.1 hp1 with hp1 | hp1
                      · have g1 := HLX.out p1 hp1
                        have g2 := HY12.out.ge _ (List.mem_of_getElem? HP0.out)
                        simp only at g2
                        omega
                      · obtain ⟨p2, hp2, rfl⟩ := List.mem_map.1 hp1
                        obtain ⟨k, hk, e⟩ := List.getElem_of_mem hp2
                        have hk9 : k < (psy.take i).length := hk
                        rw [List.length_take] at hk9
                        have e2 : psy[k]? = some p2 := by
                          rw [List.getElem_take] at e
                          rw [List.getElem?_eq_getElem (show k < psy.length by omega), e]
                        have hki : k < i := by omega
                        show p2.2 ≠ gt
                        exact pw_ne HY12.out.pw HP0.out e2 (Nat.ne_of_lt hki)
                    have HBE := hide (HB12.out.fr HT12.out hF.out hne (Nat.le_trans HWL.out.size (HY12.out.ge _ (List.mem_of_getElem? HP0.out))))
                    have HYE := hide (HY12.out.fr HP0.out HT12.out hF.out)
                    have HTE := hide hT2
                    clear hT2 hne hF hT HB12 HY12 HT12
                    have hN : (psx ++ (psy.take i).map wP).length ≤ 6 := by
                      have hx1 := HPXL.out
                      rw [List.length_append, List.length_map, List.length_take]
                      omega
                    have HNP := hide (show psx ++ (psy.take (i + 1)).map wP = (psx ++ (psy.take i).map wP) ++ [(wA ⟨rl, ts⟩, gt)] by rw [take_next _ _ _ HP0.out, List.map_append, List.append_assoc]; rfl)
                    generalize psx ++ (psy.take i).map wP = pq at *
                    have v0 : wr.cell? ⟨g9, 2, none⟩ = some (.slice B9 pq.length d9) := HBE.out.var.cell 2
                    have v1 := HBE.out.var.frozen 2
                    have x0 : wr.cell? ⟨ga, 0, none⟩ = some (.string rl) := HBA'.out.cell 0
                    have x1 : wr.cell? ⟨ga, 1, none⟩ = some (.slice (some ⟨gt, 0, none⟩) ts.length ts.length) := HBA'.out.cell 1
                    have hXW := HBE.out.ext
                    go_wp2_with (at_builtin; refine wpList_append_sl rfl (.tmp 101) (.tmp 103) _ rfl 40 ia _ 2 40 Try.underlying23 ha0 hb0 hb1 hb2 rfl (by omega) W5 (hXW.trans (Ext.alloc _ _)) _ pq.length (pq.flatMap cpC) rfl (mine_ext HBE.out.row (Ext.alloc _ _)) _ 1 1 [.string rl, .slice (some ⟨gt, 0, none⟩) ts.length ts.length] rfl ((Blk.new _ _ _).sl (n := 1) (size := 2) rfl) (by intro v hv; simp only [List.mem_cons, List.not_mem_nil, or_false] at hv; rcases hv with rfl | rfl <;> rfl) (by unfold maxLen; omega) (by omega) ?_; intro A14 c14 w14 own14 E14 G14 L14; have XA := hide (Ext.alloc wr (.cells #[.string rl, .slice (some ⟨gt, 0, none⟩) ts.length ts.length] 40)); have HB14 := hide (HBE.out.go XA.out); have HV14 := hide (HB14.out.var.grown G14.out (own_ne_blk HB14.out.row HB14.out.var (by decide))); have u1 : w14.cell? ⟨g9, 2, none⟩ = some (.slice B9 pq.length d9) := HV14.out.cell 2; have u2 := HV14.out.frozen 2)
                    have hbf := HB14.out.pushA (p0 := (wA ⟨rl, ts⟩, gt)) G14.out E14.out (by rw [cpC_w (⟨rl, ts⟩, gt)]; exact own14.out) (HTE.out.ext XA.out) HG9.out
                    have hyf := ((HYE.out.go XA.out).grown HB14.out.row G14.out hS.out.own).set (j := 2) (u := .slice A14 (pq.length + 1) c14) HV14.out
                    have hsf := hS.out.grow L14.out (own_low (HYE.out.go XA.out).row)
                    rw [← HNP.out] at hbf
                    have hrl : ∃ (i9 : Nat) (B : Option Addr) (d : Nat), i9 ≤ psy.length ∧ Value.int .i64 ((i : Int) + 1) = .int .i64 i9 ∧ Hid (BothM W5 (w14.setCell ⟨g9, 2, none⟩ (.slice A14 (pq.length + 1) c14)) g9 (plainQ q).name hd9 A9 c9 (psx ++ (psy.take i9).map wP) B d) ∧ Hid (YM wl (w14.setCell ⟨g9, 2, none⟩ (.slice A14 (pq.length + 1) c14)) psy i9 (some ⟨b10, 0, none⟩) d10) ∧ Hid (Sep B (some ⟨b10, 0, none⟩)) :=
                      ⟨i + 1, A14, c14, by omega, by go_num, hbf, hyf, hsf⟩
                    refine ⟨?_, ?ms9⟩
                    case ms9 => simp [intOf]; omega
                    first | exact hrl | ((repeat apply Exists.intro); refine ⟨?rl9, rfl⟩; case rl9 => exact hrl)
              · obtain rfl : i = psy.length := by omega
                have hbf := hB.out
                rw [List.take_of_length_le (Nat.le_refl _)] at hbf
                have HQB := hide (show QAt wr ⟨A9, hd9.length, c9, B9, (psx ++ psy.map wP).length, d9⟩ (bothQ (plainQ q) (plainQ p)) from by
                  have h1 := hbf.qat
                  have e : (psx ++ psy.map wP).map (·.1) = (plainQ q).atoms ++ (plainQ p).atoms.map wA := by
                    rw [List.map_append, HPX.out, List.map_map, ← HPY.out, List.map_map]
                    rfl
                  rw [e, ← HHD.out, ← HYX.out.1, ← HYX.out.2] at h1
                  rw [← HHD.out, ← HYX.out.1, ← HYX.out.2]
                  exact h1)
                have HD9 := hide hbf.var
                have HXF := hide hbf.ext
                have HXW := hide (HE.out.trans (X2.out.trans (E5.out.trans hbf.ext)))
                have HN6 := hide (show (psx ++ psy.map wP).length ≤ 6 from by
                  have hx1 := HPXL.out
                  rw [List.length_append, List.length_map]
                  omega)
                clear hbf hB hY hS
                generalize (psx ++ psy.map wP).length = m9 at *
                generalize hhl : hd9.length = n9 at *
                generalize hwv : wr = wv at *
                clear hwv hhl
                have HLW := hide (apart_law HQS.out HPS.out h6 data)
                have HER := hide (And.intro (answers_err (plain_shaped HQS.out) data) (And.intro (answers_err (plain_shaped HPS.out) data) (answers_err (both_shaped HQS.out HPS.out h6) data)))
                have hle1 := answersP_len (plainQ q) data 1073741824
                have hle2 := answersP_len (plainQ p) data 1073741824
                have hle3 := answersP_len (bothQ (plainQ q) (plainQ p)) data 1073741824
                have HRW := hide (show (∀ x ∈ (answersP (plainQ q) data 1073741824).1, x.length ≤ 30) ∧ ∀ x ∈ (answersP (plainQ p) data 1073741824).1, x.length ≤ 30 from ⟨fun x hx => by rw [answersP_row hx]; exact head_len (plain_shaped HQS.out), fun x hx => by rw [answersP_row hx]; exact head_len (plain_shaped HPS.out)⟩)
                have HAB2 := hide (fun A1 n1 c1 w1 (h1 : QAt w1 ⟨A9, n9, c9, B9, m9, d9⟩ (bothQ (plainQ q) (plainQ p))) (h2 : LAt RB 2 w1 A1 n1 data) => HAB.out ⟨A9, n9, c9, B9, m9, d9⟩ A1 n1 c1 w1 HSMB.out h1 h2)
                have HAX2 := hide (HAX.out ⟨A1, n1, c1, B1, m1, d1⟩)
                have HAY2 := hide (HAY.out ⟨A2, p.head.length, c2, B2, m2, d2⟩)
                clear HAB HAX HAY
                generalize answersP (plainQ q) data 1073741824 = ra at *
                generalize answersP (plainQ p) data 1073741824 = rb at *
                generalize answersP (bothQ (plainQ q) (plainQ p)) data 1073741824 = rc at *
                obtain ⟨a, ea⟩ := ra
                obtain ⟨b, eb⟩ := rb
                obtain ⟨cc, ec⟩ := rc
                simp only at HLW HER HRW
                have HLE := hide (show a.length ≤ 1073741824 ∧ b.length ≤ 1073741824 ∧ cc.length ≤ 1073741824 from ⟨by have h9 := hle1; first | omega | (simp only at h9; omega), by have h9 := hle2; first | omega | (simp only at h9; omega), by have h9 := hle3; first | omega | (simp only at h9; omega)⟩)
                clear hle1 hle2 hle3
                go_upto_region 21 with fail
                have f0 := cell_ext (show wv.cell? ⟨g7, 0, none⟩ = some (.string q.name) from (D7.out.ext HXF.out).cell 0)
                have f1 := cell_ext (show wv.cell? ⟨g7, 1, none⟩ = some (.slice A1 n1 c1) from (D7.out.ext HXF.out).cell 1)
                have f2 := cell_ext (show wv.cell? ⟨g7, 2, none⟩ = some (.slice B1 m1 d1) from (D7.out.ext HXF.out).cell 2)
                refine wp_region_ext 9 (by kernel_rfl) (by kernel_rfl) (by kernel_rfl) ?_
                iterate 2
                  refine wpE_k (by kernel_rfl) (by kernel_rfl) ?_
                  apply Exists.intro
                  refine ⟨fun w1 hw1 => ?_, fun K hK => ?_⟩
                  · go_simp; first | done | rfl
                  go_simp; refine hK _ _ ?_; clear hK K
                refine wpE_p [] (TabsIs data) (fun u w1 w2 _ h2 h => TabsIs.ext h h2) rfl (by kernel_rfl) (fun w1 hw1 => ?_) ?_
                · simp only [LookQ]
                  clear f0 f1 f2
                  go_simp
                  exact ⟨Ext.refl _, HCI.out w1 (HXW.out.trans (hw1))⟩
                refine wpE_p [110] (AnsIs a ea) (fun u w1 w2 _ h2 h => AnsIs.ext h h2) rfl (by kernel_rfl) (fun w1 hw1 => ?_) ?_
                · simp only [LookQ]
                  rintro _ hu
                  obtain ⟨A7, c7, rfl, h7⟩ := hu _ rfl
                  clear hu f0 f1 f2
                  go_simp
                  exact ⟨Ext.refl _, (HAX2.out A7 data.length c7 w1 (R1.out.ext (HXF.out.trans hw1)) h7).mono fun e w9 ⟨A9, c9, e9, l9, x9⟩ => ⟨_, e9, x9, A9, c9, rfl, l9⟩⟩
                refine wpE_p [111] (AnsIs a ea) (fun u w1 w2 _ h2 h => AnsIs.ext h h2) rfl (by kernel_rfl) (fun w1 hw1 => ?_) ?_
                · simp only [LookQ]
                  rintro _ hu
                  obtain ⟨A7, c7, rfl, h7⟩ := hu _ rfl
                  clear hu f0 f1 f2
                  go_simp
                  exact ⟨Ext.refl _, A7, c7, rfl, h7⟩
                refine wpE_p [107] (RowsIs a) (fun u w1 w2 _ h2 h => RowsIs.ext h h2) rfl (by kernel_rfl) (fun w1 hw1 => ?_) ?_
                · simp only [LookQ]
                  rintro _ hu
                  obtain ⟨A7, c7, rfl, h7⟩ := hu _ rfl
                  clear hu f0 f1 f2
                  go_simp
                  exact ⟨Ext.refl _, A7, c7, rfl, h7⟩
                refine wpE_kp [107] (.int .i64 ea) (by kernel_rfl) (by kernel_rfl) (fun w1 hw1 => ?_) (fun K hK => ?_)
                · simp only [LookQ]
                  rintro _ hu
                  obtain ⟨A7, c7, rfl, h7⟩ := hu _ rfl
                  clear hu f0 f1 f2
                  go_simp
                  exact Ext.refl _
                go_simp; refine hK _ _ ?_; clear hK K
                refine wpE_p [112] (RowsIs a) (fun u w1 w2 _ h2 h => RowsIs.ext h h2) rfl (by kernel_rfl) (fun w1 hw1 => ?_) ?_
                · simp only [LookQ]
                  rintro _ hu
                  obtain ⟨A7, c7, rfl, h7⟩ := hu _ rfl
                  clear hu f0 f1 f2
                  go_simp
                  exact ⟨Ext.refl _, A7, c7, rfl, h7⟩
                iterate 1
                  refine wpE_k (by kernel_rfl) (by kernel_rfl) ?_
                  apply Exists.intro
                  refine ⟨fun w1 hw1 => ?_, fun K hK => ?_⟩
                  · go_simp; first | done | rfl
                  go_simp; refine hK _ _ ?_; clear hK K
                refine wpE_nil ⟨rfl, by kernel_rfl, fun w21 hw1 => ?_⟩
                simp only [EndQ, List.drop]
                rintro _ ⟨A21, cA21, rfl, rA21⟩ _ _ _ _ _ _ _ _
                refine wpList_nil ?_
                clear f0 f1 f2
                have X21 := hide hw1; have RA := hide rA21; have HXF1 := hide (HXF.out.trans hw1)
                clear hw1 rA21
                go_upto_region 22 with fail
                have f0 := cell_ext (show w21.cell? ⟨g8, 0, none⟩ = some (.string p.name) from (D8.out.ext HXF1.out).cell 0)
                have f1 := cell_ext (show w21.cell? ⟨g8, 1, none⟩ = some (.slice A2 p.head.length c2) from (D8.out.ext HXF1.out).cell 1)
                have f2 := cell_ext (show w21.cell? ⟨g8, 2, none⟩ = some (.slice B2 m2 d2) from (D8.out.ext HXF1.out).cell 2)
                refine wp_region_ext 9 (by kernel_rfl) (by kernel_rfl) (by kernel_rfl) ?_
                iterate 2
                  refine wpE_k (by kernel_rfl) (by kernel_rfl) ?_
                  apply Exists.intro
                  refine ⟨fun w1 hw1 => ?_, fun K hK => ?_⟩
                  · go_simp; first | done | rfl
                  go_simp; refine hK _ _ ?_; clear hK K
                refine wpE_p [] (TabsIs data) (fun u w1 w2 _ h2 h => TabsIs.ext h h2) rfl (by kernel_rfl) (fun w1 hw1 => ?_) ?_
                · simp only [LookQ]
                  clear f0 f1 f2
                  go_simp
                  exact ⟨Ext.refl _, HCI.out w1 (HXW.out.trans (X21.out.trans hw1))⟩
                refine wpE_p [117] (AnsIs b eb) (fun u w1 w2 _ h2 h => AnsIs.ext h h2) rfl (by kernel_rfl) (fun w1 hw1 => ?_) ?_
                · simp only [LookQ]
                  rintro _ hu
                  obtain ⟨A7, c7, rfl, h7⟩ := hu _ rfl
                  clear hu f0 f1 f2
                  go_simp
                  exact ⟨Ext.refl _, (HAY2.out A7 data.length c7 w1 (R2.out.ext (HXF1.out.trans hw1)) h7).mono fun e w9 ⟨A9, c9, e9, l9, x9⟩ => ⟨_, e9, x9, A9, c9, rfl, l9⟩⟩
                refine wpE_p [118] (AnsIs b eb) (fun u w1 w2 _ h2 h => AnsIs.ext h h2) rfl (by kernel_rfl) (fun w1 hw1 => ?_) ?_
                · simp only [LookQ]
                  rintro _ hu
                  obtain ⟨A7, c7, rfl, h7⟩ := hu _ rfl
                  clear hu f0 f1 f2
                  go_simp
                  exact ⟨Ext.refl _, A7, c7, rfl, h7⟩
                refine wpE_p [114] (RowsIs b) (fun u w1 w2 _ h2 h => RowsIs.ext h h2) rfl (by kernel_rfl) (fun w1 hw1 => ?_) ?_
                · simp only [LookQ]
                  rintro _ hu
                  obtain ⟨A7, c7, rfl, h7⟩ := hu _ rfl
                  clear hu f0 f1 f2
                  go_simp
                  exact ⟨Ext.refl _, A7, c7, rfl, h7⟩
                refine wpE_kp [114] (.int .i64 eb) (by kernel_rfl) (by kernel_rfl) (fun w1 hw1 => ?_) (fun K hK => ?_)
                · simp only [LookQ]
                  rintro _ hu
                  obtain ⟨A7, c7, rfl, h7⟩ := hu _ rfl
                  clear hu f0 f1 f2
                  go_simp
                  exact Ext.refl _
                go_simp; refine hK _ _ ?_; clear hK K
                refine wpE_p [119] (RowsIs b) (fun u w1 w2 _ h2 h => RowsIs.ext h h2) rfl (by kernel_rfl) (fun w1 hw1 => ?_) ?_
                · simp only [LookQ]
                  rintro _ hu
                  obtain ⟨A7, c7, rfl, h7⟩ := hu _ rfl
                  clear hu f0 f1 f2
                  go_simp
                  exact ⟨Ext.refl _, A7, c7, rfl, h7⟩
                iterate 1
                  refine wpE_k (by kernel_rfl) (by kernel_rfl) ?_
                  apply Exists.intro
                  refine ⟨fun w1 hw1 => ?_, fun K hK => ?_⟩
                  · go_simp; first | done | rfl
                  go_simp; refine hK _ _ ?_; clear hK K
                refine wpE_nil ⟨rfl, by kernel_rfl, fun w22 hw1 => ?_⟩
                simp only [EndQ, List.drop]
                rintro _ ⟨A22, cA22, rfl, rA22⟩ _ _ _ _ _ _ _ _
                refine wpList_nil ?_
                clear f0 f1 f2
                have X22 := hide (X21.out.trans hw1); have RB' := hide rA22; have RA2 := hide (RA.out.ext RRow.stab hw1)
                clear hw1 rA22 RA
                go_upto_region 23 with fail
                have f0 := cell_ext (show w22.cell? ⟨g9, 0, none⟩ = some (.string (plainQ q).name) from (HD9.out.ext X22.out).cell 0)
                have f1 := cell_ext (show w22.cell? ⟨g9, 1, none⟩ = some (.slice A9 n9 c9) from (HD9.out.ext X22.out).cell 1)
                have f2 := cell_ext (show w22.cell? ⟨g9, 2, none⟩ = some (.slice B9 m9 d9) from (HD9.out.ext X22.out).cell 2)
                refine wp_region_ext 9 (by kernel_rfl) (by kernel_rfl) (by kernel_rfl) ?_
                iterate 2
                  refine wpE_k (by kernel_rfl) (by kernel_rfl) ?_
                  apply Exists.intro
                  refine ⟨fun w1 hw1 => ?_, fun K hK => ?_⟩
                  · go_simp; first | done | rfl
                  go_simp; refine hK _ _ ?_; clear hK K
                refine wpE_p [] (TabsIs data) (fun u w1 w2 _ h2 h => TabsIs.ext h h2) rfl (by kernel_rfl) (fun w1 hw1 => ?_) ?_
                · simp only [LookQ]
                  clear f0 f1 f2
                  go_simp
                  exact ⟨Ext.refl _, HCI.out w1 (HXW.out.trans (X22.out.trans hw1))⟩
                refine wpE_p [124] (AnsIs cc ec) (fun u w1 w2 _ h2 h => AnsIs.ext h h2) rfl (by kernel_rfl) (fun w1 hw1 => ?_) ?_
                · simp only [LookQ]
                  rintro _ hu
                  obtain ⟨A7, c7, rfl, h7⟩ := hu _ rfl
                  clear hu f0 f1 f2
                  go_simp
                  exact ⟨Ext.refl _, (HAB2.out A7 data.length c7 w1 (HQB.out.ext (X22.out.trans hw1)) h7).mono fun e w9 ⟨A9, c9, e9, l9, x9⟩ => ⟨_, e9, x9, A9, c9, rfl, l9⟩⟩
                refine wpE_p [125] (AnsIs cc ec) (fun u w1 w2 _ h2 h => AnsIs.ext h h2) rfl (by kernel_rfl) (fun w1 hw1 => ?_) ?_
                · simp only [LookQ]
                  rintro _ hu
                  obtain ⟨A7, c7, rfl, h7⟩ := hu _ rfl
                  clear hu f0 f1 f2
                  go_simp
                  exact ⟨Ext.refl _, A7, c7, rfl, h7⟩
                refine wpE_p [121] (RowsIs cc) (fun u w1 w2 _ h2 h => RowsIs.ext h h2) rfl (by kernel_rfl) (fun w1 hw1 => ?_) ?_
                · simp only [LookQ]
                  rintro _ hu
                  obtain ⟨A7, c7, rfl, h7⟩ := hu _ rfl
                  clear hu f0 f1 f2
                  go_simp
                  exact ⟨Ext.refl _, A7, c7, rfl, h7⟩
                refine wpE_kp [121] (.int .i64 ec) (by kernel_rfl) (by kernel_rfl) (fun w1 hw1 => ?_) (fun K hK => ?_)
                · simp only [LookQ]
                  rintro _ hu
                  obtain ⟨A7, c7, rfl, h7⟩ := hu _ rfl
                  clear hu f0 f1 f2
                  go_simp
                  exact Ext.refl _
                go_simp; refine hK _ _ ?_; clear hK K
                refine wpE_p [126] (RowsIs cc) (fun u w1 w2 _ h2 h => RowsIs.ext h h2) rfl (by kernel_rfl) (fun w1 hw1 => ?_) ?_
                · simp only [LookQ]
                  rintro _ hu
                  obtain ⟨A7, c7, rfl, h7⟩ := hu _ rfl
                  clear hu f0 f1 f2
                  go_simp
                  exact ⟨Ext.refl _, A7, c7, rfl, h7⟩
                iterate 1
                  refine wpE_k (by kernel_rfl) (by kernel_rfl) ?_
                  apply Exists.intro
                  refine ⟨fun w1 hw1 => ?_, fun K hK => ?_⟩
                  · go_simp; first | done | rfl
                  go_simp; refine hK _ _ ?_; clear hK K
                refine wpE_nil ⟨rfl, by kernel_rfl, fun w23 hw1 => ?_⟩
                simp only [EndQ, List.drop]
                rintro _ ⟨A23, cA23, rfl, rA23⟩ _ _ _ _ _ _ _ _
                refine wpList_nil ?_
                clear f0 f1 f2
                have X23 := hide (HXW.out.trans (X22.out.trans hw1)); have RC := hide rA23; have RB2 := hide (RB'.out.ext RRow.stab hw1); have RA3 := hide (RA2.out.ext RRow.stab hw1)
                clear hw1 rA23 RB' RA2
                obtain ⟨r1, r2, r3⟩ := HER.out
                rcases r1 with rfl | rfl <;> rcases r2 with rfl | rfl <;> rcases r3 with rfl | rfl
                rotate_left 1
                iterate 7 (focus (go_wp2_with ((with_reducible refine (awake_any _).mono ?_); rintro e w30 ⟨rfl, x30⟩; have X30 := hide (X23.out.trans x30); clear x30); go_ret; exact ⟨rfl, X30.out⟩))
                have hcc : cc = pairsR a b := HLW.out rfl rfl rfl
                have hcl : cc.length = a.length * b.length := by rw [hcc, pairs_len]
                have HPG := hide (fun (i j : Nat) (r s : List V) (h1 : a[i]? = some r) (h2 : b[j]? = some s) => (show cc[i * b.length + j]? = some (r ++ s) from by rw [hcc]; exact pairs_get h1 h2))
                have HCL := hide hcl
                clear hcc hcl
                obtain ⟨hla, hlb, hlc⟩ := HLE.out
                go_wp2_with fail
                go_loopw [6, 21, 23, 25, 165, 171] (fun _ s21 _ _ s165 _ w' => ∃ (i N : Nat), i ≤ a.length ∧ s165 = .int .i64 i ∧ s21 = .int .i64 N ∧ Hid (N = i * b.length) ∧ Hid (Ext w23 w')) (fun _ _ _ _ s165 _ _ => a.length - (intOf s165).toNat)
                case atStart => exact ⟨0, 0, by omega, rfl, rfl, by simp [Hid], Ext.refl _⟩
                case round =>
                  obtain ⟨i, N, hin, rfl, rfl, hN, hX⟩ := hrel
                  generalize hwo : wr = wo at *
                  clear hwo
                  by_cases h : i < a.length
                  · obtain ⟨ba, oa, r, A31, n31, c31, hA21, hr, hba, d0, hRr⟩ := (RA3.out.ext RRow.stab hX.out).row_ h
                    subst hA21
                    have HR := hide hr; have HRR := hide hRr
                    have HRL := hide (HRW.out.1 r (List.mem_of_getElem? hr))
                    clear hr hba hRr
                    go_wp2_with fail
                    go_loopw [6, 21, 25, 171] (fun _ s21 _ s171 w' => ∃ (j M : Nat), j ≤ b.length ∧ s171 = .int .i64 j ∧ s21 = .int .i64 M ∧ Hid (M = N + j) ∧ Hid (Ext wo w')) (fun _ _ _ s171 _ => b.length - (intOf s171).toNat)
                    case atStart => exact ⟨0, N, by omega, rfl, rfl, rfl, Ext.refl _⟩
                    case round =>
                      obtain ⟨j, M, hjn, rfl, rfl, hM, hY⟩ := hrel
                      by_cases h2 : j < b.length
                      · obtain ⟨bb, ob, s, A32, n32, c32, hA22, hs, hbb, d1, hRs⟩ := (RB2.out.ext RRow.stab (hX.out.trans hY.out)).row_ h2
                        subst hA22
                        have hpg := HPG.out i j r s HR.out hs
                        rw [← hN.out, ← hM.out] at hpg
                        have hMc : M < cc.length := (List.getElem?_eq_some_iff.1 hpg).1
                        obtain ⟨bc, oc, x, A33, n33, c33, hA23, hx, hbc, e0, hRx⟩ := (RC.out.ext RRow.stab (hX.out.trans hY.out)).row_ hMc
                        subst hA23
                        obtain rfl : x = r ++ s := by rw [hx] at hpg; exact Option.some.inj hpg
                        have HRS := hide hRs; have HRX := hide hRx
                        have HSL := hide (HRW.out.2 s (List.mem_of_getElem? hs))
                        have hMi : (M : Int) < (cc.length : Int) := by omega
                        clear hs hbb hRs hx hbc hRx hpg
                        go_upto_region 33 with fail
                        have e0 := cell_ext e0
                        refine wp_region_ext 16 (by kernel_rfl) (by kernel_rfl) (by kernel_rfl) ?_
                        iterate 10
                          refine wpE_k (by kernel_rfl) (by kernel_rfl) ?_
                          apply Exists.intro
                          refine ⟨fun w1 hw1 => ?_, fun K hK => ?_⟩
                          · go_simp; first | done | rfl
                          go_simp; refine hK _ _ ?_; clear hK K
                        refine wpE_p [] (CrIs r) (fun u w1 w2 _ h2 h => CrIs.ext h h2) rfl (by kernel_rfl) (fun w1 hw1 => ?_) ?_
                        · simp only [LookQ]
                          clear e0
                          go_simp
                          exact ⟨Ext.refl _, copy_cr r A31 n31 c31 w1 (HRR.out.ext (hY.out.trans hw1)) (by have h5 := HRR.out.len; have h6 := HRL.out; omega)⟩
                        iterate 1
                          refine wpE_k (by kernel_rfl) (by kernel_rfl) ?_
                          apply Exists.intro
                          refine ⟨fun w1 hw1 => ?_, fun K hK => ?_⟩
                          · go_simp; first | done | rfl
                          go_simp; refine hK _ _ ?_; clear hK K
                        refine wpE_p [185] (RaIs (r ++ s)) (fun u w1 w2 _ h2 h => RaIs.ext h h2) rfl (by kernel_rfl) (fun w1 hw1 => ?_) ?_
                        · simp only [LookQ]
                          rintro _ hu
                          obtain ⟨g9', rfl, hb9⟩ := hu _ rfl
                          clear hu e0
                          obtain ⟨v', w', hrun, hE9, hR9⟩ := app_row (d := c32) hb9 (HRS.out.ext hw1) (by have h6 := HRL.out; omega) (by have h5 := HRS.out.len; have h6 := HSL.out; omega)
                          exact eUpon_app (s := .tmp 185) (x := .tmp 186) (t := 35) (by go_simp) rfl rfl rfl hrun ⟨hE9, hR9⟩
                        refine wpE_kp [187] (.bool true) (by kernel_rfl) (by kernel_rfl) (fun w1 hw1 => ?_) (fun K hK => ?_)
                        · simp only [LookQ]
                          rintro _ hu
                          obtain ⟨A35, c35, rfl, h35⟩ := hu _ rfl
                          clear hu e0
                          have hsm := same_any (r ++ s) (r ++ s) A33 A35 n33 _ c33 c35 w1 (HRX.out.ext hw1) h35 (by have h4 := HRX.out.len; have h5 := HRL.out; have h6 := HSL.out; rw [List.length_append] at h4; omega)
                          rw [sameR_iff.2 (rfl : r ++ s = r ++ s)] at hsm
                          have HSMX := hide hsm
                          clear hsm h35
                          generalize (r ++ s).length = k35 at *
                          go_simp
                          exact ⟨Ext.refl _, HSMX.out⟩
                        go_simp; refine hK _ _ ?_; clear hK K
                        iterate 2
                          refine wpE_k (by kernel_rfl) (by kernel_rfl) ?_
                          apply Exists.intro
                          refine ⟨fun w1 hw1 => ?_, fun K hK => ?_⟩
                          · go_simp; first | done | rfl
                          go_simp; refine hK _ _ ?_; clear hK K
                        refine wpE_nil ⟨rfl, by kernel_rfl, fun w33 hw1 => ?_⟩
                        simp only [EndQ, List.drop]
                        rintro _ _ _ _
                        refine wpList_nil ?_
                        clear e0 d0 d1
                        have hMs : M + 1 ≤ 1073741824 := by omega
                        go_wp2_with fail
                        go_roundw
                        case rel => exact ⟨j + 1, M + 1, by omega, by go_num, by go_num, by rw [Hid, hM.out, Nat.add_assoc], hY.out.trans hw1⟩
                        case measure => simp [intOf]; omega
                      · obtain rfl : j = b.length := by omega
                        have hrl : ∃ (i9 N9 : Nat), i9 ≤ a.length ∧ Value.int .i64 ((i : Int) + 1) = .int .i64 i9 ∧ Value.int .i64 (M : Int) = .int .i64 N9 ∧ Hid (N9 = i9 * b.length) ∧ Hid (Ext w23 wr) := ⟨i + 1, M, by omega, by go_num, rfl, by rw [Hid, hM.out, hN.out, Nat.add_mul, Nat.one_mul], hX.out.trans hY.out⟩
                        clear d0
                        go_wp2_with fail
                        refine ⟨?_, ?ms9⟩
                        case ms9 => simp [intOf]; omega
                        first | exact hrl | ((repeat (apply Exists.intro)); exact ⟨hrl, rfl⟩)
                  · obtain rfl : i = a.length := by omega
                    have hNc : N = cc.length := hN.out.trans HCL.out.symm
                    subst hNc
                    go_wp2_with ((with_reducible refine (awake_any _).mono ?_); rintro e w30 ⟨rfl, x30⟩; have X30 := hide (X23.out.trans (hX.out.trans x30)); clear x30)
                    go_ret
                    exact ⟨rfl, X30.out⟩
      · have h6i : (6 : Int) < (q.atoms.length : Int) + (p.atoms.length : Int) := by omega
        go_wp2_with (first
          | ((with_reducible refine (HSQ.out _ HE.out).mono ?_); rintro e w1 ⟨rfl, x1⟩; have X1 := hide x1; clear x1 a0 a1 a2
             have b0 : w1.cell? ⟨w.heap.size + 1, 0, none⟩ = some (.string p.name) := (HB1.out.ext X1.out).cell 0
             have b1 : w1.cell? ⟨w.heap.size + 1, 1, none⟩ = some (.slice A' n' cA') := (HB1.out.ext X1.out).cell 1
             have b2 : w1.cell? ⟨w.heap.size + 1, 2, none⟩ = some (.slice AB' p.atoms.length d') := (HB1.out.ext X1.out).cell 2)
          | ((with_reducible refine (HSP.out _ (HE.out.trans X1.out)).mono ?_); rintro e w2 ⟨rfl, x2⟩; have X2 := hide (X1.out.trans x2); clear x2 b0 b1 b2
             have a2 : w2.cell? ⟨w.heap.size, 2, none⟩ = some (.slice AB q.atoms.length d) := (HB0.out.ext X2.out).cell 2
             have b2 : w2.cell? ⟨w.heap.size + 1, 2, none⟩ = some (.slice AB' p.atoms.length d') := (HB1.out.ext X2.out).cell 2)
          | ((with_reducible refine (awake_any _).mono ?_); rintro e w9 ⟨rfl, x9⟩; have X9 := hide (X2.out.trans x9); clear x9))
        go_ret
        exact ⟨rfl, HE.out.trans X9.out⟩
    · have hne : (shapeQ p != 0) = true := by simpa using hsp
      generalize shapeQ p = sp at *
      have hsp := hide hsp
      go_wp2_with (first
        | ((with_reducible refine (HSQ.out _ HE.out).mono ?_); rintro e w1 ⟨rfl, x1⟩; have X1 := hide x1; clear x1 a0 a1 a2
           have b0 : w1.cell? ⟨w.heap.size + 1, 0, none⟩ = some (.string p.name) := (HB1.out.ext X1.out).cell 0
           have b1 : w1.cell? ⟨w.heap.size + 1, 1, none⟩ = some (.slice A' n' cA') := (HB1.out.ext X1.out).cell 1
           have b2 : w1.cell? ⟨w.heap.size + 1, 2, none⟩ = some (.slice AB' p.atoms.length d') := (HB1.out.ext X1.out).cell 2)
        | ((with_reducible refine (HSP.out _ (HE.out.trans X1.out)).mono ?_); rintro e w2 ⟨rfl, x2⟩; have X2 := hide (X1.out.trans x2); clear x2 b0 b1 b2)
        | ((with_reducible refine (awake_any _).mono ?_); rintro e w9 ⟨rfl, x9⟩; have X9 := hide (X2.out.trans x9); clear x9))
      go_ret
      exact ⟨rfl, HE.out.trans X9.out⟩
  · have hne : (shapeQ q != 0) = true := by simpa using hsq
    generalize shapeQ q = sq at *
    have hsq := hide hsq
    go_wp2_with (first
      | ((with_reducible refine (HSQ.out _ HE.out).mono ?_); rintro e w1 ⟨rfl, x1⟩; have X1 := hide x1; clear x1 a0 a1 a2)
      | ((with_reducible refine (awake_any _).mono ?_); rintro e w9 ⟨rfl, x9⟩; have X9 := hide (X1.out.trans x9); clear x9))
    go_ret
    exact ⟨rfl, HE.out.trans X9.out⟩
end Go.Proofs.Ytpfjkjmimmklcaa
