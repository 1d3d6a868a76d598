/-
  store: rowsOf: the rows of a list.
-/
import Derived.Test.YtifloafhpeeepaaGreatStoU
import Derived.Test.YtifloafhpeeepaaGreatExtIn
import Derived.OwnWalkIn
import Derived.TacticsInMore
import Derived.Maps.AppendAt
import Derived.RangeFuncBox
namespace Go.Proofs.YtifloafhpeeepaaGreat
open Go.RowKit
attribute [local go_sem] Oper.semAt_some

theorem Fq.chg {S : Nat → Prop} {w w' : World} (h : Fq S w.heap.size w w') : Chg S w w' :=
  ⟨h.os, h.tape, h.output, h.size, fun k h1 h2 => h.block k h1 h2 fun h3 => by have := h3.1; omega⟩
theorem Fq.base {S : Nat → Prop} {b b' : Nat} {w w' : World} (h : Fq S b w w') (hb : b' ≤ b) : Fq S b' w w' :=
  ⟨h.os, h.tape, h.output, h.size, fun k h1 h2 h3 => h.block k h1 h2 fun h4 => h3 ⟨by have := h4.1; omega, h4.2⟩⟩
theorem blk_one' {w : World} {g : Nat} {t : TypeId} {u : Value} (h : Blk w g t #[u]) : ∀ (j : Nat) (v : Value), [u][j]? = some v → w.cell? ((⟨g, 0, none⟩ : Addr).add j) = some v := fun j v hv => by
  rw [add_flat, Nat.zero_add, h.cell]
  simpa using hv
/-- the rounds of rowsOf: the rows of pre are there -/
structure JRow (ga l D0 b : Nat) (rc : Loop) (pre : List (List V)) (W : World) : Prop where
  lp : W.heap[l]? = some (.loop rc)
  mark : W.heap[D0]? = some (.deferred (some []))
  out : ∃ A c, Blk W ga 22 #[.slice A pre.length c] ∧ MineV b W A pre.length c pre
theorem JRow.fr {S : Nat → Prop} {ga l D0 b : Nat} {r : Loop} {pre : List (List V)} {w w' : World} (h : JRow ga l D0 b r pre w) (hF : Fr S w w') (h1 : ¬ S l) (h2 : ¬ S D0) (h3 : ¬ S ga) (hS : ∀ g, S g → g < b) : JRow ga l D0 b r pre w' := by
  obtain ⟨A, c, h4, h5⟩ := h.out
  exact ⟨(hF.block l (Array.getElem?_eq_some_iff.1 h.lp).1 h1).trans h.lp, (hF.block D0 (Array.getElem?_eq_some_iff.1 h.mark).1 h2).trans h.mark, A, c, h4.fr hF h3, h5.fr hF hS⟩
/-- one row more -/
theorem jrow_push {ga l D0 b : Nat} {r bz : Loop} {pre : List (List V)} {x : List V} {wz w8 : World} {A' : Option Addr} {c' g8 cap8 : Nat} {Ay : Option Addr} {n9 cy : Nat} {cellsA : List Value} 
    (h1 : wz.heap[l]? = some (.loop bz)) (h2 : wz.heap[D0]? = some (.deferred (some []))) (hlb : l < b) (hDb : D0 < b) (hne : ga ≠ l) (hne2 : D0 ≠ l) (hne3 : ga ≠ D0)
    (h3 : Blk wz ga 22 #[.slice A' pre.length c']) (h4 : wz.ownsRow b 30 1 (.slice A' pre.length c') pre.length cellsA) (h5 : Els (RMine b) 1 wz cellsA pre) (h6 : wz.ownsRow b 43 3 (.slice Ay n9 cy) n9 (cellsR x))
    (hg : wz.grownBy w8 (Value.slice A' pre.length c').ownBlock) (h8 : w8.ownsRow b 30 1 (.slice (some ⟨g8, 0, none⟩) (pre.length + 1) cap8) (pre.length + 1) (cellsA ++ [.slice Ay n9 cy])) :
    (w8.setCell ⟨ga, 0, none⟩ (.slice (some ⟨g8, 0, none⟩) (pre.length + 1) cap8)).heap[l]? = some (.loop bz) ∧
    JRow ga l D0 b r (pre ++ [x]) ((w8.setCell ⟨ga, 0, none⟩ (.slice (some ⟨g8, 0, none⟩) (pre.length + 1) cap8)).putObj l (.loop r)) ∧
    (∀ S : Nat → Prop, S l → S ga → Fq S b wz ((w8.setCell ⟨ga, 0, none⟩ (.slice (some ⟨g8, 0, none⟩) (pre.length + 1) cap8)).putObj l (.loop r))) := by
  have keep : ∀ (k : Nat) (o : Obj), k < b → k ≠ ga → wz.heap[k]? = some o → (w8.setCell ⟨ga, 0, none⟩ (.slice (some ⟨g8, 0, none⟩) (pre.length + 1) cap8)).heap[k]? = some o := fun k o hk hkg hko => by
    have hlt := (Array.getElem?_eq_some_iff.1 hko).1
    refine (Below.heap_setCell w8 ⟨ga, 0, none⟩ _ k (fun e => hkg e)).trans ?_
    refine (hg.block k hlt fun e => ?_).trans hko
    have := (h4.lt k e.symm).1
    omega
  have hl := keep l _ hlb (Ne.symm hne) h1
  have hD := keep D0 _ hDb (Ne.symm hne3) h2
  have V8 := (h3.grown hg (own_ne_blk h4 h3 (by decide)))
  have hlt := (Array.getElem?_eq_some_iff.1 hl).1
  refine ⟨hl, ⟨World.putObj_heap_same hlt, (World.putObj_heap_other hne2).trans hD, some ⟨g8, 0, none⟩, cap8, ?_, cellsA ++ [.slice Ay n9 cy], by simp, ?_, ?_⟩, fun S hS1 hS2 => ?_⟩
  · rw [List.length_append]
    exact (V8.set_ 0 _).putObj hne
  · rw [List.length_append]
    exact own_putObj (mine_set h8 V8 (by decide) 0 _) (fun g hg e => by have := (h8.lt g hg).1; omega)
  · have key : ∀ (cs : List Value) (rw_ : List V), RMine b wz cs rw_ → RMine b ((w8.setCell ⟨ga, 0, none⟩ (.slice (some ⟨g8, 0, none⟩) (pre.length + 1) cap8)).putObj l (.loop r)) cs rw_ := fun cs rw_ hx => by
      obtain ⟨B, k1, c1, g1, g2⟩ := (hx.other h4 (by decide) hg).set_ V8 (by decide) 0 (.slice (some ⟨g8, 0, none⟩) (pre.length + 1) cap8)
      exact ⟨B, k1, c1, g1, own_putObj g2 fun g hg e => by have := (g2.lt g hg).1; omega⟩
    refine (h5.mono key).append (Els.single rfl (fun v hv => by obtain rfl := List.mem_singleton.1 hv; rfl) (key _ _ ⟨Ay, n9, cy, rfl, h6⟩))
  · refine Fq.putObj ?_ hS1
    refine (Fq.of_grown h4 hg).trans ?_
    exact Fq.of_fr ((Fr.refl S w8).setCell (p := ⟨ga, 0, none⟩) (.inl hS2) _)
set_option maxRecDepth 100000 in
set_option maxHeartbeats 2000000 in
theorem rows_of {w : World} {lab : Lab} {v : StV} (h : StM w lab v) (hr : StRow v) {n l : Nat} (hn : n < v.most * v.L + 1) {Q : List SRow} (hc : v.cont n = Q.map fun p => p.1 * v.L + l) (hQ : ∀ p ∈ Q, p ∈ v.P) (hl : l < v.L) :
    Calls Tryz.prog 45 #[.pointer (some ⟨v.x, 0, none⟩), .int .i64 n] w fun e w' => ∃ A c, e = .returned (.slice A Q.length c) ∧ ∃ M, MineV M w' A Q.length c (Q.map fun p : SRow => p.2) ∧ StRM w lab w' v M := by
  have hmf : ∀ (fn : Fn) (first cap : Array Value) (w : World), (Instr.makeFunc fn first cap).run Tryz.prog w = .ok (.func fn first cap) w := fun _ _ _ _ => rfl
  have HH := hide h; have HR := hide hr; have HC := hide hc; have HQ := hide hQ
  have hx1 := (Ext.alloc w (.cells #[.pointer (some ⟨v.x, 0, none⟩)] 23)).alloc' (.cells #[.slice none 0 0] 22)
  have p0 := (Blk.new w 23 #[.pointer (some ⟨v.x, 0, none⟩)]).ext (Ext.alloc _ (.cells #[.slice none 0 0] 22))
  have p1 := Blk.new (w.alloc (.cells #[.pointer (some ⟨v.x, 0, none⟩)] 23)) 22 #[.slice none 0 0]
  rw [World.size_alloc] at p1
  have HX1 := hide hx1; have P0 := hide p0; have P1 := hide p1
  clear h hr hc hQ hx1 p0 p1
  refine (callsIn_wide (n := 4)).1 ?_
  refine callsIn_of_wp_marks Tryz.func45 rfl trivial ?_ rfl
  refine wpIn_wide.2 ?_
  simp only [Tryz.ntmps45, List.size_toArray, List.length_cons, List.length_nil, Nat.reduceAdd, Nat.reduceSub, Array.replicate_succ, Array.replicate_zero, List.push_toArray, List.append_toArray, List.nil_append, List.cons_append]
  go_upto_region 2 with fail
  generalize (w.alloc (.cells #[.pointer (some ⟨v.x, 0, none⟩)] 23)).alloc (.cells #[.slice none 0 0] 22) = w1 at *
  have hga0 := hide (Nat.le_succ w.heap.size)
  have hgas := hide (show w.heap.size + 1 ≠ w.heap.size by omega)
  obtain ⟨ga, hgae⟩ : ∃ ga, w.heap.size + 1 = ga := ⟨_, rfl⟩
  obtain ⟨sb, hsbe⟩ : ∃ sb, w.heap.size = sb := ⟨_, rfl⟩
  rw [hgae] at P1 hgas ⊢
  rw [hsbe] at P0 hgas ⊢
  have HGA := hide hgae; have HSB := hide hsbe
  clear hgae hsbe hga0
  have s0 : w1.cell? ⟨sb, 0, none⟩ = some (.pointer (some ⟨v.x, 0, none⟩)) := P0.out.cell 0
  have a10 : w1.cell? ⟨v.x, 10, none⟩ = some (.pointer (some ⟨v.xo, 0, none⟩)) := (HH.out.ext HX1.out).str.cell 10
  have HWk := hide (fun wx => walk_any wx v.xo (n : Int))
  go_wp2_with ((with_reducible refine (HWk.out _).mono ?_); rintro e w5 ⟨gx, gn, rfl, h1, h2, h3, h4, h5, h6⟩; have GX := hide h1; have GN := hide h2; have GL := hide (And.intro h3 (And.intro h4 h5)); have X5 := hide h6; clear h1 h2 h3 h4 h5 h6)
  refine (wpIn_wide (n := 4)).1 ?_
  refine wp_range (gf := 114) (lb := #[.pointer (some ⟨gx, 0, none⟩), .pointer (some ⟨gn, 0, none⟩)]) rfl (enters_of Tryz.func114 (by kernel_rfl) rfl) ?_
  intro fn
  generalize hrec : recOf fn _ _ _ _ w5.heap.size = rec
  have HREC := hide hrec; clear hrec
  obtain ⟨r1, r2, r3, r4⟩ := rec_laid w5 rec
  generalize (w5.alloc (.deferred (some []))).alloc (.loop rec) = W0 at *
  have R4 := hide r4; have R3 := hide r3
  have HSZ0 := hide (show w5.heap.size + 2 = W0.heap.size from r4.symm)
  have HX := hide ((HX1.out.trans X5.out).trans r3)
  have M0 := hide (HH.out.ext HX.out)
  have hdl : ∀ b, lab.dom b → b < w.heap.size := fun b ⟨i, hi⟩ => HH.out.lt b i hi
  have HDL := hide hdl
  have s15 := X5.out.size
  have s1 := P1.out.lt
  have hga5 : ga < w5.heap.size := by omega
  have hsg := HSB.out; have hgg := HGA.out
  have HNUM := hide (show ga ≠ w5.heap.size + 1 ∧ w5.heap.size ≠ w5.heap.size + 1 ∧ ga ≠ w5.heap.size ∧ w5.heap.size + 1 < W0.heap.size ∧ w.heap.size ≤ ga ∧ w.heap.size < w5.heap.size + 1 from ⟨by omega, by omega, by omega, by omega, by omega, by omega⟩)
  have hSY : ∀ g, (g = w5.heap.size + 1 ∨ g = ga) → g < W0.heap.size ∧ ¬ lab.own 7 g := fun g hg => ⟨by omega, fun h7 => by have := hdl g ⟨7, h7⟩; omega⟩
  have hCC : ∀ g, (lab.own 7 g ∨ (g = w5.heap.size + 1 ∨ g = ga)) → lab.own 7 g ∨ ¬ lab.dom g := fun g hg => hg.imp id fun h hd => by have := hdl g hd; omega
  have HSY := hide hSY; have HCC := hide hCC
  have hj0 : ∀ M, JRow ga (w5.heap.size + 1) w5.heap.size M rec [] W0 := fun M => ⟨r1, r2, none, 0, (P1.out.ext X5.out).ext r3, MineV.nil _ _⟩
  have HJ0 := hide hj0
  have hlenQ : (v.cont n).length = Q.length := by rw [HC.out, List.length_map]
  have HLQ := hide hlenQ
  have hcl := hide (show Q.length ≤ 1048576 from by
    rw [← hlenQ]
    have hb : ∀ y ∈ v.cont n, y < v.most * v.L := fun y hy => cont_lt (HH.out.part 7) hy
    have h9 := nodup_lt _ _ (cont_nd (HH.out.part 7) n) hb
    have h10 := (HH.out.part 7).cm
    omega)
  have BX0 := hide ((P0.out.ext X5.out).ext r3)
  clear hdl hSY hCC hj0 hlenQ r4
  have hY : ∀ (M i c : Nat) (w1 : World), W0.heap.size ≤ M → M ≤ w1.heap.size → (v.cont n)[i]? = some c → JRow ga (w5.heap.size + 1) w5.heap.size M rec ((Q.map fun p : SRow => p.2).take i) w1 → Fq (fun g => lab.own 7 g ∨ (g = w5.heap.size + 1 ∨ g = ga)) W0.heap.size W0 w1 → (∃ B', HCh w1 B' v.xo (v.most * v.L) (v.most * v.L + 1) v.cont ∧ ∀ b, B' b → (lab.own 7 b ∨ W0.heap.size ≤ b) ∧ b < M) →
      ∃ fn tmps assign body, (Instr.yield (w5.heap.size + 1) #[.int .i64 c]).run Tryz.prog w1 = .ok (.round (w5.heap.size + 1) fn tmps assign body) w1 ∧
        RoundIn Fence.wide 0 Tryz.prog (w5.heap.size + 1) fn tmps assign body w1 fun e w' => Fq (fun g => g = w5.heap.size + 1 ∨ g = ga) W0.heap.size w1 w' ∧ e = .returned (.bool true) ∧ JRow ga (w5.heap.size + 1) w5.heap.size M rec ((Q.map fun p : SRow => p.2).take (i + 1)) w' := by
    intro M i c wy hM1 hM2 hci hj hF _
    refine range_round hj.lp ?_ ?_ ?_ trivial ?_
    · rw [← HREC.out]; rfl
    · rw [← HREC.out]; rfl
    · rw [← HREC.out]; rfl
    · have HJ := hide hj; have HFy := hide hF
      obtain ⟨q, hq, hqc⟩ : ∃ q, Q[i]? = some q ∧ q.1 * v.L + l = c := by
        rw [HC.out, List.getElem?_map] at hci
        exact Option.map_eq_some_iff.1 hci
      obtain ⟨s, r⟩ := q
      dsimp only at hqc
      have HQI := hide hq; have HQC := hide hqc
      clear hj hF hci hq hqc
      have hA := congrArg Loop.assign HREC.out
      have hB := congrArg Loop.body HREC.out
      have hT := congrArg Loop.tmps HREC.out
      have hP := congrArg Loop.params HREC.out
      dsimp only [recOf] at hA hB hT hP
      generalize hbz : ({ rec with state := .busy } : Loop) = bz
      rw [← hA, ← hB, ← hT, ← hP]
      have HBZ := hide hbz
      clear hA hB hT hP hbz
      gi_wp2_with fail
      refine ⟨HJ.out.lp, ?_⟩
      obtain ⟨A', c', hblk, cellsA, hn9, ho9, he9⟩ := HJ.out.out
      have hnum := HNUM.out
      have b3 := hide (hblk.putObj (l := w5.heap.size + 1) (o := .loop bz) hnum.1)
      have ho' := hide (own_putObj (l := w5.heap.size + 1) (o := .loop bz) ho9 (fun g hg => by have := (ho9.lt g hg).1; omega))
      have hel := hide (he9.mono (w' := wy.putObj (w5.heap.size + 1) (.loop bz)) (R' := RMine M) fun cs r hr => by
        obtain ⟨B, k1, c1, g1, g2⟩ := hr
        exact ⟨B, k1, c1, g1, own_putObj g2 fun g hg => by have := (g2.lt g hg).1; omega⟩)
      have hlt := (Array.getElem?_eq_some_iff.1 HJ.out.lp).1
      have HLB := hide (show (wy.putObj (w5.heap.size + 1) (.loop bz)).heap[w5.heap.size + 1]? = some (.loop bz) from World.putObj_heap_same hlt)
      have HMK := hide (show (wy.putObj (w5.heap.size + 1) (.loop bz)).heap[w5.heap.size]? = some (.deferred (some [])) from (World.putObj_heap_other hnum.2.1).trans HJ.out.mark)
      have HFz := hide (HFy.out.putObj (l := w5.heap.size + 1) (o := .loop bz) (.inr (.inl rfl)))
      have HXF := hide ((Fq.of_ext (S := fun g => g = w5.heap.size + 1 ∨ g = ga) (base := W0.heap.size) (Ext.refl wy)).putObj (l := w5.heap.size + 1) (o := .loop bz) (.inl rfl))
      have hsbx := hide (show Blk (wy.putObj (w5.heap.size + 1) (.loop bz)) sb 23 #[.pointer (some ⟨v.x, 0, none⟩)] from BX0.out.fq HFz.out (fun h => by
        have hs := HSB.out
        rcases h with h | h | h
        · have := HDL.out sb ⟨7, h⟩; omega
        · omega
        · exact hgas.out h.symm) (.inr (by decide)))
      have hpl : (List.take i (Q.map fun p : SRow => p.2)).length ≤ 1048576 := by rw [List.length_take, List.length_map]; have := hcl.out; omega
      have hMz : M ≤ (wy.putObj (w5.heap.size + 1) (.loop bz)).heap.size := by simpa using hM2
      have hMW := hide (show w5.heap.size + 1 < M ∧ w5.heap.size < M by omega)
      have HM1 := hide hM1
      clear hblk ho9 he9 hnum hlt HFy hM2 hM1
      generalize wy.putObj (w5.heap.size + 1) (.loop bz) = wz at *
      have c0 : wz.cell? ⟨ga, 0, none⟩ = some (.slice A' (List.take i (Q.map fun p : SRow => p.2)).length c') := b3.out.cell 0
      have s0 : wz.cell? ⟨sb, 0, none⟩ = some (.pointer (some ⟨v.x, 0, none⟩)) := hsbx.out.cell 0
      have hRd := M0.out.rdChg HFz.out.chg HCC.out
      have hRA := fun (wa : World) (hx : Ext wz wa) => rowAt_any (hRd.ext hx) HR.out (s := s) (l := l) (r := r) (HQ.out _ (List.mem_of_getElem? HQI.out)) hl
      rw [HQC.out] at hRA
      have HRA := hide hRA
      have HSW := hide hMz
      obtain ⟨i0, hi0, hz0, hz1, hz2⟩ := info_parts infoRw
      clear hRd hRA
      generalize hpre : List.take i (Q.map fun p : SRow => p.2) = pre at *
      have HPRE := hide hpre
      clear hpre
      gi_wp2_with fail
      have c0 := cell_ext c0; have s0 := cell_ext s0
      refine wpIn_region_ext 5 (by kernel_rfl) (by kernel_rfl) (fun _ _ hq => hq) (by kernel_rfl) (by kernel_rfl) ?_
      iterate 3
        refine wpE_k (by kernel_rfl) (by kernel_rfl) ?_
        apply Exists.intro
        refine ⟨fun w1 hw1 => ?_, fun K hK => ?_⟩
        · go_simp; first | done | rfl
        go_simp; refine hK _ _ ?_; clear hK K
      refine wpE_p [] (fun u w1 => ∃ Ay cy, u = .slice Ay r.length cy ∧ w1.ownsRow M 43 3 (.slice Ay r.length cy) r.length (cellsR r)) (fun u w1 w2 _ h2 ⟨Ay, cy, h3, h4⟩ => ⟨Ay, cy, h3, mine_ext h4 h2⟩) rfl (by kernel_rfl) (fun w1 hw1 => ?_) ?_
      · simp only [LookQ]
        go_simp
        refine ⟨Ext.refl _, (HRA.out w1 hw1).mono fun e w' hR => ?_⟩
        obtain ⟨A, c, he, ho, hE⟩ := hR
        exact ⟨_, he, hE, A, c, rfl, mine_base ho (Nat.le_trans HSW.out hw1.size)⟩
      refine wpE_p [17] (fun u w1 => ∃ gb Ay cy, u = .slice (some ⟨gb, 0, none⟩) 1 1 ∧ Blk w1 gb 30 #[.slice Ay r.length cy] ∧ w1.ownsRow M 43 3 (.slice Ay r.length cy) r.length (cellsR r)) (fun u w1 w2 _ h2 ⟨gb, Ay, cy, h3, h4, h5⟩ => ⟨gb, Ay, cy, h3, h4.ext h2, mine_ext h5 h2⟩) rfl (by kernel_rfl) (fun w1 hw1 => ?_) ?_
      · simp only [LookQ]
        intro u hu
        obtain ⟨Ay, cy, rfl, ho⟩ := hu _ rfl
        clear hu
        go_simp
        exact ⟨Ext.alloc _ _, Ay, cy, Blk.new _ _ _, mine_ext ho (Ext.alloc _ _)⟩
      refine wpE_nil ⟨rfl, by kernel_rfl, fun w3 hw3 => ?_⟩
      simp only [EndQ]
      rintro _ ⟨gb, Ay, cy, rfl, hBb, hO3⟩ u17 _
      simp only [List.drop]
      have HBB := hide hBb; have HO3 := hide hO3; have HW3 := hide hw3
      clear hBb hO3 hw3 c0 s0
      have HS3 := hide (Nat.le_trans HSW.out HW3.out.size)
      go_wp2_with (at_builtin; refine wpList_append_own _ rfl _ _ 22 rfl M 30 i0 _ 1 24 Tryz.underlying22 hi0 hz0 hz1 hz2 rfl (by decide) _ _ _ rfl (mine_ext ho'.out HW3.out) ⟨gb, 0, none⟩ 1 1 [.slice Ay r.length cy] rfl rfl (blk_one' HBB.out) (by simp [Value.oneCell']) (by unfold maxLen; omega) (by omega) HS3.out ?_; intro v8 w8 own8 G8 _; obtain ⟨g8, cap8, rfl⟩ := ownsRow_succ own8; have V8 := hide ((b3.out.ext HW3.out).grown G8 (own_ne_blk (mine_ext ho'.out HW3.out) (b3.out.ext HW3.out) (by decide))); have v8 := V8.out.cell 0; have f8 := V8.out.frozen 0; have OWN8 := hide own8; have GR8 := hide G8; clear own8 G8)
      have hnum := HNUM.out
      have hkeep : ∀ (k : Nat) (o : Obj), wz.heap[k]? = some o → w3.heap[k]? = some o := fun k o hk => (HW3.out.block (Array.getElem?_eq_some_iff.1 hk).1).trans hk
      have hpu := jrow_push (ga := ga) (l := w5.heap.size + 1) (D0 := w5.heap.size) (b := M) (r := rec) (x := r) (hkeep _ _ HLB.out) (hkeep _ _ HMK.out) hMW.out.1 hMW.out.2 hnum.1 hnum.2.1 hnum.2.2.1 (b3.out.ext HW3.out) (mine_ext ho'.out HW3.out) (hel.out.mono fun cs x hx => RMine.stab _ _ _ _ _ HW3.out hx) HO3.out GR8.out OWN8.out
      have htk : List.take (i + 1) (Q.map fun p : SRow => p.2) = pre ++ [r] := by rw [List.take_add_one, List.getElem?_map, HQI.out, ← HPRE.out]; rfl
      refine ⟨by rw [HBZ.out]; exact hpu.1, (HXF.out.trans (Fq.of_ext HW3.out)).trans ((hpu.2.2 _ (.inl rfl) (.inr rfl)).base HM1.out), rfl, ?_⟩
      rw [htk]
      exact hpu.2.1
  have HY := hide hY; clear hY
  have hwx : Blk W0 gx 75 #[.pointer (some ⟨v.xo, 0, none⟩)] := GX.out.ext R3.out
  have hwn : Blk W0 gn 3 #[.int .i64 n] := GN.out.ext R3.out
  have hgl := GL.out
  have hall := walk1_any (M0.out.part 7) hn (w5.heap.size + 1) gx gn hwx hwn
    ⟨fun h => by have h1 := HDL.out gx ⟨7, h⟩; have h2 := HX1.out.size; omega, fun h => by have h1 := HDL.out gn ⟨7, h⟩; have h2 := HX1.out.size; omega⟩ HSY.out
    (fun M i W => JRow ga (w5.heap.size + 1) w5.heap.size M rec ((Q.map fun p : SRow => p.2).take i) W)
    (fun M w1 hM1 hM2 hc => by
      have hnum := HNUM.out
      exact (HJ0.out M).fr (S := lab.own 7) ⟨hc.os, hc.tape, hc.output, hc.size, fun k h1 h2 => hc.block k h1 h2⟩ (fun h => by have := HDL.out _ ⟨7, h⟩; omega) (fun h => by have := HDL.out _ ⟨7, h⟩; have := X5.out.size; have := HX1.out.size; omega) (fun h => by have := HDL.out _ ⟨7, h⟩; omega) (fun g h => by have := HDL.out _ ⟨7, h⟩; omega))
    HY.out
  clear hwx hwn
  refine callsIn_wide.2 (hall.mono ?_)
  clear hall
  rintro e W2 ⟨M, rfl, hM1, hM2, hj, hFq, B', hB1, hB2⟩
  have HMM := hide (And.intro hM1 hM2)
  rw [HLQ.out, List.take_of_length_le (by rw [List.length_map]; exact Nat.le_refl _)] at hj
  have HJ2 := hide hj; have HFQ := hide hFq; have HB := hide (And.intro hB1 hB2)
  clear hj hFq hB1 hB2 hM1 hM2
  have hpend : rec.pending = none := by rw [← HREC.out]; rfl
  have hbusy : rec.state ≠ .busy := by rw [← HREC.out]; simp [recOf]
  refine range_ended HJ2.out.lp hbusy ?_
  generalize ({ rec with state := .exhausted } : Loop) = ex
  rw [hpend]
  simp only [Exit.inBlock, Exit.then]
  obtain ⟨A', c', hblk, hmine⟩ := HJ2.out.out
  have hnum := HNUM.out
  have p1 := hide (hblk.putObj (l := w5.heap.size + 1) (o := .loop ex) hnum.1)
  have hmk9 := hide (show (W2.putObj (w5.heap.size + 1) (.loop ex)).heap[w5.heap.size]? = some (.deferred (some [])) from (World.putObj_heap_other hnum.2.1).trans HJ2.out.mark)
  have HM3 := hide (show M ≤ (W2.putObj (w5.heap.size + 1) (.loop ex)).heap.size from by have := HMM.out.2; simpa using this)
  have hmine' := hide (show MineV M (W2.putObj (w5.heap.size + 1) (.loop ex)) A' (Q.map fun p : SRow => p.2).length c' (Q.map fun p : SRow => p.2) from by
    obtain ⟨cells, g1, g2, g3⟩ := hmine
    refine ⟨cells, g1, own_putObj g2 (fun g hg => by have := (g2.lt g hg).1; have := HMM.out.1; omega), g3.mono fun cs x hx => ?_⟩
    obtain ⟨Bx, k1, c1, y1, y2⟩ := hx
    exact ⟨Bx, k1, c1, y1, own_putObj y2 fun g hg => by have := (y2.lt g hg).1; have := HMM.out.1; omega⟩)
  have HFQ3 := hide (HFQ.out.putObj (l := w5.heap.size + 1) (o := .loop ex) (.inr (.inl rfl)))
  have HB3 := hide (show HCh (W2.putObj (w5.heap.size + 1) (.loop ex)) B' v.xo (v.most * v.L) (v.most * v.L + 1) v.cont from HB.out.1.fq (S := fun g => g = w5.heap.size + 1) (base := (W2.putObj (w5.heap.size + 1) (.loop ex)).heap.size) (Fq.putObj (Fq.of_ext (Ext.refl W2)) rfl) (fun g hg e => by
    subst e
    rcases (HB.out.2 _ hg).1 with h | h
    · have := HDL.out _ ⟨7, h⟩; omega
    · omega))
  clear hblk hmine hnum
  generalize W2.putObj (w5.heap.size + 1) (.loop ex) = W3 at *
  have g0 : W3.cell? ⟨ga, 0, none⟩ = some (.slice A' (Q.map fun p : SRow => p.2).length c') := p1.out.cell 0
  go_wp2_with fail
  refine ⟨by simp, .inl ⟨w5.heap.size, _, rfl, run_takeDeferred hmk9.out, ?_⟩⟩
  have hnum := HNUM.out
  have hF4 : Fq (fun g => lab.own 7 g ∨ (g = w5.heap.size + 1 ∨ g = ga) ∨ g = w5.heap.size) W0.heap.size W0 (W3.putObj w5.heap.size (.deferred none)) := (HFQ3.out.mono fun g hg => hg.imp id .inl).putObj (.inr (.inr rfl))
  have hB4 : HCh (W3.putObj w5.heap.size (.deferred none)) B' v.xo (v.most * v.L) (v.most * v.L + 1) v.cont := HB3.out.fq (S := fun g => g = w5.heap.size) (base := W3.heap.size) (Fq.putObj (Fq.of_ext (Ext.refl W3)) rfl) (fun g hg e => by
    subst e
    rcases (HB.out.2 _ hg).1 with h | h
    · have := HDL.out _ ⟨7, h⟩; omega
    · omega)
  obtain ⟨cells, g1, g2, g3⟩ := hmine'.out
  have hlm : (Q.map fun p : SRow => p.2).length = Q.length := List.length_map ..
  have hsb := HSB.out
  have hM1 := HMM.out.1
  have hm4 : MineV M (W3.putObj w5.heap.size (.deferred none)) A' Q.length c' (Q.map fun p : SRow => p.2) := by
    rw [hlm] at g2
    refine ⟨cells, hlm.symm, own_putObj g2 (fun g hg => by have := (g2.lt g hg).1; omega), g3.mono fun cs x hx => ?_⟩
    obtain ⟨Bx, k1, c1, y1, y2⟩ := hx
    exact ⟨Bx, k1, c1, y1, own_putObj y2 fun g hg => by have := (y2.lt g hg).1; omega⟩
  obtain ⟨lab', hM', hD'⟩ := M0.out.chgTo 7 (B' := B') (fun b hb => (HB.out.2 b hb).1) hB4.lt hF4.chg (fun g hg => hg.imp id fun h hd => by have := HDL.out g hd; omega) hB4
  have hWX := HX.out.size
  refine ⟨.slice A' Q.length c', ?_, A', c', rfl, M, hm4, lab', hM', fun b hb => (hD' b hb).imp id fun h => by have := h.1; omega, ?_, fun b hb => ?_, by omega, by have := HM3.out; simpa using this⟩
  · simp [results, Tryz.results45, go_sem]
  · have hc := (Chg.of HX.out (B := lab.dom)).trans hF4.chg fun g hg hl => ?_
    · exact hc
    · rcases hg with h | h
      · exact ⟨7, h⟩
      · omega
  · rcases hD' b hb with h | h
    · have := HDL.out b h; omega
    · exact (HB.out.2 b h.2).2
set_option maxRecDepth 100000 in
set_option maxHeartbeats 2000000 in
theorem rows_none {w : World} {lab : Lab} {v : StV} (h : StM w lab v) :
    Calls Tryz.prog 45 #[.pointer (some ⟨v.x, 0, none⟩), .int .i64 (-1)] w fun e w' => e = .returned (.slice none 0 0) ∧ StR w lab w' v := by
  have hmf : ∀ (fn : Fn) (first cap : Array Value) (w : World), (Instr.makeFunc fn first cap).run Tryz.prog w = .ok (.func fn first cap) w := fun _ _ _ _ => rfl
  have HH := hide h
  have hx1 := (Ext.alloc w (.cells #[.pointer (some ⟨v.x, 0, none⟩)] 23)).alloc' (.cells #[.slice none 0 0] 22)
  have p0 := (Blk.new w 23 #[.pointer (some ⟨v.x, 0, none⟩)]).ext (Ext.alloc _ (.cells #[.slice none 0 0] 22))
  have p1 := Blk.new (w.alloc (.cells #[.pointer (some ⟨v.x, 0, none⟩)] 23)) 22 #[.slice none 0 0]
  rw [World.size_alloc] at p1
  have HX1 := hide hx1; have P0 := hide p0; have P1 := hide p1
  clear h hx1 p0 p1
  refine (callsIn_wide (n := 4)).1 ?_
  refine callsIn_of_wp_marks Tryz.func45 rfl trivial ?_ rfl
  refine wpIn_wide.2 ?_
  simp only [Tryz.ntmps45, List.size_toArray, List.length_cons, List.length_nil, Nat.reduceAdd, Nat.reduceSub, Array.replicate_succ, Array.replicate_zero, List.push_toArray, List.append_toArray, List.nil_append, List.cons_append]
  go_upto_region 2 with fail
  generalize (w.alloc (.cells #[.pointer (some ⟨v.x, 0, none⟩)] 23)).alloc (.cells #[.slice none 0 0] 22) = w1 at *
  have hga0 := hide (Nat.le_succ w.heap.size)
  have hgas := hide (show w.heap.size + 1 ≠ w.heap.size by omega)
  obtain ⟨ga, hgae⟩ : ∃ ga, w.heap.size + 1 = ga := ⟨_, rfl⟩
  obtain ⟨sb, hsbe⟩ : ∃ sb, w.heap.size = sb := ⟨_, rfl⟩
  rw [hgae] at P1 hgas ⊢
  rw [hsbe] at P0 hgas ⊢
  have HGA := hide hgae; have HSB := hide hsbe
  clear hgae hsbe hga0
  have s0 : w1.cell? ⟨sb, 0, none⟩ = some (.pointer (some ⟨v.x, 0, none⟩)) := P0.out.cell 0
  have a10 : w1.cell? ⟨v.x, 10, none⟩ = some (.pointer (some ⟨v.xo, 0, none⟩)) := (HH.out.ext HX1.out).str.cell 10
  have HWk := hide (fun wx => walk_any wx v.xo (-1))
  go_wp2_with ((with_reducible refine (HWk.out _).mono ?_); rintro e w5 ⟨gx, gn, rfl, h1, h2, h3, h4, h5, h6⟩; have GX := hide h1; have GN := hide h2; have GL := hide (And.intro h3 (And.intro h4 h5)); have X5 := hide h6; clear h1 h2 h3 h4 h5 h6)
  refine (wpIn_wide (n := 4)).1 ?_
  refine wp_range (gf := 114) (lb := #[.pointer (some ⟨gx, 0, none⟩), .pointer (some ⟨gn, 0, none⟩)]) rfl (enters_of Tryz.func114 (by kernel_rfl) rfl) ?_
  intro fn
  generalize hrec : recOf fn _ _ _ _ w5.heap.size = rec
  have HREC := hide hrec; clear hrec
  obtain ⟨r1, r2, r3, r4⟩ := rec_laid w5 rec
  generalize (w5.alloc (.deferred (some []))).alloc (.loop rec) = W0 at *
  have R3 := hide r3
  have HX := hide ((HX1.out.trans X5.out).trans r3)
  have hl1 := (Array.getElem?_eq_some_iff.1 r1).1
  have hl2 := (Array.getElem?_eq_some_iff.1 r2).1
  have hg5 : ga < w5.heap.size := by have := P1.out.lt; have := X5.out.size; omega
  have R1 := hide r1; have R2 := hide r2; have HN := hide (And.intro hg5 (And.intro hl1 hl2))
  have BG := hide ((P1.out.ext X5.out).ext r3)
  clear r1 r2 r3 r4 hg5 hl1 hl2
  have hall := walk1_bad (w5.heap.size + 1) v.xo gx gn (GX.out.ext R3.out) (GN.out.ext R3.out)
  refine callsIn_wide.2 (hall.mono ?_)
  clear hall
  rintro e W2 ⟨rfl, rfl⟩
  have hpend : rec.pending = none := by rw [← HREC.out]; rfl
  have hbusy : rec.state ≠ .busy := by rw [← HREC.out]; simp [recOf]
  refine range_ended R1.out hbusy ?_
  generalize ({ rec with state := .exhausted } : Loop) = ex
  rw [hpend]
  simp only [Exit.inBlock, Exit.then]
  have hnum := HN.out
  have p1 := hide (BG.out.putObj (l := w5.heap.size + 1) (o := .loop ex) (by omega))
  have hmk9 := hide (show (W2.putObj (w5.heap.size + 1) (.loop ex)).heap[w5.heap.size]? = some (.deferred (some [])) from (World.putObj_heap_other (by omega)).trans R2.out)
  have HFQ3 := hide (Fq.putObj (S := fun g => g = w5.heap.size + 1 ∨ g = w5.heap.size) (base := W2.heap.size) (l := w5.heap.size + 1) (o := .loop ex) (Fq.of_ext (Ext.refl W2)) (.inl rfl))
  clear hnum
  generalize W2.putObj (w5.heap.size + 1) (.loop ex) = W3 at *
  have g0 : W3.cell? ⟨ga, 0, none⟩ = some (.slice none 0 0) := p1.out.cell 0
  go_wp2_with fail
  refine ⟨by simp, .inl ⟨w5.heap.size, _, rfl, run_takeDeferred hmk9.out, ?_⟩⟩
  have hF4 := (HFQ3.out.putObj (l := w5.heap.size) (o := .deferred none) (.inr rfl)).chg
  have hsb := HSB.out
  have hsz5 := X5.out.size
  have hsz1 := HX1.out.size
  have hM0 := HH.out.ext HX.out
  have hnd : ∀ g, lab.dom g → ¬ (g = w5.heap.size + 1 ∨ g = w5.heap.size) := fun g ⟨i, hi⟩ h => by have := HH.out.lt g i hi; omega
  refine ⟨.slice none 0 0, by simp [results, Tryz.results45, go_sem], rfl, lab, hM0.chg hF4 hnd, fun b hb => .inl hb, (Chg.of HX.out (B := lab.dom)).trans hF4 fun g hg hl => by omega⟩
end Go.Proofs.YtifloafhpeeepaaGreat
