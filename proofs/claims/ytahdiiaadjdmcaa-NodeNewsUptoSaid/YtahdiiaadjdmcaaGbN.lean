/-
  store: rowsOf: the rows of a list.
  store: Rows, Group, Size, First, Next.
  store: Drop.
-/
import Derived.Test.YtahdiiaadjdmcaaGbM
import Derived.Test.YtahdiiaadjdmcaaExtIn
import Derived.OwnWalkIn
import Derived.TacticsInMore
import Derived.Maps.AppendAt
import Derived.RangeFuncBox
namespace Go.Proofs.Ytahdiiaadjdmcaa
open Go.RowKit
attribute [local go_sem] Oper.semAt_some

theorem Fq.chg {S : Nat → Prop} {w w' : World} (h : Fq S w.heap.size w w') : Chg S w w' :=
  ⟨h.os, h.tape, h.output, h.size, fun k h1 h2 => h.block k h1 h2 fun h3 => by have := h3.1; omega⟩
theorem Fq.base {S : Nat → Prop} {b b' : Nat} {w w' : World} (h : Fq S b w w') (hb : b' ≤ b) : Fq S b' w w' :=
  ⟨h.os, h.tape, h.output, h.size, fun k h1 h2 h3 => h.block k h1 h2 fun h4 => h3 ⟨by have := h4.1; omega, h4.2⟩⟩
theorem blk_one' {w : World} {g : Nat} {t : TypeId} {u : Value} (h : Blk w g t #[u]) : ∀ (j : Nat) (v : Value), [u][j]? = some v → w.cell? ((⟨g, 0, none⟩ : Addr).add j) = some v := fun j v hv => by
  rw [add_flat, Nat.zero_add, h.cell]
  simpa using hv
/-- no two lie in one block -/
def Apart (cells : List Value) : Prop := cells.Pairwise fun u v => ∀ g, u.ownBlock = some g → v.ownBlock ≠ some g
theorem Apart.push {cells : List Value} {u : Value} (h : Apart cells) (hu : ∀ v ∈ cells, ∀ g, v.ownBlock = some g → u.ownBlock ≠ some g) : Apart (cells ++ [u]) :=
  List.pairwise_append.2 ⟨h, List.pairwise_singleton _ _, fun a ha b hb => by obtain rfl := List.mem_singleton.1 hb; exact hu a ha⟩
theorem els_lt {b : Nat} {w : World} {cells : List Value} {rows : List (List V)} (h : Els (RMine b) 1 w cells rows) : ∀ v ∈ cells, ∀ g, v.ownBlock = some g → g < w.heap.size := by
  induction h with
  | nil => intro v hv; cases hv
  | @cons cs x cells xs h1 _ h4 _ ih =>
    intro v hv g hg
    rcases List.mem_append.1 hv with hv | hv
    · obtain ⟨A9, n9, c9, rfl, ho⟩ := h4
      obtain rfl : v = .slice A9 n9 c9 := by simpa using hv
      exact (ho.lt g hg).2
    · exact ih v hv g hg
/-- rows of values of the call's own, each in a block of its own -/
def MineA (b : Nat) (w : World) (A : Option Addr) (n c : Nat) (rows : List (List V)) : Prop := ∃ cells, n = rows.length ∧ w.ownsRow b 62 1 (.slice A n c) n cells ∧ Els (RMine b) 1 w cells rows ∧ Apart cells
theorem MineA.mine {b : Nat} {w : World} {A : Option Addr} {n c : Nat} {rows : List (List V)} (h : MineA b w A n c rows) : MineV b w A n c rows := by
  obtain ⟨cells, h1, h2, h3, h4⟩ := h
  exact ⟨cells, h1, h2, h3⟩
theorem MineA.nil (b : Nat) (w : World) : MineA b w none 0 0 [] := ⟨[], rfl, World.ownsRow_nil _ _ _ _, .nil, .nil⟩
theorem MineA.fr {S : Nat → Prop} {b : Nat} {w w' : World} {A : Option Addr} {n c : Nat} {rows : List (List V)} (h : MineA b w A n c rows) (hF : Fr S w w') (hS : ∀ g, S g → g < b) : MineA b w' A n c rows := by
  obtain ⟨cells, h1, h2, h3, h4⟩ := h
  exact ⟨cells, h1, own_fr h2 hF fun g hg hs => (by have := (h2.lt g hg).1; have := hS g hs; omega), h3.mono fun cs x hx => hx.fr hF hS, h4⟩
/-- the rounds of rowsOf: the rows of pre are there -/
structure JRow (ga l D0 b : Nat) (rc : Loop) (pre : List (List V)) (W : World) : Prop where
  lp : W.heap[l]? = some (.loop rc)
  mark : W.heap[D0]? = some (.deferred (some []))
  out : ∃ A c, Blk W ga 32 #[.slice A pre.length c] ∧ MineA b W A pre.length c pre
theorem JRow.fr {S : Nat → Prop} {ga l D0 b : Nat} {r : Loop} {pre : List (List V)} {w w' : World} (h : JRow ga l D0 b r pre w) (hF : Fr S w w') (h1 : ¬ S l) (h2 : ¬ S D0) (h3 : ¬ S ga) (hS : ∀ g, S g → g < b) : JRow ga l D0 b r pre w' := by
  obtain ⟨A, c, h4, h5⟩ := h.out
  exact ⟨(hF.block l (Array.getElem?_eq_some_iff.1 h.lp).1 h1).trans h.lp, (hF.block D0 (Array.getElem?_eq_some_iff.1 h.mark).1 h2).trans h.mark, A, c, h4.fr hF h3, h5.fr hF hS⟩
/-- one row more -/
theorem jrow_push {ga l D0 b : Nat} {r bz : Loop} {pre : List (List V)} {x : List V} {wz w8 : World} {A' : Option Addr} {c' g8 cap8 : Nat} {Ay : Option Addr} {n9 cy : Nat} {cellsA : List Value} 
    (h1 : wz.heap[l]? = some (.loop bz)) (h2 : wz.heap[D0]? = some (.deferred (some []))) (hlb : l < b) (hDb : D0 < b) (hne : ga ≠ l) (hne2 : D0 ≠ l) (hne3 : ga ≠ D0)
    (h3 : Blk wz ga 32 #[.slice A' pre.length c']) (h4 : wz.ownsRow b 62 1 (.slice A' pre.length c') pre.length cellsA) (h5 : Els (RMine b) 1 wz cellsA pre) (h6 : wz.ownsRow b 59 3 (.slice Ay n9 cy) n9 (cellsR x))
    (hap : Apart cellsA) (hfr : ∀ v ∈ cellsA, ∀ g, v.ownBlock = some g → (Value.slice Ay n9 cy).ownBlock ≠ some g) (hg : wz.grownBy w8 (Value.slice A' pre.length c').ownBlock) (h8 : w8.ownsRow b 62 1 (.slice (some ⟨g8, 0, none⟩) (pre.length + 1) cap8) (pre.length + 1) (cellsA ++ [.slice Ay n9 cy])) :
    (w8.setCell ⟨ga, 0, none⟩ (.slice (some ⟨g8, 0, none⟩) (pre.length + 1) cap8)).heap[l]? = some (.loop bz) ∧
    JRow ga l D0 b r (pre ++ [x]) ((w8.setCell ⟨ga, 0, none⟩ (.slice (some ⟨g8, 0, none⟩) (pre.length + 1) cap8)).putObj l (.loop r)) ∧
    (∀ S : Nat → Prop, S l → S ga → Fq S b wz ((w8.setCell ⟨ga, 0, none⟩ (.slice (some ⟨g8, 0, none⟩) (pre.length + 1) cap8)).putObj l (.loop r))) := by
  have keep : ∀ (k : Nat) (o : Obj), k < b → k ≠ ga → wz.heap[k]? = some o → (w8.setCell ⟨ga, 0, none⟩ (.slice (some ⟨g8, 0, none⟩) (pre.length + 1) cap8)).heap[k]? = some o := fun k o hk hkg hko => by
    have hlt := (Array.getElem?_eq_some_iff.1 hko).1
    refine (Below.heap_setCell w8 ⟨ga, 0, none⟩ _ k (fun e => hkg e)).trans ?_
    refine (hg.block k hlt fun e => ?_).trans hko
    have := (h4.lt k e.symm).1
    omega
  have hl := keep l _ hlb (Ne.symm hne) h1
  have hD := keep D0 _ hDb (Ne.symm hne3) h2
  have V8 := (h3.grown hg (own_ne_blk h4 h3 (by decide)))
  have hlt := (Array.getElem?_eq_some_iff.1 hl).1
  refine ⟨hl, ⟨World.putObj_heap_same hlt, (World.putObj_heap_other hne2).trans hD, some ⟨g8, 0, none⟩, cap8, ?_, cellsA ++ [.slice Ay n9 cy], by simp, ?_, ?_, hap.push hfr⟩, fun S hS1 hS2 => ?_⟩
  · rw [List.length_append]
    exact (V8.set_ 0 _).putObj hne
  · rw [List.length_append]
    exact own_putObj (mine_set h8 V8 (by decide) 0 _) (fun g hg e => by have := (h8.lt g hg).1; omega)
  · have key : ∀ (cs : List Value) (rw_ : List V), RMine b wz cs rw_ → RMine b ((w8.setCell ⟨ga, 0, none⟩ (.slice (some ⟨g8, 0, none⟩) (pre.length + 1) cap8)).putObj l (.loop r)) cs rw_ := fun cs rw_ hx => by
      obtain ⟨B, k1, c1, g1, g2⟩ := (hx.other h4 (by decide) hg).set_ V8 (by decide) 0 (.slice (some ⟨g8, 0, none⟩) (pre.length + 1) cap8)
      exact ⟨B, k1, c1, g1, own_putObj g2 fun g hg e => by have := (g2.lt g hg).1; omega⟩
    refine (h5.mono key).append (Els.single rfl (fun v hv => by obtain rfl := List.mem_singleton.1 hv; rfl) (key _ _ ⟨Ay, n9, cy, rfl, h6⟩))
  · refine Fq.putObj ?_ hS1
    refine (Fq.of_grown h4 hg).trans ?_
    exact Fq.of_fr ((Fr.refl S w8).setCell (p := ⟨ga, 0, none⟩) (.inl hS2) _)
set_option maxRecDepth 100000 in
set_option maxHeartbeats 2000000 in
theorem rows_of {w : World} {lab : Lab} {v : StV} (h : StM w lab v) (hr : StRow v) {n l : Nat} (hn : n < v.most * v.L + 1) {Q : List SRow} (hc : v.cont n = Q.map fun p => p.1 * v.L + l) (hQ : ∀ p ∈ Q, p ∈ v.P) (hl : l < v.L) :
    Calls Try.prog 26 #[.pointer (some ⟨v.x, 0, none⟩), .int .i64 n] w fun e w' => ∃ A c, e = .returned (.slice A Q.length c) ∧ ∃ M, MineA M w' A Q.length c (Q.map fun p : SRow => p.2) ∧ StRM w lab w' v M := by
  have hmf : ∀ (fn : Fn) (first cap : Array Value) (w : World), (Instr.makeFunc fn first cap).run Try.prog w = .ok (.func fn first cap) w := fun _ _ _ _ => rfl
  have HH := hide h; have HR := hide hr; have HC := hide hc; have HQ := hide hQ
  have hx1 := (Ext.alloc w (.cells #[.pointer (some ⟨v.x, 0, none⟩)] 65)).alloc' (.cells #[.slice none 0 0] 32)
  have p0 := (Blk.new w 65 #[.pointer (some ⟨v.x, 0, none⟩)]).ext (Ext.alloc _ (.cells #[.slice none 0 0] 32))
  have p1 := Blk.new (w.alloc (.cells #[.pointer (some ⟨v.x, 0, none⟩)] 65)) 32 #[.slice none 0 0]
  rw [World.size_alloc] at p1
  have HX1 := hide hx1; have P0 := hide p0; have P1 := hide p1
  clear h hr hc hQ hx1 p0 p1
  refine (callsIn_wide (n := 4)).1 ?_
  refine callsIn_of_wp_marks Try.func26 rfl trivial ?_ rfl
  refine wpIn_wide.2 ?_
  simp only [Try.ntmps26, List.size_toArray, List.length_cons, List.length_nil, Nat.reduceAdd, Nat.reduceSub, Array.replicate_succ, Array.replicate_zero, List.push_toArray, List.append_toArray, List.nil_append, List.cons_append]
  go_upto_region 2 with fail
  generalize (w.alloc (.cells #[.pointer (some ⟨v.x, 0, none⟩)] 65)).alloc (.cells #[.slice none 0 0] 32) = w1 at *
  have hga0 := hide (Nat.le_succ w.heap.size)
  have hgas := hide (show w.heap.size + 1 ≠ w.heap.size by omega)
  obtain ⟨ga, hgae⟩ : ∃ ga, w.heap.size + 1 = ga := ⟨_, rfl⟩
  obtain ⟨sb, hsbe⟩ : ∃ sb, w.heap.size = sb := ⟨_, rfl⟩
  rw [hgae] at P1 hgas ⊢
  rw [hsbe] at P0 hgas ⊢
  have HGA := hide hgae; have HSB := hide hsbe
  clear hgae hsbe hga0
  have s0 : w1.cell? ⟨sb, 0, none⟩ = some (.pointer (some ⟨v.x, 0, none⟩)) := P0.out.cell 0
  have a10 : w1.cell? ⟨v.x, 10, none⟩ = some (.pointer (some ⟨v.xo, 0, none⟩)) := (HH.out.ext HX1.out).str.cell 10
  have HWk := hide (fun wx => walk_any wx v.xo (n : Int))
  go_wp2_with ((with_reducible refine (HWk.out _).mono ?_); rintro e w5 ⟨gx, gn, rfl, h1, h2, h3, h4, h5, h6⟩; have GX := hide h1; have GN := hide h2; have GL := hide (And.intro h3 (And.intro h4 h5)); have X5 := hide h6; clear h1 h2 h3 h4 h5 h6)
  refine (wpIn_wide (n := 4)).1 ?_
  refine wp_range (gf := 43) (lb := #[.pointer (some ⟨gx, 0, none⟩), .pointer (some ⟨gn, 0, none⟩)]) rfl (enters_of Try.func43 (by kernel_rfl) rfl) ?_
  intro fn
  generalize hrec : recOf fn _ _ _ _ w5.heap.size = rec
  have HREC := hide hrec; clear hrec
  obtain ⟨r1, r2, r3, r4⟩ := rec_laid w5 rec
  generalize (w5.alloc (.deferred (some []))).alloc (.loop rec) = W0 at *
  have R4 := hide r4; have R3 := hide r3
  have HSZ0 := hide (show w5.heap.size + 2 = W0.heap.size from r4.symm)
  have HX := hide ((HX1.out.trans X5.out).trans r3)
  have M0 := hide (HH.out.ext HX.out)
  have hdl : ∀ b, lab.dom b → b < w.heap.size := fun b ⟨i, hi⟩ => HH.out.lt b i hi
  have HDL := hide hdl
  have s15 := X5.out.size
  have s1 := P1.out.lt
  have hga5 : ga < w5.heap.size := by omega
  have hsg := HSB.out; have hgg := HGA.out
  have HNUM := hide (show ga ≠ w5.heap.size + 1 ∧ w5.heap.size ≠ w5.heap.size + 1 ∧ ga ≠ w5.heap.size ∧ w5.heap.size + 1 < W0.heap.size ∧ w.heap.size ≤ ga ∧ w.heap.size < w5.heap.size + 1 from ⟨by omega, by omega, by omega, by omega, by omega, by omega⟩)
  have hSY : ∀ g, (g = w5.heap.size + 1 ∨ g = ga) → g < W0.heap.size ∧ ¬ lab.own 7 g := fun g hg => ⟨by omega, fun h7 => by have := hdl g ⟨7, h7⟩; omega⟩
  have hCC : ∀ g, (lab.own 7 g ∨ (g = w5.heap.size + 1 ∨ g = ga)) → lab.own 7 g ∨ ¬ lab.dom g := fun g hg => hg.imp id fun h hd => by have := hdl g hd; omega
  have HSY := hide hSY; have HCC := hide hCC
  have hj0 : ∀ M, JRow ga (w5.heap.size + 1) w5.heap.size M rec [] W0 := fun M => ⟨r1, r2, none, 0, (P1.out.ext X5.out).ext r3, MineA.nil _ _⟩
  have HJ0 := hide hj0
  have hlenQ : (v.cont n).length = Q.length := by rw [HC.out, List.length_map]
  have HLQ := hide hlenQ
  have hcl := hide (show Q.length ≤ 1048576 from by
    rw [← hlenQ]
    have hb : ∀ y ∈ v.cont n, y < v.most * v.L := fun y hy => cont_lt (HH.out.part 7) hy
    have h9 := nodup_lt _ _ (cont_nd (HH.out.part 7) n) hb
    have h10 := (HH.out.part 7).cm
    omega)
  have BX0 := hide ((P0.out.ext X5.out).ext r3)
  clear hdl hSY hCC hj0 hlenQ r4
  have hY : ∀ (M i c : Nat) (w1 : World), W0.heap.size ≤ M → M ≤ w1.heap.size → (v.cont n)[i]? = some c → JRow ga (w5.heap.size + 1) w5.heap.size M rec ((Q.map fun p : SRow => p.2).take i) w1 → Fq (fun g => lab.own 7 g ∨ (g = w5.heap.size + 1 ∨ g = ga)) W0.heap.size W0 w1 → (∃ B', HCh w1 B' v.xo (v.most * v.L) (v.most * v.L + 1) v.cont ∧ ∀ b, B' b → (lab.own 7 b ∨ W0.heap.size ≤ b) ∧ b < M) →
      ∃ fn tmps assign body, (Instr.yield (w5.heap.size + 1) #[.int .i64 c]).run Try.prog w1 = .ok (.round (w5.heap.size + 1) fn tmps assign body) w1 ∧
        RoundIn Fence.wide 0 Try.prog (w5.heap.size + 1) fn tmps assign body w1 fun e w' => Fq (fun g => g = w5.heap.size + 1 ∨ g = ga) W0.heap.size w1 w' ∧ e = .returned (.bool true) ∧ JRow ga (w5.heap.size + 1) w5.heap.size M rec ((Q.map fun p : SRow => p.2).take (i + 1)) w' := by
    intro M i c wy hM1 hM2 hci hj hF _
    refine range_round hj.lp ?_ ?_ ?_ trivial ?_
    · rw [← HREC.out]; rfl
    · rw [← HREC.out]; rfl
    · rw [← HREC.out]; rfl
    · have HJ := hide hj; have HFy := hide hF
      obtain ⟨q, hq, hqc⟩ : ∃ q, Q[i]? = some q ∧ q.1 * v.L + l = c := by
        rw [HC.out, List.getElem?_map] at hci
        exact Option.map_eq_some_iff.1 hci
      obtain ⟨s, r⟩ := q
      dsimp only at hqc
      have HQI := hide hq; have HQC := hide hqc
      clear hj hF hci hq hqc
      have hA := congrArg Loop.assign HREC.out
      have hB := congrArg Loop.body HREC.out
      have hT := congrArg Loop.tmps HREC.out
      have hP := congrArg Loop.params HREC.out
      dsimp only [recOf] at hA hB hT hP
      generalize hbz : ({ rec with state := .busy } : Loop) = bz
      rw [← hA, ← hB, ← hT, ← hP]
      have HBZ := hide hbz
      clear hA hB hT hP hbz
      gi_wp2_with fail
      refine ⟨HJ.out.lp, ?_⟩
      obtain ⟨A', c', hblk, cellsA, hn9, ho9, he9, hap9⟩ := HJ.out.out
      have HAP := hide hap9
      clear hap9
      have hnum := HNUM.out
      have b3 := hide (hblk.putObj (l := w5.heap.size + 1) (o := .loop bz) hnum.1)
      have ho' := hide (own_putObj (l := w5.heap.size + 1) (o := .loop bz) ho9 (fun g hg => by have := (ho9.lt g hg).1; omega))
      have hel := hide (he9.mono (w' := wy.putObj (w5.heap.size + 1) (.loop bz)) (R' := RMine M) fun cs r hr => by
        obtain ⟨B, k1, c1, g1, g2⟩ := hr
        exact ⟨B, k1, c1, g1, own_putObj g2 fun g hg => by have := (g2.lt g hg).1; omega⟩)
      have hlt := (Array.getElem?_eq_some_iff.1 HJ.out.lp).1
      have HLB := hide (show (wy.putObj (w5.heap.size + 1) (.loop bz)).heap[w5.heap.size + 1]? = some (.loop bz) from World.putObj_heap_same hlt)
      have HMK := hide (show (wy.putObj (w5.heap.size + 1) (.loop bz)).heap[w5.heap.size]? = some (.deferred (some [])) from (World.putObj_heap_other hnum.2.1).trans HJ.out.mark)
      have HFz := hide (HFy.out.putObj (l := w5.heap.size + 1) (o := .loop bz) (.inr (.inl rfl)))
      have HXF := hide ((Fq.of_ext (S := fun g => g = w5.heap.size + 1 ∨ g = ga) (base := W0.heap.size) (Ext.refl wy)).putObj (l := w5.heap.size + 1) (o := .loop bz) (.inl rfl))
      have hsbx := hide (show Blk (wy.putObj (w5.heap.size + 1) (.loop bz)) sb 65 #[.pointer (some ⟨v.x, 0, none⟩)] from BX0.out.fq HFz.out (fun h => by
        have hs := HSB.out
        rcases h with h | h | h
        · have := HDL.out sb ⟨7, h⟩; omega
        · omega
        · exact hgas.out h.symm) (.inr (by decide)))
      have hpl : (List.take i (Q.map fun p : SRow => p.2)).length ≤ 1048576 := by rw [List.length_take, List.length_map]; have := hcl.out; omega
      have hMz : M ≤ (wy.putObj (w5.heap.size + 1) (.loop bz)).heap.size := by simpa using hM2
      have hMW := hide (show w5.heap.size + 1 < M ∧ w5.heap.size < M by omega)
      have HM1 := hide hM1
      clear hblk ho9 he9 hnum hlt HFy hM2 hM1
      generalize wy.putObj (w5.heap.size + 1) (.loop bz) = wz at *
      have c0 : wz.cell? ⟨ga, 0, none⟩ = some (.slice A' (List.take i (Q.map fun p : SRow => p.2)).length c') := b3.out.cell 0
      have s0 : wz.cell? ⟨sb, 0, none⟩ = some (.pointer (some ⟨v.x, 0, none⟩)) := hsbx.out.cell 0
      have hRd := M0.out.rdChg HFz.out.chg HCC.out
      have hRA := fun (wa : World) (hx : Ext wz wa) => rowAt_any (hRd.ext hx) HR.out (s := s) (l := l) (r := r) (HQ.out _ (List.mem_of_getElem? HQI.out)) hl
      rw [HQC.out] at hRA
      have HRA := hide hRA
      have HSW := hide hMz
      obtain ⟨i0, hi0, hz0, hz1, hz2⟩ := info_parts infoRw
      clear hRd hRA
      generalize hpre : List.take i (Q.map fun p : SRow => p.2) = pre at *
      have HPRE := hide hpre
      clear hpre
      gi_wp2_with fail
      have c0 := cell_ext c0; have s0 := cell_ext s0
      refine wpIn_region_ext 5 (by kernel_rfl) (by kernel_rfl) (fun _ _ hq => hq) (by kernel_rfl) (by kernel_rfl) ?_
      iterate 3
        refine wpE_k (by kernel_rfl) (by kernel_rfl) ?_
        apply Exists.intro
        refine ⟨fun w1 hw1 => ?_, fun K hK => ?_⟩
        · go_simp; first | done | rfl
        go_simp; refine hK _ _ ?_; clear hK K
      refine wpE_p [] (fun u w1 => ∃ Ay cy, u = .slice Ay r.length cy ∧ w1.ownsRow wz.heap.size 59 3 (.slice Ay r.length cy) r.length (cellsR r)) (fun u w1 w2 _ h2 ⟨Ay, cy, h3, h4⟩ => ⟨Ay, cy, h3, mine_ext h4 h2⟩) rfl (by kernel_rfl) (fun w1 hw1 => ?_) ?_
      · simp only [LookQ]
        go_simp
        refine ⟨Ext.refl _, (HRA.out w1 hw1).mono fun e w' hR => ?_⟩
        obtain ⟨A, c, he, ho, hE⟩ := hR
        exact ⟨_, he, hE, A, c, rfl, mine_base ho hw1.size⟩
      refine wpE_p [17] (fun u w1 => ∃ gb Ay cy, u = .slice (some ⟨gb, 0, none⟩) 1 1 ∧ Blk w1 gb 62 #[.slice Ay r.length cy] ∧ w1.ownsRow wz.heap.size 59 3 (.slice Ay r.length cy) r.length (cellsR r)) (fun u w1 w2 _ h2 ⟨gb, Ay, cy, h3, h4, h5⟩ => ⟨gb, Ay, cy, h3, h4.ext h2, mine_ext h5 h2⟩) rfl (by kernel_rfl) (fun w1 hw1 => ?_) ?_
      · simp only [LookQ]
        intro u hu
        obtain ⟨Ay, cy, rfl, ho⟩ := hu _ rfl
        clear hu
        go_simp
        exact ⟨Ext.alloc _ _, Ay, cy, Blk.new _ _ _, mine_ext ho (Ext.alloc _ _)⟩
      refine wpE_nil ⟨rfl, by kernel_rfl, fun w3 hw3 => ?_⟩
      simp only [EndQ]
      rintro _ ⟨gb, Ay, cy, rfl, hBb, hO3⟩ u17 _
      simp only [List.drop]
      have HFR := hide (show ∀ v ∈ cellsA, ∀ g, v.ownBlock = some g → (Value.slice Ay r.length cy).ownBlock ≠ some g from fun v hv g hg e => by have h1 := els_lt hel.out v hv g hg; have h2 := (hO3.lt g e).1; omega)
      have HBB := hide hBb; have HO3 := hide (mine_base hO3 HSW.out); have HW3 := hide hw3
      clear hBb hO3 hw3 c0 s0
      have HS3 := hide (Nat.le_trans HSW.out HW3.out.size)
      go_wp2_with (at_builtin; refine wpList_append_own _ rfl _ _ 32 rfl M 62 i0 _ 1 24 Try.underlying32 hi0 hz0 hz1 hz2 rfl (by decide) _ _ _ rfl (mine_ext ho'.out HW3.out) ⟨gb, 0, none⟩ 1 1 [.slice Ay r.length cy] rfl rfl (blk_one' HBB.out) (by simp [Value.oneCell']) (by unfold maxLen; omega) (by omega) HS3.out ?_; intro v8 w8 own8 G8 _; obtain ⟨g8, cap8, rfl⟩ := ownsRow_succ own8; have V8 := hide ((b3.out.ext HW3.out).grown G8 (own_ne_blk (mine_ext ho'.out HW3.out) (b3.out.ext HW3.out) (by decide))); have v8 := V8.out.cell 0; have f8 := V8.out.frozen 0; have OWN8 := hide own8; have GR8 := hide G8; clear own8 G8)
      have hnum := HNUM.out
      have hkeep : ∀ (k : Nat) (o : Obj), wz.heap[k]? = some o → w3.heap[k]? = some o := fun k o hk => (HW3.out.block (Array.getElem?_eq_some_iff.1 hk).1).trans hk
      have hpu := jrow_push (ga := ga) (l := w5.heap.size + 1) (D0 := w5.heap.size) (b := M) (r := rec) (x := r) (hkeep _ _ HLB.out) (hkeep _ _ HMK.out) hMW.out.1 hMW.out.2 hnum.1 hnum.2.1 hnum.2.2.1 (b3.out.ext HW3.out) (mine_ext ho'.out HW3.out) (hel.out.mono fun cs x hx => RMine.stab _ _ _ _ _ HW3.out hx) HO3.out HAP.out HFR.out GR8.out OWN8.out
      have htk : List.take (i + 1) (Q.map fun p : SRow => p.2) = pre ++ [r] := by rw [List.take_add_one, List.getElem?_map, HQI.out, ← HPRE.out]; rfl
      refine ⟨by rw [HBZ.out]; exact hpu.1, (HXF.out.trans (Fq.of_ext HW3.out)).trans ((hpu.2.2 _ (.inl rfl) (.inr rfl)).base HM1.out), rfl, ?_⟩
      rw [htk]
      exact hpu.2.1
  have HY := hide hY; clear hY
  have hwx : Blk W0 gx 88 #[.pointer (some ⟨v.xo, 0, none⟩)] := GX.out.ext R3.out
  have hwn : Blk W0 gn 3 #[.int .i64 n] := GN.out.ext R3.out
  have hgl := GL.out
  have hall := walk1_any (M0.out.part 7) hn (w5.heap.size + 1) gx gn hwx hwn
    ⟨fun h => by have h1 := HDL.out gx ⟨7, h⟩; have h2 := HX1.out.size; omega, fun h => by have h1 := HDL.out gn ⟨7, h⟩; have h2 := HX1.out.size; omega⟩ HSY.out
    (fun M i W => JRow ga (w5.heap.size + 1) w5.heap.size M rec ((Q.map fun p : SRow => p.2).take i) W)
    (fun M w1 hM1 hM2 hc => by
      have hnum := HNUM.out
      exact (HJ0.out M).fr (S := lab.own 7) ⟨hc.os, hc.tape, hc.output, hc.size, fun k h1 h2 => hc.block k h1 h2⟩ (fun h => by have := HDL.out _ ⟨7, h⟩; omega) (fun h => by have := HDL.out _ ⟨7, h⟩; have := X5.out.size; have := HX1.out.size; omega) (fun h => by have := HDL.out _ ⟨7, h⟩; omega) (fun g h => by have := HDL.out _ ⟨7, h⟩; omega))
    HY.out
  clear hwx hwn
  refine callsIn_wide.2 (hall.mono ?_)
  clear hall
  rintro e W2 ⟨M, rfl, hM1, hM2, hj, hFq, B', hB1, hB2⟩
  have HMM := hide (And.intro hM1 hM2)
  rw [HLQ.out, List.take_of_length_le (by rw [List.length_map]; exact Nat.le_refl _)] at hj
  have HJ2 := hide hj; have HFQ := hide hFq; have HB := hide (And.intro hB1 hB2)
  clear hj hFq hB1 hB2 hM1 hM2
  have hpend : rec.pending = none := by rw [← HREC.out]; rfl
  have hbusy : rec.state ≠ .busy := by rw [← HREC.out]; simp [recOf]
  refine range_ended HJ2.out.lp hbusy ?_
  generalize ({ rec with state := .exhausted } : Loop) = ex
  rw [hpend]
  simp only [Exit.inBlock, Exit.then]
  obtain ⟨A', c', hblk, hmine⟩ := HJ2.out.out
  have hnum := HNUM.out
  have p1 := hide (hblk.putObj (l := w5.heap.size + 1) (o := .loop ex) hnum.1)
  have hmk9 := hide (show (W2.putObj (w5.heap.size + 1) (.loop ex)).heap[w5.heap.size]? = some (.deferred (some [])) from (World.putObj_heap_other hnum.2.1).trans HJ2.out.mark)
  have HM3 := hide (show M ≤ (W2.putObj (w5.heap.size + 1) (.loop ex)).heap.size from by have := HMM.out.2; simpa using this)
  have hmine' := hide (show MineA M (W2.putObj (w5.heap.size + 1) (.loop ex)) A' (Q.map fun p : SRow => p.2).length c' (Q.map fun p : SRow => p.2) from by
    obtain ⟨cells, g1, g2, g3, g4⟩ := hmine
    refine ⟨cells, g1, own_putObj g2 (fun g hg => by have := (g2.lt g hg).1; have := HMM.out.1; omega), g3.mono fun cs x hx => ?_, g4⟩
    obtain ⟨Bx, k1, c1, y1, y2⟩ := hx
    exact ⟨Bx, k1, c1, y1, own_putObj y2 fun g hg => by have := (y2.lt g hg).1; have := HMM.out.1; omega⟩)
  have HFQ3 := hide (HFQ.out.putObj (l := w5.heap.size + 1) (o := .loop ex) (.inr (.inl rfl)))
  have HB3 := hide (show HCh (W2.putObj (w5.heap.size + 1) (.loop ex)) B' v.xo (v.most * v.L) (v.most * v.L + 1) v.cont from HB.out.1.fq (S := fun g => g = w5.heap.size + 1) (base := (W2.putObj (w5.heap.size + 1) (.loop ex)).heap.size) (Fq.putObj (Fq.of_ext (Ext.refl W2)) rfl) (fun g hg e => by
    subst e
    rcases (HB.out.2 _ hg).1 with h | h
    · have := HDL.out _ ⟨7, h⟩; omega
    · omega))
  clear hblk hmine hnum
  generalize W2.putObj (w5.heap.size + 1) (.loop ex) = W3 at *
  have g0 : W3.cell? ⟨ga, 0, none⟩ = some (.slice A' (Q.map fun p : SRow => p.2).length c') := p1.out.cell 0
  go_wp2_with fail
  refine ⟨by simp, .inl ⟨w5.heap.size, _, rfl, run_takeDeferred hmk9.out, ?_⟩⟩
  have hnum := HNUM.out
  have hF4 : Fq (fun g => lab.own 7 g ∨ (g = w5.heap.size + 1 ∨ g = ga) ∨ g = w5.heap.size) W0.heap.size W0 (W3.putObj w5.heap.size (.deferred none)) := (HFQ3.out.mono fun g hg => hg.imp id .inl).putObj (.inr (.inr rfl))
  have hB4 : HCh (W3.putObj w5.heap.size (.deferred none)) B' v.xo (v.most * v.L) (v.most * v.L + 1) v.cont := HB3.out.fq (S := fun g => g = w5.heap.size) (base := W3.heap.size) (Fq.putObj (Fq.of_ext (Ext.refl W3)) rfl) (fun g hg e => by
    subst e
    rcases (HB.out.2 _ hg).1 with h | h
    · have := HDL.out _ ⟨7, h⟩; omega
    · omega)
  obtain ⟨cells, g1, g2, g3, g4⟩ := hmine'.out
  have hlm : (Q.map fun p : SRow => p.2).length = Q.length := List.length_map ..
  have hsb := HSB.out
  have hM1 := HMM.out.1
  have hm4 : MineA M (W3.putObj w5.heap.size (.deferred none)) A' Q.length c' (Q.map fun p : SRow => p.2) := by
    rw [hlm] at g2
    refine ⟨cells, hlm.symm, own_putObj g2 (fun g hg => by have := (g2.lt g hg).1; omega), g3.mono fun cs x hx => ?_, g4⟩
    obtain ⟨Bx, k1, c1, y1, y2⟩ := hx
    exact ⟨Bx, k1, c1, y1, own_putObj y2 fun g hg => by have := (y2.lt g hg).1; omega⟩
  obtain ⟨lab', hM', hD'⟩ := M0.out.chgTo 7 (B' := B') (fun b hb => (HB.out.2 b hb).1) hB4.lt hF4.chg (fun g hg => hg.imp id fun h hd => by have := HDL.out g hd; omega) hB4
  have hWX := HX.out.size
  refine ⟨.slice A' Q.length c', ?_, A', c', rfl, M, hm4, lab', hM', fun b hb => (hD' b hb).imp id fun h => by have := h.1; omega, ?_, fun b hb => ?_, by omega, by have := HM3.out; simpa using this⟩
  · simp [results, Try.results26, go_sem]
  · have hc := (Chg.of HX.out (B := lab.dom)).trans hF4.chg fun g hg hl => ?_
    · exact hc
    · rcases hg with h | h
      · exact ⟨7, h⟩
      · omega
  · rcases hD' b hb with h | h
    · have := HDL.out b h; omega
    · exact (HB.out.2 b h.2).2
set_option maxRecDepth 100000 in
set_option maxHeartbeats 2000000 in
theorem rows_none {w : World} {lab : Lab} {v : StV} (h : StM w lab v) :
    Calls Try.prog 26 #[.pointer (some ⟨v.x, 0, none⟩), .int .i64 (-1)] w fun e w' => e = .returned (.slice none 0 0) ∧ StR w lab w' v := by
  have hmf : ∀ (fn : Fn) (first cap : Array Value) (w : World), (Instr.makeFunc fn first cap).run Try.prog w = .ok (.func fn first cap) w := fun _ _ _ _ => rfl
  have HH := hide h
  have hx1 := (Ext.alloc w (.cells #[.pointer (some ⟨v.x, 0, none⟩)] 65)).alloc' (.cells #[.slice none 0 0] 32)
  have p0 := (Blk.new w 65 #[.pointer (some ⟨v.x, 0, none⟩)]).ext (Ext.alloc _ (.cells #[.slice none 0 0] 32))
  have p1 := Blk.new (w.alloc (.cells #[.pointer (some ⟨v.x, 0, none⟩)] 65)) 32 #[.slice none 0 0]
  rw [World.size_alloc] at p1
  have HX1 := hide hx1; have P0 := hide p0; have P1 := hide p1
  clear h hx1 p0 p1
  refine (callsIn_wide (n := 4)).1 ?_
  refine callsIn_of_wp_marks Try.func26 rfl trivial ?_ rfl
  refine wpIn_wide.2 ?_
  simp only [Try.ntmps26, List.size_toArray, List.length_cons, List.length_nil, Nat.reduceAdd, Nat.reduceSub, Array.replicate_succ, Array.replicate_zero, List.push_toArray, List.append_toArray, List.nil_append, List.cons_append]
  go_upto_region 2 with fail
  generalize (w.alloc (.cells #[.pointer (some ⟨v.x, 0, none⟩)] 65)).alloc (.cells #[.slice none 0 0] 32) = w1 at *
  have hga0 := hide (Nat.le_succ w.heap.size)
  have hgas := hide (show w.heap.size + 1 ≠ w.heap.size by omega)
  obtain ⟨ga, hgae⟩ : ∃ ga, w.heap.size + 1 = ga := ⟨_, rfl⟩
  obtain ⟨sb, hsbe⟩ : ∃ sb, w.heap.size = sb := ⟨_, rfl⟩
  rw [hgae] at P1 hgas ⊢
  rw [hsbe] at P0 hgas ⊢
  have HGA := hide hgae; have HSB := hide hsbe
  clear hgae hsbe hga0
  have s0 : w1.cell? ⟨sb, 0, none⟩ = some (.pointer (some ⟨v.x, 0, none⟩)) := P0.out.cell 0
  have a10 : w1.cell? ⟨v.x, 10, none⟩ = some (.pointer (some ⟨v.xo, 0, none⟩)) := (HH.out.ext HX1.out).str.cell 10
  have HWk := hide (fun wx => walk_any wx v.xo (-1))
  go_wp2_with ((with_reducible refine (HWk.out _).mono ?_); rintro e w5 ⟨gx, gn, rfl, h1, h2, h3, h4, h5, h6⟩; have GX := hide h1; have GN := hide h2; have GL := hide (And.intro h3 (And.intro h4 h5)); have X5 := hide h6; clear h1 h2 h3 h4 h5 h6)
  refine (wpIn_wide (n := 4)).1 ?_
  refine wp_range (gf := 43) (lb := #[.pointer (some ⟨gx, 0, none⟩), .pointer (some ⟨gn, 0, none⟩)]) rfl (enters_of Try.func43 (by kernel_rfl) rfl) ?_
  intro fn
  generalize hrec : recOf fn _ _ _ _ w5.heap.size = rec
  have HREC := hide hrec; clear hrec
  obtain ⟨r1, r2, r3, r4⟩ := rec_laid w5 rec
  generalize (w5.alloc (.deferred (some []))).alloc (.loop rec) = W0 at *
  have R3 := hide r3
  have HX := hide ((HX1.out.trans X5.out).trans r3)
  have hl1 := (Array.getElem?_eq_some_iff.1 r1).1
  have hl2 := (Array.getElem?_eq_some_iff.1 r2).1
  have hg5 : ga < w5.heap.size := by have := P1.out.lt; have := X5.out.size; omega
  have R1 := hide r1; have R2 := hide r2; have HN := hide (And.intro hg5 (And.intro hl1 hl2))
  have BG := hide ((P1.out.ext X5.out).ext r3)
  clear r1 r2 r3 r4 hg5 hl1 hl2
  have hall := walk1_bad (w5.heap.size + 1) v.xo gx gn (GX.out.ext R3.out) (GN.out.ext R3.out)
  refine callsIn_wide.2 (hall.mono ?_)
  clear hall
  rintro e W2 ⟨rfl, rfl⟩
  have hpend : rec.pending = none := by rw [← HREC.out]; rfl
  have hbusy : rec.state ≠ .busy := by rw [← HREC.out]; simp [recOf]
  refine range_ended R1.out hbusy ?_
  generalize ({ rec with state := .exhausted } : Loop) = ex
  rw [hpend]
  simp only [Exit.inBlock, Exit.then]
  have hnum := HN.out
  have p1 := hide (BG.out.putObj (l := w5.heap.size + 1) (o := .loop ex) (by omega))
  have hmk9 := hide (show (W2.putObj (w5.heap.size + 1) (.loop ex)).heap[w5.heap.size]? = some (.deferred (some [])) from (World.putObj_heap_other (by omega)).trans R2.out)
  have HFQ3 := hide (Fq.putObj (S := fun g => g = w5.heap.size + 1 ∨ g = w5.heap.size) (base := W2.heap.size) (l := w5.heap.size + 1) (o := .loop ex) (Fq.of_ext (Ext.refl W2)) (.inl rfl))
  clear hnum
  generalize W2.putObj (w5.heap.size + 1) (.loop ex) = W3 at *
  have g0 : W3.cell? ⟨ga, 0, none⟩ = some (.slice none 0 0) := p1.out.cell 0
  go_wp2_with fail
  refine ⟨by simp, .inl ⟨w5.heap.size, _, rfl, run_takeDeferred hmk9.out, ?_⟩⟩
  have hF4 := (HFQ3.out.putObj (l := w5.heap.size) (o := .deferred none) (.inr rfl)).chg
  have hsb := HSB.out
  have hsz5 := X5.out.size
  have hsz1 := HX1.out.size
  have hM0 := HH.out.ext HX.out
  have hnd : ∀ g, lab.dom g → ¬ (g = w5.heap.size + 1 ∨ g = w5.heap.size) := fun g ⟨i, hi⟩ h => by have := HH.out.lt g i hi; omega
  refine ⟨.slice none 0 0, by simp [results, Try.results26, go_sem], rfl, lab, hM0.chg hF4 hnd, fun b hb => .inl hb, (Chg.of HX.out (B := lab.dom)).trans hF4 fun g hg hl => by omega⟩
end Go.Proofs.Ytahdiiaadjdmcaa

namespace Go.Proofs.Ytahdiiaadjdmcaa
open Go.RowKit

theorem MineV.base {b b' : Nat} {w : World} {A : Option Addr} {n c : Nat} {rows : List (List V)} (h : MineV b w A n c rows) (hb : b' ≤ b) : MineV b' w A n c rows := by
  obtain ⟨cells, h1, h2, h3⟩ := h
  exact ⟨cells, h1, mine_base h2 hb, h3.mono fun cs r ⟨A, n, c, e, ho⟩ => ⟨A, n, c, e, mine_base ho hb⟩⟩
theorem MineA.base {b b' : Nat} {w : World} {A : Option Addr} {n c : Nat} {rows : List (List V)} (h : MineA b w A n c rows) (hb : b' ≤ b) : MineA b' w A n c rows := by
  obtain ⟨cells, h1, h2, h3, h4⟩ := h
  exact ⟨cells, h1, mine_base h2 hb, h3.mono fun cs r ⟨A, n, c, e, ho⟩ => ⟨A, n, c, e, mine_base ho hb⟩, h4⟩
theorem step_of {w w' : World} {lab : Lab} {v' : StV} (h : StR w lab w' v') : ∃ lab', StM w' lab' v' ∧ Step w lab w' lab' := by
  obtain ⟨lab', h1, h2, h3⟩ := h
  exact ⟨lab', h1, h2, h3⟩
theorem stR_of {w w' : World} {lab lab' : Lab} {v' : StV} (h1 : StM w' lab' v') (h2 : Step w lab w' lab') : StR w lab w' v' := ⟨lab', h1, h2.1, h2.2⟩
theorem size_of {w w' : World} {lab lab' : Lab} (h : Step w lab w' lab') : w.heap.size ≤ w'.heap.size := h.2.size
/-- the rows with this key -/
def grpS (S : SAbs) (k : Nat) (key : List V) : List (List V) := match S.gs[k]? with
  | none => []
  | some g => S.rows.filter fun r => sameR (keyR g r) key
/-- what a call leaves that tells things in blocks from M on -/
def StSM (w : World) (B : Nat → Prop) (x : Nat) (S : SAbs) (N : Nat) (w' : World) (M : Nat) : Prop :=
  ∃ B', StI w' B' x S N ∧ (∀ b, B' b → B b ∨ w.heap.size ≤ b) ∧ (∀ b, B' b → b < M) ∧ Chg B w w' ∧ w.heap.size ≤ M ∧ M ≤ w'.heap.size
theorem StSM.sts {w w' : World} {B : Nat → Prop} {x : Nat} {S : SAbs} {N M : Nat} (h : StSM w B x S N w' M) : StS w B x S N w' := by
  obtain ⟨B', h1, h2, h3, h4, h5, h6⟩ := h
  exact ⟨B', h1, h2, fun b hb => Nat.lt_of_lt_of_le (h3 b hb) h6, h4⟩
theorem StSM.of {w w' : World} {B : Nat → Prop} {x : Nat} {S : SAbs} {N M : Nat} {lab : Lab} {v' : StV} {D : Nat → List (List V × Nat)} {P0 : List SRow} {F0 : List Nat} (hB : ∀ b, lab.dom b → B b) (h : StRM w lab w' v' M) (he : SEq S x v' P0) (ho : StOk v' D N P0 F0) : StSM w B x S N w' M := by
  obtain ⟨lab', h1, h2, h3, h4, h5, h6⟩ := h
  exact ⟨lab'.dom, ⟨lab', v', D, P0, F0, h1, fun b hb => hb, he, ho⟩, fun b hb => (h2 b hb).imp (hB b) id, h4, h3.mono fun g hg _ => hB g hg, h5, h6⟩
theorem StRM.tick0 {w w' : World} {lab : Lab} {v : StV} {M : Nat} (h : StRM w lab w' v M) : StRM w lab w' (v.tick 0) M := by
  obtain ⟨lab', h1, h2⟩ := h
  exact ⟨lab', h1.tick 0, h2⟩
/-- none are told -/
theorem StRM.none {w w' : World} {lab : Lab} {v : StV} (h : StR w lab w' v) : StRM w lab w' v w'.heap.size := by
  obtain ⟨lab', h1, h2, h3⟩ := h
  exact ⟨lab', h1, h2, h3, fun b ⟨i, hi⟩ => h1.lt b i hi, h3.size, Nat.le_refl _⟩
theorem StRM.pre {w w1 w' : World} {lab lab1 : Lab} {v' : StV} {M : Nat} (hs : Step w lab w1 lab1) (h : StRM w1 lab1 w' v' M) : StRM w lab w' v' M := by
  obtain ⟨lab', h1, h2, h3, h4, h5, h6⟩ := h
  have hst := step_on hs ⟨h2, h3⟩
  exact ⟨lab', h1, hst.1, hst.2, h4, Nat.le_trans hs.2.size h5, h6⟩
set_option maxRecDepth 100000 in
theorem rows_stA {w : World} {B : Nat → Prop} {x : Nat} {S : SAbs} {N : Nat} (h : StI w B x S N) :
    Calls Try.prog 16 #[.pointer (some ⟨x, 0, none⟩)] w fun e w' => ∃ A c M, e = .returned (.slice A S.rows.length c) ∧ MineA M w' A S.rows.length c S.rows ∧ StSM w B x S (N + 1) w' M := by
  obtain ⟨lab, v, D, P0, F0, h1, h2, h3, h4⟩ := h
  have HRw := hide (show Calls Try.prog 26 #[.pointer (some ⟨v.x, 0, none⟩), .int .i64 0] w (fun e w' => ∃ A c, e = .returned (.slice A v.P.length c) ∧ ∃ M, MineA M w' A v.P.length c (v.P.map fun p : SRow => p.2) ∧ StRM w lab w' v M) from rows_of h1 h4.row (n := 0) (l := 0) (by omega) (Q := v.P) (by rw [h4.lan.c0]; rfl) (fun p hp => hp) (by unfold StV.L; omega))
  rw [h3.x] at HRw
  have e1 : v.P.length = S.rows.length := by rw [h3.rows, List.length_map]
  have e2 : (v.P.map fun p : SRow => p.2) = S.rows := h3.rows.symm
  rw [e1, e2] at HRw
  have H2 := hide h2; have H3 := hide h3; have H4 := hide h4
  clear h1 h2 h3 h4 e1 e2
  go_enter Try.func16, Try.ntmps16
  go_wp2_with ((with_reducible refine HRw.out.mono ?_); rintro e w2 ⟨A, c, rfl, M, h5, h6⟩; have M2 := hide h5; have S2 := hide h6; clear h5 h6)
  go_ret
  exact ⟨A, c, M, rfl, M2.out, StSM.of H2.out S2.out.tick0 (H3.out.tick 0) (H4.out.tick 0 1 (by omega) (Nat.le_refl _))⟩
theorem rows_st {w : World} {B : Nat → Prop} {x : Nat} {S : SAbs} {N : Nat} (h : StI w B x S N) :
    Calls Try.prog 16 #[.pointer (some ⟨x, 0, none⟩)] w fun e w' => ∃ A c M, e = .returned (.slice A S.rows.length c) ∧ MineV M w' A S.rows.length c S.rows ∧ StSM w B x S (N + 1) w' M := by
  refine (rows_stA h).mono ?_
  rintro e w' ⟨A, c, M, rfl, h1, h2⟩
  exact ⟨A, c, M, rfl, h1.mine, h2⟩
set_option maxRecDepth 100000 in
theorem no_group_in {w : World} {lab : Lab} {v : StV} (h : StM w lab v) {k : Nat} (hk : k < v.gs.length) :
    Calls Try.prog 93 #[.pointer (some ⟨v.x, 0, none⟩), .int .i64 k] w fun e w' => e = .returned (.bool false) ∧ w' = w := by
  have a3 : w.cell? ⟨v.x, 3, none⟩ = some (.slice v.GA v.gs.length v.cG) := h.str.cell 3
  have h1 : ¬ (k : Int) < 0 := by omega
  have h2 : (k : Int) < (v.gs.length : Int) := by omega
  clear h
  generalize v.gs.length = m at *
  go_enter Try.func93, Try.ntmps93
  go_wp2_with fail
  go_ret
  exact ⟨by simp; omega, rfl⟩
set_option maxRecDepth 100000 in
theorem no_group_out {w : World} {lab : Lab} {v : StV} (h : StM w lab v) {k : Int} (hk : k < 0 ∨ (v.gs.length : Int) ≤ k) :
    Calls Try.prog 93 #[.pointer (some ⟨v.x, 0, none⟩), .int .i64 k] w fun e w' => e = .returned (.bool true) ∧ w' = w := by
  have a3 : w.cell? ⟨v.x, 3, none⟩ = some (.slice v.GA v.gs.length v.cG) := h.str.cell 3
  clear h
  generalize v.gs.length = m at *
  by_cases h1 : k < 0
  · clear hk
    go_enter Try.func93, Try.ntmps93
    go_wp2_with fail
    go_ret
    exact ⟨rfl, rfl⟩
  · have h2 : (m : Int) ≤ k := by omega
    clear hk
    go_enter Try.func93, Try.ntmps93
    go_wp2_with fail
    go_ret
    exact ⟨rfl, rfl⟩
/-- what a key's list is, in a store -/
def ListSays (_v : StV) (D : Nat → List (List V × Nat)) (k : Nat) (key : List V) : Option Nat → Prop
  | none => key ∉ (D k).map (·.1)
  | some n => (key, n) ∈ D k
theorem list_st {w : World} {lab : Lab} {v : StV} {D : Nat → List (List V × Nat)} {N : Nat} {P0 : List SRow} {F0 : List Nat} (h : StM w lab v) (ho : StOk v D N P0 F0) (hN : N ≤ 8796093022208) {k : Nat} {g : List Nat} (hg : v.gs[k]? = some g) {r : List V} {A : Option Addr} {n : Nat} (c : Nat) (ha : ArgR w A n r) :
    Calls Try.prog 94 #[.pointer (some ⟨v.x, 0, none⟩), .int .i64 k, .slice A n c] w fun e w' => ∃ o : Option Nat, ListSays v D k r o ∧ e = .returned (.int .i64 (oi o)) ∧ StR w lab w' (v.tick 1) := by
  have hK := ho.K
  have hkb := kBound_le hN
  have hk := gs_lt hg
  have hlane := ho.lan.lane k g hg
  have hkeys := ho.row.keys hg hlane ho.row.rows
  have hgl := (ho.row.gs g (List.mem_of_getElem? hg)).1
  obtain ⟨xk, hxk⟩ : ∃ xk, v.gx[k]? = some xk := ⟨_, List.getElem?_eq_getElem (by rw [ho.row.gx]; exact hk)⟩
  refine (slist_any h (by omega) hg (by omega) hxk c ha (by have := pk_le r; omega)).mono ?_
  rintro e w' ⟨o, h1, rfl, h3⟩
  unfold ListAt at h1
  by_cases hgood : r.length = g.length ∧ validR r = true
  · rw [if_pos hgood] at h1
    have hkg : KeyGood g r := ⟨hgood.1, hgood.2, ha.small, ha.wf⟩
    cases o with
    | none =>
      refine ⟨none, fun hm => ?_, rfl, h3⟩
      obtain ⟨⟨key, q⟩, hd, e⟩ := List.mem_map.1 hm
      dsimp only at e
      subst e
      exact h1.2 rfl q ((hlane.entry hkeys hkg).2 ⟨q, hd, rfl⟩)
    | some z =>
      obtain ⟨q, hq, rfl⟩ := (hlane.entry hkeys hkg).1 (h1.1 z rfl)
      exact ⟨some q, hq, rfl, h3⟩
  · rw [if_neg hgood] at h1
    subst h1
    refine ⟨none, fun hm => ?_, rfl, h3⟩
    obtain ⟨d, hd, e⟩ := List.mem_map.1 hm
    have := hkeys d hd
    rw [e] at this
    exact hgood ⟨this.len, this.ok⟩
theorem grpS_eq {S : SAbs} {x : Nat} {v : StV} {P0 : List SRow} (h : SEq S x v P0) {k : Nat} {g : List Nat} (hg : v.gs[k]? = some g) (key : List V) : grpS S k key = (v.P.filter fun p => sameR (keyR g p.2) key).map (·.2) := by
  unfold grpS
  rw [h.gs, hg, h.rows]
  simp only
  rw [List.filter_map]
  rfl
open Classical in
theorem grpC_eq (L k : Nat) (g : List Nat) (P : List SRow) (key : List V) : grpC L k g P key = (P.filter fun p => sameR (keyR g p.2) key).map fun p => p.1 * L + (k + 1) := by
  unfold grpC
  congr 1
  refine List.filter_congr fun p _ => ?_
  rw [Bool.eq_iff_iff, decide_eq_true_eq, sameR_iff]
theorem grp_nil {v : StV} {D : Nat → List (List V × Nat)} {N : Nat} {P0 : List SRow} {F0 : List Nat} (ho : StOk v D N P0 F0) {k : Nat} {g : List Nat} (hg : v.gs[k]? = some g) {key : List V} (h : key ∉ (D k).map (·.1)) : (v.P.filter fun p => sameR (keyR g p.2) key) = [] := by
  refine List.filter_eq_nil_iff.2 fun p hp he => h ?_
  exact ((ho.lan.lane k g hg).mem key).2 ⟨p, hp, sameR_iff.1 he⟩
theorem num_lt {w : World} {lab : Lab} {v : StV} {D : Nat → List (List V × Nat)} {N : Nat} {P0 : List SRow} {F0 : List Nat} (h : StM w lab v) (ho : StOk v D N P0 F0) {k n : Nat} {key : List V} (hk : k < v.gs.length) (hd : (key, n) ∈ D k) : n < v.most * v.L + 1 := by
  have hli := ho.lan.lists k _ hk hd
  have h2 := thg_lt hli.2.1
  have h3 := (h.part 5).ok.len
  dsimp only at h2
  omega
set_option maxRecDepth 100000 in
theorem group_bad {w : World} {B : Nat → Prop} {x : Nat} {S : SAbs} {N : Nat} (h : StI w B x S N) {k : Int} (hk : k < 0 ∨ (S.gs.length : Int) ≤ k) (A : Option Addr) (n c : Nat) :
    Calls Try.prog 81 #[.pointer (some ⟨x, 0, none⟩), .int .i64 k, .slice A n c] w fun e w' => e = .returned (.tuple #[.slice none 0 0, .int .i64 63]) ∧ w' = w := by
  obtain ⟨lab, v, D, P0, F0, h1, h2, h3, h4⟩ := h
  have HN := hide (no_group_out h1 (k := k) (by rw [← h3.gs]; exact hk))
  rw [h3.x] at HN
  clear h1 h2 h3 h4 hk
  go_enter Try.func81, Try.ntmps81
  go_wp2_with ((with_reducible refine HN.out.mono ?_); rintro e w2 ⟨rfl, rfl⟩)
  go_ret2
  exact ⟨rfl, rfl⟩
set_option maxRecDepth 100000 in
theorem group_stA {w : World} {B : Nat → Prop} {x : Nat} {S : SAbs} {N : Nat} (h : StI w B x S N) (hN : N ≤ 8796093022208) {k : Nat} (hk : k < S.gs.length) {r : List V} {A : Option Addr} {n : Nat} (c : Nat) (ha : ArgR w A n r) :
    Calls Try.prog 81 #[.pointer (some ⟨x, 0, none⟩), .int .i64 k, .slice A n c] w fun e w' => ∃ A' c', e = .returned (.tuple #[.slice A' (grpS S k r).length c', .int .i64 0]) ∧ ∃ M, MineA M w' A' (grpS S k r).length c' (grpS S k r) ∧ StSM w B x S (N + 1) w' M := by
  obtain ⟨lab, v, D, P0, F0, h1, h2, h3, h4⟩ := h
  have hk' : k < v.gs.length := by rw [← h3.gs]; exact hk
  obtain ⟨g, hg⟩ : ∃ g, v.gs[k]? = some g := ⟨_, List.getElem?_eq_getElem hk'⟩
  have HN := hide (no_group_in h1 hk')
  have HL := hide (list_st h1 h4 hN hg c ha)
  have hT := h4.tick 1 1 (by omega) (Nat.le_refl _)
  have hge := grpS_eq h3 hg r
  have hgn := fun h => grp_nil (key := r) h4 hg h
  have hgel : (v.P.filter fun p => sameR (keyR g p.2) r).length = (grpS S k r).length := by rw [hge, List.length_map]
  have HRO := hide (fun (w2 : World) (lab2 : Lab) (m2 : StM w2 lab2 (v.tick 1)) (o : Option Nat) (hd : ListSays v D k r o) =>
    show Calls Try.prog 26 #[.pointer (some ⟨x, 0, none⟩), .int .i64 (oi o)] w2 (fun e w' => ∃ A' c', e = .returned (.slice A' (grpS S k r).length c') ∧ ∃ M, MineA M w' A' (grpS S k r).length c' (grpS S k r) ∧ StRM w2 lab2 w' (v.tick 1) M) from by
      cases o with
      | none =>
        have h9 := hgn hd
        have h10 : grpS S k r = [] := by rw [hge, h9]; rfl
        have h11 := rows_none m2
        rw [show (v.tick 1).x = v.x from rfl, h3.x] at h11
        refine h11.mono ?_
        rintro e w' ⟨rfl, h12⟩
        rw [h10]
        exact ⟨none, 0, rfl, _, MineA.nil _ _, StRM.none h12⟩
      | some q =>
        have h11 := rows_of m2 hT.row (n := q) (l := k + 1) (num_lt h1 h4 hk' hd) (Q := v.P.filter fun p => sameR (keyR g p.2) r) (by
          have h9 := (h4.lan.lane k g hg).cont _ hd
          rw [grpC_eq] at h9
          exact h9) (fun p hp => (List.mem_filter.1 hp).1) (by show k + 1 < v.gs.length + 1; omega)
        rw [hgel, show (v.tick 1).x = v.x from rfl, h3.x, ← hge] at h11
        exact h11)
  rw [h3.x] at HN HL
  have H2 := hide h2; have H3 := hide h3; have H4 := hide h4
  clear h1 h2 h3 h4 hge ha hT hgel hgn
  go_enter Try.func81, Try.ntmps81
  generalize (grpS S k r).length = gl at *
  go_upto_region 3 with ((with_reducible refine HN.out.mono ?_); rintro e w2 ⟨rfl, rfl⟩)
  go_wp2_with (first
    | ((with_reducible refine HL.out.mono ?_); rintro e w3 ⟨o, h5, rfl, h6⟩; obtain ⟨lab3, m3, st3⟩ := step_of h6; have L3 := hide h5; have M3 := hide m3; have S3 := hide st3; clear h5 h6 m3 st3)
    | ((with_reducible refine (HRO.out w3 lab3 M3.out o L3.out).mono ?_); rintro e w4 ⟨A', c', rfl, M, h5, h6⟩; have V4 := hide h5; have S4 := hide h6; clear h5 h6))
  go_ret2
  exact ⟨A', c', rfl, M, V4.out, StSM.of H2.out (StRM.pre S3.out S4.out) (H3.out.tick 1) (H4.out.tick 1 1 (by omega) (Nat.le_refl _))⟩
theorem group_st {w : World} {B : Nat → Prop} {x : Nat} {S : SAbs} {N : Nat} (h : StI w B x S N) (hN : N ≤ 8796093022208) {k : Nat} (hk : k < S.gs.length) {r : List V} {A : Option Addr} {n : Nat} (c : Nat) (ha : ArgR w A n r) :
    Calls Try.prog 81 #[.pointer (some ⟨x, 0, none⟩), .int .i64 k, .slice A n c] w fun e w' => ∃ A' c', e = .returned (.tuple #[.slice A' (grpS S k r).length c', .int .i64 0]) ∧ ∃ M, MineV M w' A' (grpS S k r).length c' (grpS S k r) ∧ StSM w B x S (N + 1) w' M := by
  refine (group_stA h hN hk c ha).mono ?_
  rintro e w' ⟨A', c', rfl, M, h1, h2⟩
  exact ⟨A', c', rfl, M, h1.mine, h2⟩
end Go.Proofs.Ytahdiiaadjdmcaa

namespace Go.Proofs.Ytahdiiaadjdmcaa
open Go.RowKit

/-- without this row -/
def delR (r : List V) : List (List V) → List (List V)
  | [] => []
  | q :: l => if sameR q r then l else q :: delR r l
theorem delR_at {r : List V} : ∀ {A B : List (List V)}, r ∉ A → delR r (A ++ r :: B) = A ++ B
  | [], B, _ => by simp [delR, sameR_iff.2 (rfl : r = r)]
  | q :: A, B, h => by
    have h1 : sameR q r = false := by
      cases hs : sameR q r with
      | false => rfl
      | true => exact absurd (List.mem_cons.2 (.inl (sameR_iff.1 hs).symm)) h
    rw [List.cons_append, delR, h1, if_neg (by simp), delR_at fun hm => h (List.mem_cons_of_mem _ hm)]
    rfl
/-- a Drop, plain -/
def dropS (S : SAbs) (r : List V) : SAbs × Bool × Int :=
  if fitsR S.width r then if inB S.rows r then ({ S with rows := delR r S.rows }, true, 0) else (S, false, 0) else (S, false, 62)
theorem rows_del {v : StV} (hr : StRow v) {P1 P2 : List SRow} {s : Nat} {r : List V} (hP : v.P = P1 ++ (s, r) :: P2) : delR r (v.P.map (·.2)) = (P1 ++ P2).map (·.2) := by
  have hnd := hr.vals
  rw [hP, List.map_append, List.map_cons] at hnd ⊢
  rw [delR_at, List.map_append]
  rw [List.nodup_append] at hnd
  intro hm
  exact hnd.2.2 r hm r (by simp) rfl
/-- a row went, there is no mark -/
theorem StOk.drop {v v' : StV} {D D' : Nat → List (List V × Nat)} {N G s : Nat} {P0 : List SRow} {F0 : List Nat} {P' : List SRow} (h : StOk v D N P0 F0) (hl : Unlinked (v.tick 1) v' s P') (ha : StAt v' D' G) (hy : G + runs v.U ≤ gN N) (hm : v.marked = false) : StOk v' D' (N + 1) v'.P (fsOf v'.most v'.sl v'.fr) := by
  have hU : v'.U = v.U := hl.kept.U
  have h0 := h.idle hm
  have hK := hl.K
  have hK1 := h.K
  have hk := kBound_add N (Nat.le_refl 1)
  have hg := gN_mono (Nat.le_add_right N 1)
  rw [show (v.tick 1).K = v.K + 1 from rfl] at hK
  refine ⟨ha.row, ha.lan, ha.gen.mono (by rw [hU]; omega), by rw [hU]; have := h.pu; omega, by rw [hU]; omega, by rw [hU, h0.1]; exact Nat.zero_le _, by rw [hU, h0.1]; exact .nil, fun _ => ⟨hU.trans h0.1, hl.kept.un.trans h0.2.1, hl.kept.uA.trans h0.2.2.1, hl.kept.uC.trans h0.2.2.2⟩⟩
theorem SEq.drop {S : SAbs} {x : Nat} {v v' : StV} {P0 : List SRow} {P1 P2 : List SRow} {s : Nat} {r : List V} (h : SEq S x v P0) (hr : StRow v) (hP : v.P = P1 ++ (s, r) :: P2) (hl : Unlinked (v.tick 1) v' s (P1 ++ P2)) (hm : v.marked = false) : SEq { S with rows := delR r S.rows } x v' v'.P := by
  refine ⟨hl.kept.x.trans h.x, h.width.trans hl.kept.width.symm, h.most.trans hl.kept.most.symm, h.gs.trans hl.kept.gs.symm, ?_, hl.kept.marked.trans h.mark, fun o ho => ?_⟩
  · show delR r S.rows = v'.P.map (·.2)
    rw [hl.P, h.rows, rows_del hr hP]
  · have h1 := h.mark
    rw [hm] at h1
    have ho' : S.old = some o := ho
    rw [ho'] at h1
    cases h1
/-- a row went behind the mark -/
theorem StOk.dropM {v v' : StV} {D D' : Nat → List (List V × Nat)} {N G s : Nat} {P0 : List SRow} {F0 : List Nat} {P1 P2 : List SRow} {r : List V} (h : StOk v D N P0 F0) (hP : v.P = P1 ++ (s, r) :: P2) (hl : Unlinked (v.tick 1) v' s (P1 ++ P2)) (ha : StAt v' D' G) (hy : G + runs v.U ≤ gN N) (hm : v.marked = true) (hle : v.P.length ≤ v.most) {A8 : Option Addr} {c8 : Nat} {u : Value} {A : Option Addr} {n c : Nat} {H : Option Addr} {m d : Nat} :
    StOk { v' with uA := A8, uC := c8, un := v'.un ++ [u], U := v'.U ++ [.drop r A n c (aheads v.gs r P2) H m d] } D' (N + 1) P0 F0 := by
  have hU : v'.U = v.U := hl.kept.U
  have hK := hl.K
  have hK1 := h.K
  have hk := kBound_add N (Nat.le_refl 1)
  have hg := gN_mono (Nat.le_add_right N 1)
  have hpu := h.pu
  have hps : runs (v'.U ++ [.drop r A n c (aheads v.gs r P2) H m d]) = runs v.U := by rw [hU, runs_drop _ rfl]
  rw [show (v.tick 1).K = v.K + 1 from rfl] at hK
  have hr := ha.row
  refine ⟨⟨hr.width, hr.most, hr.gsl, hr.gs, hr.rows, hr.slots, hr.vals, hr.alive, hr.lv, hr.refs, hr.ents, hr.gx⟩, ha.lan, ha.gen.mono ?_, ?_, ?_, ?_, ?_, fun hf => ?_⟩
  · show G ≤ gN (N + 1) - runs (v'.U ++ [.drop r A n c (aheads v.gs r P2) H m d])
    rw [hps]; omega
  · show runs (v'.U ++ [.drop r A n c (aheads v.gs r P2) H m d]) ≤ gN (N + 1)
    rw [hps]; omega
  · show v'.K + 64 * (v'.U ++ [Und.drop r A n c (aheads v.gs r P2) H m d]).length ≤ kBound (N + 1)
    rw [List.length_append, List.length_singleton, hU]; omega
  · show (v'.U ++ [Und.drop r A n c (aheads v.gs r P2) H m d]).length ≤ N + 1
    rw [List.length_append, List.length_singleton, hU]
    have := h.ul; omega
  · show Hist (RowsOk v'.width v'.most) v'.gs P0 F0 (v'.U ++ [.drop r A n c (aheads v.gs r P2) H m d]) v'.P (fsOf v'.most v'.sl v'.fr)
    rw [hl.P, hl.fs, hU, show v'.gs = v.gs from hl.kept.gs, show v'.width = v.width from hl.kept.width, show RowsOk v.width v'.most = RowsOk v.width v.most by rw [show v'.most = v.most from hl.kept.most]]
    refine .drop (by rw [← hP]; exact ⟨h.row.rows, h.row.vals, hle⟩) ?_
    have h2 := h.hist
    rw [hP] at h2
    exact h2
  · have h1 : v'.marked = false := hf
    rw [show v'.marked = v.marked from hl.kept.marked, hm] at h1
    cases h1
theorem SEq.dropM {S : SAbs} {x : Nat} {v v' : StV} {P0 : List SRow} {P1 P2 : List SRow} {s : Nat} {r : List V} (h : SEq S x v P0) (hr : StRow v) (hP : v.P = P1 ++ (s, r) :: P2) (hl : Unlinked (v.tick 1) v' s (P1 ++ P2)) {A8 : Option Addr} {c8 : Nat} {un : List Value} {U : List Und} :
    SEq { S with rows := delR r S.rows } x { v' with uA := A8, uC := c8, un := un, U := U } P0 := by
  refine ⟨hl.kept.x.trans h.x, h.width.trans hl.kept.width.symm, h.most.trans hl.kept.most.symm, h.gs.trans hl.kept.gs.symm, ?_, hl.kept.marked.trans h.mark, fun o ho => h.old o ho⟩
  show delR r S.rows = v'.P.map (·.2)
  rw [hl.P, h.rows, rows_del hr hP]
theorem StAt.tick {v : StV} {D : Nat → List (List V × Nat)} {N : Nat} (h : StAt v D N) (k : Nat) : StAt (v.tick k) D N :=
  have hr := h.row
  ⟨⟨hr.width, hr.most, hr.gsl, hr.gs, hr.rows, hr.slots, hr.vals, hr.alive, hr.lv, hr.refs, hr.ents, hr.gx⟩, h.lan, h.gen⟩
theorem cl_ok' {u : Nat} (h : u ≤ 8796093022208) : u + 1 ≤ maxLen ∧ (u + 1) * 8 ≤ 140737488355328 := by unfold maxLen; omega
/-- what a Drop leaves of the parts -/
def DropSays (w : World) (lab : Lab) (v : StV) (M : Nat) (r : List V) (e : Ending) (w' : World) : Prop :=
  (fitsR v.width r = false ∧ e = .returned (.tuple #[.bool false, .int .i64 62]) ∧ StR w lab w' (v.tick 1)) ∨
  (fitsR v.width r = true ∧ r ∉ v.P.map (·.2) ∧ e = .returned (.tuple #[.bool false, .int .i64 0]) ∧ StR w lab w' (v.tick 1)) ∨
  (fitsR v.width r = true ∧ ∃ (P1 P2 : List SRow) (s : Nat) (v' : StV) (D' : Nat → List (List V × Nat)), v.P = P1 ++ (s, r) :: P2 ∧ Unlinked (v.tick 1) v' s (P1 ++ P2) ∧ StAt v' D' M ∧ e = .returned (.tuple #[.bool true, .int .i64 0]) ∧
    ((v.marked = false ∧ StR w lab w' v') ∨ (v.marked = true ∧ ∃ (A8 : Option Addr) (c8 : Nat) (u : Value) (A : Option Addr) (n c : Nat) (H : Option Addr) (m d : Nat), StR w lab w' { v' with uA := A8, uC := c8, un := v'.un ++ [u], U := v'.U ++ [.drop r A n c (aheads v.gs r P2) H m d] })))
/-- a store in the blocks B in which a row of Drops has begun -/
def StD (w : World) (B : Nat → Prop) (x : Nat) (S : SAbs) (N : Nat) : Prop :=
  ∃ lab v D P0 F0 G, StM w lab v ∧ (∀ b, lab.dom b → B b) ∧ SEq S x v P0 ∧ StOk v D N P0 F0 ∧ (∀ i, genA v.sl i < G) ∧ (∀ i, genA v.sL i < G) ∧ G + runs v.U ≤ gN N
def StDS (w : World) (B : Nat → Prop) (x : Nat) (S : SAbs) (N : Nat) (w' : World) : Prop :=
  ∃ B', StD w' B' x S N ∧ (∀ b, B' b → B b ∨ w.heap.size ≤ b) ∧ (∀ b, B' b → b < w'.heap.size) ∧ Chg B w w'
theorem StD.sti {w : World} {B : Nat → Prop} {x : Nat} {S : SAbs} {N : Nat} (h : StD w B x S N) : StI w B x S N := by
  obtain ⟨lab, v, D, P0, F0, G, h1, h2, h3, h4, h5⟩ := h
  exact ⟨lab, v, D, P0, F0, h1, h2, h3, h4⟩
theorem StDS.sts {w w' : World} {B : Nat → Prop} {x : Nat} {S : SAbs} {N : Nat} (h : StDS w B x S N w') : StS w B x S N w' := by
  obtain ⟨B', h1, h2⟩ := h
  exact ⟨B', h1.sti, h2⟩
theorem StDS.of {w w' : World} {B : Nat → Prop} {x : Nat} {S : SAbs} {N G : Nat} {lab : Lab} {v' : StV} {D : Nat → List (List V × Nat)} {P0 : List SRow} {F0 : List Nat} (hB : ∀ b, lab.dom b → B b) (h : StR w lab w' v') (he : SEq S x v' P0) (ho : StOk v' D N P0 F0) (hy : (∀ i, genA v'.sl i < G) ∧ (∀ i, genA v'.sL i < G) ∧ G + runs v'.U ≤ gN N) : StDS w B x S N w' := by
  obtain ⟨lab', h1, h2, h3⟩ := h
  exact ⟨lab'.dom, ⟨lab', v', D, P0, F0, G, h1, fun b hb => hb, he, ho, hy⟩, fun b hb => (h2 b hb).imp (hB b) id, fun b ⟨i, hi⟩ => h1.lt b i hi, h3.mono fun g hg _ => hB g hg⟩
theorem StD.ext {w w' : World} {B : Nat → Prop} {x : Nat} {S : SAbs} {N : Nat} (h : StD w B x S N) (hw : Ext w w') : StD w' B x S N := by
  obtain ⟨lab, v, D, P0, F0, Y, h1, h2⟩ := h
  exact ⟨lab, v, D, P0, F0, Y, h1.ext hw, h2⟩
theorem StD.chg {w w' : World} {B C : Nat → Prop} {x : Nat} {S : SAbs} {N : Nat} (h : StD w B x S N) (hw : Chg C w w') (hC : ∀ g, B g → ¬ C g) : StD w' B x S N := by
  obtain ⟨lab, v, D, P0, F0, Y, h1, h2, h3⟩ := h
  exact ⟨lab, v, D, P0, F0, Y, h1.chg hw fun g hg => hC g (h2 g hg), h2, h3⟩
/-- a row of Drops begins -/
theorem StI.std {w : World} {B : Nat → Prop} {x : Nat} {S : SAbs} {N : Nat} (h : StI w B x S N) : StD w B x S (N + 262144) := by
  obtain ⟨lab, v, D, P0, F0, h1, h2, h3, h4⟩ := h
  have h5 := h4.tick 0 262144 (by omega) (by omega)
  refine ⟨lab, v.tick 0, D, P0, F0, gN N - runs v.U + 1, h1.tick 0, h2, ?_, h5, fun i => ?_, fun i => ?_, ?_⟩
  · exact ⟨h3.x, h3.width, h3.most, h3.gs, h3.rows, h3.mark, h3.old⟩
  · show genA v.sl i < _
    have := h4.gen.s i; omega
  · show genA v.sL i < _
    have := h4.gen.L i; omega
  · show gN N - runs v.U + 1 + runs v.U ≤ gN (N + 262144)
    have h6 := gN_add N (Nat.le_refl 262144)
    have h7 := h4.pu
    omega
end Go.Proofs.Ytahdiiaadjdmcaa
