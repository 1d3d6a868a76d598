/-
  naive.Witness: the rows of the first valuation that gives the answer.
-/
import Derived.Test.YtpfjkjmimmklcaaNaiWitD
import Derived.Test.YtpfjkjmimmklcaaNaiWitP
import Derived.Test.YtpfjkjmimmklcaaNaiO
import Derived.Test.YtpfjkjmimmklcaaNaiNV
import Derived.Test.YtpfjkjmimmklcaaShapeW
import Derived.Test.YtpfjkjmimmklcaaCmpG
import Derived.Test.YtpfjkjmimmklcaaArrG
import Derived.OwnWalkIn
import Derived.Deep.RegionLaw
import Derived.Deep.RegionHeld3
import Derived.TacticsInMore
import Derived.Maps.AppendAt
import Derived.RangeFuncBox
import Derived.Test.YtpfjkjmimmklcaaExtIn
import Derived.Test.YtpfjkjmimmklcaaRowsG
import Derived.LoopIn
import Derived.RangeFuncCalls
namespace Go.Proofs.Ytpfjkjmimmklcaa
open Go.RowKit
attribute [local go_sem] Oper.semAt_some

/-- between two rounds of a search: the record, the mark, the results as they began -/
structure JW (ga gt ge l D0 : Nat) (r : Loop) (W : World) : Prop where
  lp : W.heap[l]? = some (.loop r)
  mark : W.heap[D0]? = some (.deferred (some []))
  ra : Blk W ga 27 #[.slice none 0 0]
  rt : Blk W gt 4 #[.bool false]
  re : Blk W ge 28 #[.int .i64 0]
theorem JW.fr {S : Nat → Prop} {ga gt ge l D0 : Nat} {r : Loop} {w w' : World} (h : JW ga gt ge l D0 r w) (hF : Fr S w w') (h1 : ¬ S l) (h2 : ¬ S D0) (h3 : ¬ S ga) (h4 : ¬ S gt) (h5 : ¬ S ge) : JW ga gt ge l D0 r w' :=
  ⟨(hF.block l (Array.getElem?_eq_some_iff.1 h.lp).1 h1).trans h.lp, (hF.block D0 (Array.getElem?_eq_some_iff.1 h.mark).1 h2).trans h.mark, h.ra.fr hF h3, h.rt.fr hF h4, h.re.fr hF h5⟩
/-- a round has found it: the rows, the marks of the results, the record is done -/
structure JX (ga gt ge l D0 b : Nat) (r : Loop) (pre : List Leaf) (W : World) : Prop where
  lp : W.heap[l]? = some (.loop { r with state := .done, pending := some .ret })
  mark : W.heap[D0]? = some (.deferred (some []))
  out : ∃ (x : Leaf) (A : Option Addr) (c : Nat), pre.getLast? = some x ∧ Blk W ga 27 #[.slice A x.2.length c] ∧ MineV b W A x.2.length c x.2
  rt : Blk W gt 4 #[.bool true]
  re : Blk W ge 28 #[.int .i64 0]
theorem JX.fr {S : Nat → Prop} {ga gt ge l D0 b : Nat} {r : Loop} {pre : List Leaf} {w w' : World} (h : JX ga gt ge l D0 b r pre w) (hF : Fr S w w') (h1 : ¬ S l) (h2 : ¬ S D0) (h3 : ¬ S ga) (h4 : ¬ S gt) (h5 : ¬ S ge) (hS : ∀ g, S g → g < b) : JX ga gt ge l D0 b r pre w' := by
  obtain ⟨x, A, c, e1, e2, e3⟩ := h.out
  exact ⟨(hF.block l (Array.getElem?_eq_some_iff.1 h.lp).1 h1).trans h.lp, (hF.block D0 (Array.getElem?_eq_some_iff.1 h.mark).1 h2).trans h.mark, ⟨x, A, c, e1, e2.fr hF h3, e3.fr hF hS⟩, h.rt.fr hF h4, h.re.fr hF h5⟩

theorem blk_one {w : World} {g : Nat} {t : TypeId} {u : Value} (h : Blk w g t #[u]) : ∀ (j : Nat) (v : Value), [u][j]? = some v → w.cell? ((⟨g, 0, none⟩ : Addr).add j) = some v := fun j v hj => by
  cases j with
  | zero =>
    simp only [List.getElem?_cons_zero, Option.some.injEq] at hj
    subst hj
    have := h.cell 0
    simpa [Addr.add] using this
  | succ j => simp at hj
theorem Tried.fq {D : WLoc} {S T : Nat → Prop} {W0 w w' : World} {k base : Nat} {rows : List (List V)} (h : Tried D S W0 k rows w) (hF : Fq T base w w') (h1 : ¬ T D.gt) (h2 : D.gt < base) : Tried D S W0 k rows w' := by
  obtain ⟨ts, h3, h4⟩ := h
  exact ⟨ts, h3.fq hF h1 (.inl h2), h4⟩
/-- within the round that has found it: so many of the rows are copied -/
structure JL (ga gt ge l D0 b : Nat) (S : Nat → Prop) (bz : Loop) (rows : List (List V)) (i : Nat) (wz W : World) : Prop where
  lp : W.heap[l]? = some (.loop bz)
  mark : W.heap[D0]? = some (.deferred (some []))
  out : ∃ A c, Blk W ga 27 #[.slice A i c] ∧ MineV b W A i c (rows.take i)
  rt : Blk W gt 4 #[.bool false]
  re : Blk W ge 28 #[.int .i64 0]
  fq : Fq S b wz W
theorem JL.ext {ga gt ge l D0 b : Nat} {S : Nat → Prop} {bz : Loop} {rows : List (List V)} {i : Nat} {wz w w' : World} (h : JL ga gt ge l D0 b S bz rows i wz w) (hE : Ext w w') : JL ga gt ge l D0 b S bz rows i wz w' := by
  obtain ⟨A, c, h1, h2⟩ := h.out
  exact ⟨(hE.block (Array.getElem?_eq_some_iff.1 h.lp).1).trans h.lp, (hE.block (Array.getElem?_eq_some_iff.1 h.mark).1).trans h.mark, ⟨A, c, h1.ext hE, h2.fr (S := fun _ => False) (Fr.of_ext hE) (fun _ h => h.elim)⟩, h.rt.ext hE, h.re.ext hE, h.fq.trans (Fq.of_ext hE)⟩
/-- one row more is copied -/
theorem jl_push {ga gt ge l D0 b : Nat} {S : Nat → Prop} {bz : Loop} {rows : List (List V)} {i : Nat} {wz w w8 : World} {A' : Option Addr} {c' g8 cap8 : Nat} {Ay : Option Addr} {n9 cy : Nat} {cellsA : List Value} {r : List V}
    (h : JL ga gt ge l D0 b S bz rows i wz w) (hlb : l < b) (hDb : D0 < b) (htb : gt < b) (heb : ge < b) (n1 : ga ≠ l) (n2 : ga ≠ D0) (n3 : ga ≠ gt) (n4 : ga ≠ ge) (hS : S ga)
    (h3 : Blk w ga 27 #[.slice A' i c']) (h4 : w.ownsRow b 35 1 (.slice A' i c') i cellsA) (h5 : Els (RMine b) 1 w cellsA (rows.take i)) (h6 : w.ownsRow b 58 3 (.slice Ay n9 cy) n9 (cellsR r)) (hr : rows[i]? = some r)
    (hg : w.grownBy w8 (Value.slice A' i c').ownBlock) (h8 : w8.ownsRow b 35 1 (.slice (some ⟨g8, 0, none⟩) (i + 1) cap8) (i + 1) (cellsA ++ [.slice Ay n9 cy])) :
    JL ga gt ge l D0 b S bz rows (i + 1) wz (w8.setCell ⟨ga, 0, none⟩ (.slice (some ⟨g8, 0, none⟩) (i + 1) cap8)) := by
  have keep : ∀ (k : Nat) (o : Obj), k < b → k ≠ ga → w.heap[k]? = some o → (w8.setCell ⟨ga, 0, none⟩ (.slice (some ⟨g8, 0, none⟩) (i + 1) cap8)).heap[k]? = some o := fun k o hk hkg hko => by
    have hlt := (Array.getElem?_eq_some_iff.1 hko).1
    refine (Below.heap_setCell w8 ⟨ga, 0, none⟩ _ k (fun e => hkg e)).trans ?_
    refine (hg.block k hlt fun e => ?_).trans hko
    have := (h4.lt k e.symm).1
    omega
  have V8 := h3.grown hg (own_ne_blk h4 h3 (by decide))
  have e : rows.take (i + 1) = rows.take i ++ [r] := by rw [List.take_add_one, hr]; rfl
  have hlen : i < rows.length := (List.getElem?_eq_some_iff.1 hr).1
  refine ⟨keep l _ hlb (Ne.symm n1) h.lp, keep D0 _ hDb (Ne.symm n2) h.mark, ⟨some ⟨g8, 0, none⟩, cap8, V8.set_ 0 _, cellsA ++ [.slice Ay n9 cy], by rw [List.length_take]; omega, mine_set h8 V8 (by decide) 0 _, ?_⟩, keep gt _ htb (Ne.symm n3) h.rt, keep ge _ heb (Ne.symm n4) h.re, ?_⟩
  · have key : ∀ (cs : List Value) (rw_ : List V), RMine b w cs rw_ → RMine b (w8.setCell ⟨ga, 0, none⟩ (.slice (some ⟨g8, 0, none⟩) (i + 1) cap8)) cs rw_ := fun cs rw_ hx => (hx.other h4 (by decide) hg).set_ V8 (by decide) 0 _
    rw [e]
    exact (h5.mono key).append (Els.single rfl (fun v hv => by obtain rfl := List.mem_singleton.1 hv; rfl) (key _ _ ⟨Ay, n9, cy, rfl, h6⟩))
  · exact (h.fq.trans (Fq.of_grown h4 hg)).trans (Fq.of_fr ((Fr.refl S w8).setCell (p := ⟨ga, 0, none⟩) (.inl hS) _))

set_option maxRecDepth 100000 in
set_option maxHeartbeats 4000000 in
theorem witness_any (q : Qy) (L : QLoc) (data : List Tbl) (B : Option Addr) (m c : Nat) (ans : List V) (C : Option Addr) (kc dc : Nat) (w : World) (hq : QAt w L q) (hM : smallM 1048576 q) (hb : LAt RB 2 w B m data) (hm : m ≤ 1048576) (hsum : (data.flatMap Tbl.rows).length ≤ 1099511627776)
    (hrow : ∀ t ∈ data, ∀ r ∈ t.rows, r.length ≤ 1048576) (hr : RowAt w C kc ans) (hkc : kc ≤ 1048576) :
    Calls Try.prog 30 #[qval q.name L, .slice B m c, .slice C kc dc] w (RetWi w (witP q data ans)) := by
  obtain ⟨nm, hd, as_⟩ := q
  obtain ⟨A, n, cA, AB, k, d⟩ := L
  simp only [qval]
  have hmf : ∀ (fn : Fn) (first cap : Array Value) (w : World), (Instr.makeFunc fn first cap).run Try.prog w = .ok (.func fn first cap) w := fun _ _ _ _ => rfl
  have HQ := hide hq; have HM := hide hM; have HB := hide hb; have HSUM := hide hsum; have HROW := hide hrow; have HRA := hide hr
  have HS := hide (fun w1 (h1 : Ext w w1) => query_shape ⟨nm, hd, as_⟩ ⟨A, n, cA, AB, k, d⟩ w1 (hq.ext h1) hM)
  simp only [qval] at HS
  clear hq hM hb hsum hrow hr
  refine (callsIn_wide (n := 4)).1 ?_
  refine callsIn_of_wp_marks Try.func30 rfl trivial ?_ rfl
  refine wpIn_wide.2 ?_
  simp only [Try.ntmps30, List.size_toArray, List.length_cons, List.length_nil, Nat.reduceAdd, Nat.reduceSub, Array.replicate_succ, Array.replicate_zero, List.push_toArray, List.append_toArray, List.nil_append, List.cons_append]
  go_upto_region 1 with fail
  have e0 := World.size_alloc w (.cells #[.string nm, .slice A n cA, .slice AB k d] 25)
  have x0 := Ext.alloc w (.cells #[.string nm, .slice A n cA, .slice AB k d] 25)
  have p0 := Blk.new w 25 #[.string nm, .slice A n cA, .slice AB k d]
  generalize w.alloc (.cells #[.string nm, .slice A n cA, .slice AB k d] 25) = v0 at *
  have e9 := World.size_alloc v0 (.cells #[.slice C kc dc] 35)
  have x9 := Ext.alloc v0 (.cells #[.slice C kc dc] 35)
  have p9 := Blk.new v0 35 #[.slice C kc dc]
  generalize v0.alloc (.cells #[.slice C kc dc] 35) = v9 at *
  have e1 := World.size_alloc v9 (.cells #[.slice none 0 0] 27)
  have x1 := Ext.alloc v9 (.cells #[.slice none 0 0] 27)
  have p1 := Blk.new v9 27 #[.slice none 0 0]
  generalize v9.alloc (.cells #[.slice none 0 0] 27) = v1 at *
  have e2 := World.size_alloc v1 (.cells #[.bool false] 4)
  have x2 := Ext.alloc v1 (.cells #[.bool false] 4)
  have p2 := Blk.new v1 4 #[.bool false]
  generalize v1.alloc (.cells #[.bool false] 4) = v2 at *
  have e3 := World.size_alloc v2 (.cells #[.int .i64 0] 28)
  have x3 := Ext.alloc v2 (.cells #[.int .i64 0] 28)
  have p3 := Blk.new v2 28 #[.int .i64 0]
  generalize v2.alloc (.cells #[.int .i64 0] 28) = v3 at *
  rw [e0] at e9 p9; rw [e9] at e1 p1; rw [e1] at e2 p2; rw [e2] at p3
  have HX3 := hide ((((x0.trans x9).trans x1).trans x2).trans x3)
  have HP0 := hide ((((p0.ext x9).ext x1).ext x2).ext x3)
  have HP9 := hide (((p9.ext x1).ext x2).ext x3)
  have HP1 := hide ((p1.ext x2).ext x3)
  have HP2 := hide (p2.ext x3)
  have HP3 := hide p3
  clear e0 e1 e2 e3 e9 x0 x1 x2 x3 x9 p0 p1 p2 p3 p9
  have hg5 : w.heap.size ≤ w.heap.size + 1 := by omega
  have hga : w.heap.size ≤ w.heap.size + 1 + 1 := by omega
  have hgt : w.heap.size ≤ w.heap.size + 1 + 1 + 1 := by omega
  have hge : w.heap.size ≤ w.heap.size + 1 + 1 + 1 + 1 := by omega
  have n1 : w.heap.size + 1 + 1 ≠ w.heap.size + 1 + 1 + 1 := by omega
  have n2 : w.heap.size + 1 + 1 ≠ w.heap.size + 1 + 1 + 1 + 1 := by omega
  have n3 : w.heap.size + 1 + 1 + 1 ≠ w.heap.size + 1 + 1 + 1 + 1 := by omega
  have n5 : w.heap.size + 1 ≠ w.heap.size + 1 + 1 ∧ w.heap.size + 1 ≠ w.heap.size + 1 + 1 + 1 ∧ w.heap.size + 1 ≠ w.heap.size + 1 + 1 + 1 + 1 := by omega
  have N123 := hide (And.intro hg5 (And.intro hga (And.intro hgt (And.intro hge (And.intro n1 (And.intro n2 (And.intro n3 n5)))))))
  clear hg5 hga hgt hge n1 n2 n3 n5
  generalize w.heap.size + 1 + 1 + 1 + 1 = ge at *
  generalize w.heap.size + 1 + 1 + 1 = gt at *
  generalize w.heap.size + 1 + 1 = ga at *
  generalize w.heap.size + 1 = g5 at *
  have HS3 := hide (HS.out v3 HX3.out)
  have b0 := HP0.out.cell 0
  have b1 := HP0.out.cell 1
  have b2 := HP0.out.cell 2
  generalize hgq' : w.heap.size = gq at *
  have HGQ := hide hgq'; clear hgq'
  generalize hsq : shapeQ ⟨nm, hd, as_⟩ = sq at *
  by_cases h0 : sq = 0
  · subst h0
    have HSH := hide (shapeQ_iff.1 hsq)
    have HWP := hide (show witP ⟨nm, hd, as_⟩ data ans = if (witV ⟨nm, hd, as_⟩ data ans).1 ≤ 131072 then (if (witV ⟨nm, hd, as_⟩ data ans).2.2 then (((witV ⟨nm, hd, as_⟩ data ans).2.1.getLast?.map (·.2)).getD [], true, 0) else ([], false, 0)) else ([], false, 120) from by unfold witP; rw [if_pos hsq])
    have HSQ := hide hsq; clear hsq
    generalize witP ⟨nm, hd, as_⟩ data ans = wp at *
    have HNW := hide (fun w4 (h4 : Ext w w4) => new_walk ⟨nm, hd, as_⟩ ⟨A, n, cA, AB, k, d⟩ data B m c w w4 h4 HQ.out HM.out HSH.out HB.out hm HSUM.out)
    simp only [qval] at HNW
    go_wp2_with (first
      | ((with_reducible refine HS3.out.mono ?_); clear HS3; rintro e w4 ⟨rfl, x4⟩; have X4 := hide (HX3.out.trans x4); have HP4 := hide (HP0.out.ext x4); have c0 := HP4.out.cell 0; have c1 := HP4.out.cell 1; have c2 := HP4.out.cell 2; have X34 := hide x4; clear x4)
      | ((with_reducible refine (HNW.out _ X4.out).mono ?_); rintro e w5 ⟨D, base, rfl, hDL, hDn, hNB, hbase, hS4, x5⟩; have HS4 := hide hS4; clear hS4; have HDL := hide hDL; have HDN := hide hDn; have HNB := hide hNB; have HBA := hide hbase; have X5 := hide x5; clear hDL hDn hNB hbase x5)
      | ((with_reducible refine (all_any _ _).mono ?_); rintro e w6 ⟨rfl, h6⟩))
    have hx6 := hide (Ext.alloc w5 (.cells #[.pointer (some ⟨D.gw, 0, none⟩)] 106))
    have HBX := hide (Blk.new w5 106 #[.pointer (some ⟨D.gw, 0, none⟩)])
    clear b0 b1 b2 c0 c1 c2 HNW HS
    generalize w5.alloc (.cells #[.pointer (some ⟨D.gw, 0, none⟩)] 106) = w6 at *
    generalize hgb : w5.heap.size = gb at *
    have HGB := hide hgb; clear hgb
    refine (wpIn_wide (n := 4)).1 ?_
    refine wp_range (gf := 88) (lb := #[.pointer (some ⟨gb, 0, none⟩)]) rfl (enters_of Try.func88 (by kernel_rfl) rfl) ?_
    intro fn
    generalize hrec : recOf fn _ _ _ _ w6.heap.size = rec
    have HREC := hide hrec; clear hrec
    obtain ⟨r1, r2, r3, r4⟩ := rec_laid w6 rec
    generalize (w6.alloc (.deferred (some []))).alloc (.loop rec) = W0 at *
    have R4 := hide r4
    have HWV : Hid (witV ⟨nm, hd, as_⟩ data ans = visit (fun x => sameR (headV (hd.map (atN (varsQ ⟨nm, hd, as_⟩))) x.1) ans) (lvsFrom (varsQ ⟨nm, hd, as_⟩) data as_) [] []) := rfl
    generalize hvq : varsQ ⟨nm, hd, as_⟩ = vq at *
    have HVQ := hide hvq; clear hvq
    have hlt := HNB.out.wst.lt
    have s5 := X5.out.size
    have s6 := hx6.out.size
    have sa := HP1.out.lt
    have st_ := HP2.out.lt
    have se := HP3.out.lt
    have s34 := X34.out.size
    have hD4 : ∀ g, D.S4 g → w4.heap.size ≤ g ∧ g < w5.heap.size := fun g hg => ⟨HS4.out g hg, by rcases hg with rfl | rfl | rfl | rfl <;> omega⟩
    have hl9 : ∀ g, D.S4 g ∨ (g = w6.heap.size + 1 ∨ g = ga ∨ g = gt ∨ g = ge) → g < W0.heap.size := fun g hg => by
      rcases hg with hg | rfl | rfl | rfl | rfl
      · have := (hD4 g hg).2; omega
      · omega
      · omega
      · omega
      · omega
    have haw : ∀ g, D.S4 g → g ≠ w6.heap.size + 1 ∧ g ≠ w6.heap.size ∧ g ≠ ga ∧ g ≠ gt ∧ g ≠ ge := fun g hg => by have := hD4 g hg; omega
    have hlen : (lvsFrom vq data as_).length = as_.length := by simp [lvsFrom]
    have hNB := HNB.out
    rw [← hlen] at hNB
    have hqa := HQ.out.atoms
    have hat : LAt RA 2 w D.L.B D.L.m ((lvsFrom vq data as_).map Lv.a) := by
      have e : (lvsFrom vq data as_).map Lv.a = as_ := by simp [lvsFrom, Function.comp_def]
      rw [e, HDL.out]; exact hqa
    have hgqw := HGQ.out
    obtain ⟨hg5, hga, hgt, hge, n1, n2, n3, n5⟩ := N123.out
    have hwf := hide (NC.wfix (S := fun g => D.S4 g ∨ (g = w6.heap.size + 1 ∨ g = ga ∨ g = gt ∨ g = ge)) hNB (X4.out.trans X5.out) (hx6.out.trans r3) hat
      (fun g hg => by
        rcases hg with hg | rfl | rfl | rfl | rfl
        · exact .inl (HNB.out.low g hg).2
        · right; omega
        · left; have := HBA.out; omega
        · left; have := HBA.out; omega
        · left; have := HBA.out; omega)
      (fun g hg => by
        have := X4.out.size
        rcases hg with hg | rfl | rfl | rfl | rfl
        · have := (hD4 g hg).1; omega
        · omega
        · omega
        · omega
        · omega))
    have HD4 := hide hD4; have HL9 := hide hl9; have HAW := hide haw
    have hok := lvs_ok HSH.out HSUM.out HROW.out
    have hfit := fit_query ⟨nm, hd, as_⟩ data
    have hhN := head_lt HSH.out
    have hN60 := vars_sixty HSH.out
    have hh30 := head_len HSH.out
    have h66 := HSH.out.six
    simp only [HVQ.out] at hok hfit hhN hN60
    simp only at hh30 h66
    have HOK := hide hok; have HFIT := hide hfit; have HHN := hide hhN
    have hbx := hide (HBX.out.ext r3)
    have hst0 := hide (hNB.wst.ext (hx6.out.trans r3))
    have HLEN := hide hlen
    have hE0 := hide ((X34.out.trans X5.out).trans (hx6.out.trans r3))
    have hj0 := hide (show JW ga gt ge (w6.heap.size + 1) w6.heap.size rec W0 from ⟨r1, r2, HP1.out.ext hE0.out, HP2.out.ext hE0.out, HP3.out.ext hE0.out⟩)
    have HG5 := hide (HP9.out.ext hE0.out)
    have HRA0 := hide (HRA.out.ext (HX3.out.trans hE0.out))
    clear hok hfit hhN hNB hat hqa hD4 hl9 haw hlt r4 hlen
    have hY : Yields D (fun g => g = w6.heap.size + 1 ∨ g = ga ∨ g = gt ∨ g = ge) W0 W0.heap.size (lvsFrom vq data as_).length (hd.map (atN vq)) (w6.heap.size + 1) (fun x => sameR (headV (hd.map (atN vq)) x.1) ans)
        (fun _ => JW ga gt ge (w6.heap.size + 1) w6.heap.size rec) (JX ga gt ge (w6.heap.size + 1) w6.heap.size W0.heap.size rec) := by
      refine ⟨fun pre w1 w2 hj hF => hj.fr hF (fun h => (HAW.out _ h).1 rfl) (fun h => (HAW.out _ h).2.1 rfl) (fun h => (HAW.out _ h).2.2.1 rfl) (fun h => (HAW.out _ h).2.2.2.1 rfl) (fun h => (HAW.out _ h).2.2.2.2 rfl),
        fun pre w1 w2 hj hF => hj.fr hF (fun h => (HAW.out _ h).1 rfl) (fun h => (HAW.out _ h).2.1 rfl) (fun h => (HAW.out _ h).2.2.1 rfl) (fun h => (HAW.out _ h).2.2.2.1 rfl) (fun h => (HAW.out _ h).2.2.2.2 rfl) (fun g hg => HL9.out g (.inl hg)), ?_⟩
      intro pre x wy Ay cy hp9 hj hF ho ht
      simp only [List.length_map] at ho
      refine range_round hj.lp ?_ ?_ ?_ trivial ?_
      · rw [← HREC.out]; rfl
      · rw [← HREC.out]; rfl
      · rw [← HREC.out]; rfl
      · have HJ := hide hj; have HO := hide ho; have HFy := hide hF; have HTR := hide ht
        clear hj hF ho ht
        have hlp := HJ.out.lp
        have hA := congrArg Loop.assign HREC.out
        have hB := congrArg Loop.body HREC.out
        have hT := congrArg Loop.tmps HREC.out
        have hP := congrArg Loop.params HREC.out
        dsimp only [recOf] at hA hB hT hP
        generalize hbz : ({ rec with state := .busy } : Loop) = bz
        rw [← hA, ← hB, ← hT, ← hP]
        have HBZ := hide hbz
        clear hA hB hT hP hbz
        gi_wp2_with fail
        refine ⟨(Below.heap_alloc _ _ _ (Array.getElem?_eq_some_iff.1 HJ.out.lp).1).trans HJ.out.lp, ?_⟩
        have hsz := (Array.getElem?_eq_some_iff.1 HJ.out.lp).1
        have x1 := hide (Ext.alloc wy (.cells #[.slice Ay hd.length cy, .slice (some ⟨D.gt, 0, none⟩) (lvsFrom vq data as_).length (lvsFrom vq data as_).length] 110))
        have b1 := Blk.new wy 110 #[.slice Ay hd.length cy, .slice (some ⟨D.gt, 0, none⟩) (lvsFrom vq data as_).length (lvsFrom vq data as_).length]
        have R5 : w6.heap.size + 1 < W0.heap.size := by rw [R4.out]; omega
        have b2 := hide (b1.putObj (l := w6.heap.size + 1) (o := .loop bz) (by omega))
        have s9 := HP9.out.lt
        have n59 := n5.1
        have n58 := n5.2.1
        have n57 := n5.2.2
        have q5 := hide (((HG5.out.fr HFy.out (fun e => by
          rcases e with e | e | e | e | e
          · have := (HD4.out _ e).1; omega
          · omega
          · omega
          · omega
          · omega)).ext x1.out).putObj (l := w6.heap.size + 1) (o := .loop bz) (by omega))
        have hSw : ∀ g, D.S4 g ∨ (g = w6.heap.size + 1 ∨ g = ga ∨ g = gt ∨ g = ge) → w.heap.size ≤ g := fun g hg => by
          have := X4.out.size
          rcases hg with hg | hg | hg | hg | hg
          · have := HS4.out g hg; omega
          · omega
          · omega
          · omega
          · omega
        have hexz := hide (show Ext w ((wy.alloc (.cells #[.slice Ay hd.length cy, .slice (some ⟨D.gt, 0, none⟩) (lvsFrom vq data as_).length (lvsFrom vq data as_).length] 110)).putObj (w6.heap.size + 1) (.loop bz)) from
          ((((Fr.of_ext (HX3.out.trans hE0.out)).trans HFy.out).ext x1.out).putObj (l := w6.heap.size + 1) (o := .loop bz) (.inl (.inr (.inl rfl)))).out hSw)
        have HCM := hide (row_cmp (headV (hd.map (atN vq)) x.1) ans Ay C hd.length kc cy dc _ (RowAt.own (own_putObj (l := w6.heap.size + 1) (o := .loop bz) (mine_ext HO.out x1.out) (fun g hg e => by have := (HO.out.lt g hg).1; omega))) (HRA.out.ext hexz.out) (by omega) (by omega))
        have hjz := hide (show JW ga gt ge (w6.heap.size + 1) w6.heap.size bz ((wy.alloc (.cells #[.slice Ay hd.length cy, .slice (some ⟨D.gt, 0, none⟩) (lvsFrom vq data as_).length (lvsFrom vq data as_).length] 110)).putObj (w6.heap.size + 1) (.loop bz)) from
          ⟨World.putObj_heap_same (by rw [World.size_alloc]; omega), (World.putObj_heap_other (by omega)).trans ((Below.heap_alloc _ _ _ (Array.getElem?_eq_some_iff.1 HJ.out.mark).1).trans HJ.out.mark), (HJ.out.ra.ext x1.out).putObj (by omega), (HJ.out.rt.ext x1.out).putObj (by omega), (HJ.out.re.ext x1.out).putObj (by omega)⟩)
        have HXF := hide ((Fq.of_ext (S := fun g => g = w6.heap.size + 1 ∨ g = ga ∨ g = gt ∨ g = ge) (base := W0.heap.size) x1.out).putObj (l := w6.heap.size + 1) (o := .loop bz) (.inl rfl))
        have c1 := b2.out.cell 0
        have c2 := b2.out.cell 1
        have c5 := q5.out.cell 0
        generalize (wy.alloc (.cells #[.slice Ay hd.length cy, .slice (some ⟨D.gt, 0, none⟩) (lvsFrom vq data as_).length (lvsFrom vq data as_).length] 110)).putObj (w6.heap.size + 1) (.loop bz) = wz at *
        cases hsm : sameR (headV (hd.map (atN vq)) x.1) ans with
        | false =>
          have hne : cmpR (headV (hd.map (atN vq)) x.1) ans ≠ 0 := fun e => by
            rw [(isCmp_row.eq _ _).1 e, sameR_iff.2 rfl] at hsm
            cases hsm
          generalize cmpR (headV (hd.map (atN vq)) x.1) ans = cv at *
          have HNE := hide hne
          gi_wp2_with (refine ⟨trivial, rfl, ?_⟩; refine CallsIn.mono (CallsIn.inRound _ (callsIn_wide.2 HCM.out)) ?_; rintro e w9 ⟨rfl, x9⟩; have X9 := hide x9; clear x9)
          have lp9 : w9.heap[w6.heap.size + 1]? = some (.loop bz) := (X9.out.block (Array.getElem?_eq_some_iff.1 hjz.out.lp).1).trans hjz.out.lp
          have mk9 : w9.heap[w6.heap.size]? = some (.deferred (some [])) := (X9.out.block (Array.getElem?_eq_some_iff.1 hjz.out.mark).1).trans hjz.out.mark
          refine ⟨by rw [HBZ.out]; exact lp9, (HXF.out.trans (Fq.of_ext X9.out)).putObj (.inl rfl), rfl, World.putObj_heap_same (Array.getElem?_eq_some_iff.1 lp9).1, (World.putObj_heap_other (by omega)).trans mk9, (hjz.out.ra.ext X9.out).putObj (by omega), (hjz.out.rt.ext X9.out).putObj (by omega), (hjz.out.re.ext X9.out).putObj (by omega)⟩
        | true =>
          have h0 : cmpR (headV (hd.map (atN vq)) x.1) ans = 0 := (isCmp_row.eq _ _).2 (sameR_iff.1 hsm)
          rw [h0] at HCM
          gi_wp2_with (refine ⟨trivial, rfl, ?_⟩; refine CallsIn.mono (CallsIn.inRound _ (callsIn_wide.2 HCM.out)) ?_; rintro e w9 ⟨rfl, x9⟩; have X9 := hide x9; clear x9; have c2 := X9.out.cell c2)
          have HXR := hide (show ∀ r ∈ x.2, r.length ≤ 1048576 from by obtain ⟨ts, _, _, _, h⟩ := HTR.out; exact h.1)
          have HKX := hide (show x.2.length = (lvsFrom vq data as_).length from by obtain ⟨ts, _, _, h, _⟩ := HTR.out; exact h)
          have lp9 : w9.heap[w6.heap.size + 1]? = some (.loop bz) := (X9.out.block (Array.getElem?_eq_some_iff.1 hjz.out.lp).1).trans hjz.out.lp
          have mk9 : w9.heap[w6.heap.size]? = some (.deferred (some [])) := (X9.out.block (Array.getElem?_eq_some_iff.1 hjz.out.mark).1).trans hjz.out.mark
          have HZ9 := hide (show JL ga gt ge (w6.heap.size + 1) w6.heap.size W0.heap.size (fun g => g = w6.heap.size + 1 ∨ g = ga ∨ g = gt ∨ g = ge) bz x.2 0 wz w9 from
            ⟨lp9, mk9, ⟨none, 0, hjz.out.ra.ext X9.out, MineV.nil _ _⟩, hjz.out.rt.ext X9.out, hjz.out.re.ext X9.out, Fq.of_ext X9.out⟩)
          clear lp9 mk9
          gi_loopw [12, 32] (fun _ s32 w' => ∃ i : Nat, i ≤ (lvsFrom vq data as_).length ∧ s32 = .int .i64 i ∧ Hid (JL ga gt ge (w6.heap.size + 1) w6.heap.size W0.heap.size (fun g => g = w6.heap.size + 1 ∨ g = ga ∨ g = gt ∨ g = ge) bz x.2 i wz w')) (fun _ s32 _ => (lvsFrom vq data as_).length - (intOf s32).toNat)
          case atStart => exact ⟨0, by omega, rfl, HZ9.out⟩
          case round =>
            obtain ⟨i, hin, rfl, hJL⟩ := hrel
            have hgS : ¬ (D.gt = w6.heap.size + 1 ∨ D.gt = ga ∨ D.gt = gt ∨ D.gt = ge) := fun e => by
              have hs4 : D.S4 D.gt := .inr (.inr (.inr rfl))
              have := HAW.out _ hs4
              omega
            have hgb : D.gt < W0.heap.size := HL9.out _ (.inl (.inr (.inr (.inr rfl))))
            have hFr : Fr (fun g => D.S4 g ∨ (g = w6.heap.size + 1 ∨ g = ga ∨ g = gt ∨ g = ge)) W0 wr := (HFy.out.fq (HXF.out.mono fun _ => .inr)).fq (hJL.out.fq.mono fun _ => .inr)
            have htr := (HTR.out.fq HXF.out hgS hgb).fq hJL.out.fq hgS hgb
            have HSZ := hide (show W0.heap.size ≤ wr.heap.size from hFr.size)
            have R6 : w6.heap.size < W0.heap.size := by omega
            have hga0 : ga < W0.heap.size := by omega
            have hgt0 : gt < W0.heap.size := by omega
            have hge0 : ge < W0.heap.size := by omega
            have HNS := hide (And.intro R5 (And.intro R6 (And.intro hgt0 (And.intro hge0 hga0))))
            obtain ⟨A', c', gaB, cellsA, hn9, ho9, he9⟩ := hJL.out.out
            have GAB := hide gaB; have HO9 := hide ho9; have HE9 := hide he9; have HN9 := hide hn9
            have c0 := gaB.cell 0
            have f0 := gaB.frozen 0
            clear gaB ho9 he9 hn9 R6 hga0 hgt0 hge0
            by_cases h : i < (lvsFrom vq data as_).length
            · obtain ⟨b0, off, r, A9, n9, c9, hA0, hx, hb1, d0, hR1⟩ := (htr.lat hFr).row_ h
              injection hA0 with hA0
              injection hA0 with hA1 hA2
              subst hA1; subst hA2
              rw [Nat.zero_add] at d0
              obtain ⟨i0, hi0, hz0, hz1, hz2⟩ := info_parts infoRw
              have hn9k : n9 ≤ 1048576 := by have := hR1.len; have := HXR.out r (List.mem_of_getElem? hx); omega
              have HCL := hide (fun w1 (hw1 : Ext wr w1) => cloneV (cellsR r) A9 n9 c9 w1 (hR1.ext hw1).2 (cellsR_one r) (by omega))
              have HX := hide hx
              have hi20 : i ≤ 1048576 := by have := HLEN.out; omega
              clear hx hR1 hb1 hgS hgb hFr htr
              gi_wp2_with fail
              have c0 := cell_ext c0
              refine wpIn_region_ext 4 (by kernel_rfl) (by kernel_rfl) (fun _ _ hq => hq) (by kernel_rfl) (by kernel_rfl) ?_
              iterate 2
                refine wpE_k (by kernel_rfl) (by kernel_rfl) ?_
                apply Exists.intro
                refine ⟨fun w1 hw1 => ?_, fun K hK => ?_⟩
                · go_simp; first | done | rfl
                go_simp; refine hK _ _ ?_; clear hK K
              refine wpE_p [] (fun u w1 => ∃ Ay cy, u = .slice Ay n9 cy ∧ w1.ownsRow W0.heap.size 58 3 (.slice Ay n9 cy) n9 (cellsR r)) (fun u w1 w2 _ h2 ⟨Ay, cy, h3, h4⟩ => ⟨Ay, cy, h3, mine_ext h4 h2⟩) rfl (by kernel_rfl) (fun w1 hw1 => ?_) ?_
              · simp only [LookQ]
                go_simp
                refine ⟨Ext.refl _, (HCL.out w1 hw1).mono fun e w' hR => ?_⟩
                obtain ⟨A, c, he, ho, hE⟩ := hR
                exact ⟨_, he, hE, A, c, rfl, mine_base ho (Nat.le_trans HSZ.out hw1.size)⟩
              refine wpE_p [38] (fun u w1 => ∃ gb Ay cy, u = .slice (some ⟨gb, 0, none⟩) 1 1 ∧ Blk w1 gb 35 #[.slice Ay n9 cy] ∧ w1.ownsRow W0.heap.size 58 3 (.slice Ay n9 cy) n9 (cellsR r)) (fun u w1 w2 _ h2 ⟨gb, Ay, cy, h3, h4, h5⟩ => ⟨gb, Ay, cy, h3, h4.ext h2, mine_ext h5 h2⟩) rfl (by kernel_rfl) (fun w1 hw1 => ?_) ?_
              · simp only [LookQ]
                intro u hu
                obtain ⟨Ay, cy, rfl, ho⟩ := hu _ rfl
                clear hu
                go_simp
                exact ⟨Ext.alloc _ _, Ay, cy, Blk.new _ _ _, mine_ext ho (Ext.alloc _ _)⟩
              refine wpE_nil ⟨rfl, by kernel_rfl, fun w3 hw3 => ?_⟩
              simp only [EndQ]
              rintro _ ⟨gb, Ay, cy, rfl, hBb, hO3⟩ u38 _
              simp only [List.drop]
              have HBB := hide hBb; have HO3 := hide hO3; have HW3 := hide hw3
              clear hBb hO3 hw3 c0
              have HS3 := hide (Nat.le_trans HSZ.out HW3.out.size)
              go_wp2_with (at_builtin; refine wpList_append_own _ rfl _ _ 27 rfl W0.heap.size 35 i0 _ 1 24 Try.underlying27 hi0 hz0 hz1 hz2 rfl (by decide) _ _ _ rfl (mine_ext HO9.out HW3.out) ⟨gb, 0, none⟩ 1 1 [.slice Ay n9 cy] rfl rfl (blk_one HBB.out) (by simp [Value.oneCell']) (by unfold maxLen; omega) (by omega) HS3.out ?_; intro v8 w8 own8 G8 _; obtain ⟨g8, cap8, rfl⟩ := ownsRow_succ own8; have V8 := hide ((GAB.out.ext HW3.out).grown G8 (own_ne_blk (mine_ext HO9.out HW3.out) (GAB.out.ext HW3.out) (by decide))); have v8 := V8.out.cell 0; have f8 := V8.out.frozen 0; have OWN8 := hide own8; have GR8 := hide G8; clear own8 G8)
              gi_wp2_with fail
              go_roundw
              case rel =>
                refine ⟨i + 1, by omega, by go_num, ?_⟩
                exact jl_push (hJL.out.ext HW3.out) HNS.out.1 HNS.out.2.1 HNS.out.2.2.1 HNS.out.2.2.2.1 (by omega) (by omega) (by omega) (by omega) (.inr (.inl rfl)) (GAB.out.ext HW3.out) (mine_ext HO9.out HW3.out) (HE9.out.mono fun cs x hx => RMine.stab _ _ _ _ _ HW3.out hx) HO3.out HX.out GR8.out OWN8.out
              case measure => simp [intOf]; omega
            · obtain rfl : i = (lvsFrom vq data as_).length := by omega
              have g0 := hJL.out.rt.cell 0
              have g1 := hJL.out.rt.frozen 0
              have g2 := hJL.out.re.cell 0
              have g3 := hJL.out.re.frozen 0
              gi_wp2_with fail
              have hw9 := HNS.out
              have keep : ∀ (k : Nat) (o : Obj), k ≠ ga → k ≠ gt → k ≠ ge → wr.heap[k]? = some o → (((wr.setCell ⟨ga, 0, none⟩ (.slice A' (lvsFrom vq data as_).length c')).setCell ⟨gt, 0, none⟩ (.bool true)).setCell ⟨ge, 0, none⟩ (.int .i64 0)).heap[k]? = some o := fun k o h1 h2 h3 h4 =>
                (Below.heap_setCell _ _ _ _ h3).trans ((Below.heap_setCell _ _ _ _ h2).trans ((Below.heap_setCell _ _ _ _ h1).trans h4))
              have hl := keep _ _ (by omega) (by omega) (by omega) hJL.out.lp
              have hD := keep _ _ (by omega) (by omega) (by omega) hJL.out.mark
              have b0 := ((GAB.out.set_ 0 (.slice A' (lvsFrom vq data as_).length c')).far (p := ⟨gt, 0, none⟩) n1 (.bool true)).far (p := ⟨ge, 0, none⟩) n2 (.int .i64 0)
              have b1 := ((hJL.out.rt.far (p := ⟨ga, 0, none⟩) (Ne.symm n1) (.slice A' (lvsFrom vq data as_).length c')).set_ 0 (.bool true)).far (p := ⟨ge, 0, none⟩) n3 (.int .i64 0)
              have b2 := ((hJL.out.re.far (p := ⟨ga, 0, none⟩) (Ne.symm n2) (.slice A' (lvsFrom vq data as_).length c')).far (p := ⟨gt, 0, none⟩) (Ne.symm n3) (.bool true)).set_ 0 (.int .i64 0)
              have hF : Fq (fun g => g = w6.heap.size + 1 ∨ g = ga ∨ g = gt ∨ g = ge) W0.heap.size wy (((wr.setCell ⟨ga, 0, none⟩ (.slice A' (lvsFrom vq data as_).length c')).setCell ⟨gt, 0, none⟩ (.bool true)).setCell ⟨ge, 0, none⟩ (.int .i64 0)) :=
                (HXF.out.trans hJL.out.fq).trans (Fq.of_fr ((((Fr.refl _ wr).setCell (p := ⟨ga, 0, none⟩) (.inl (.inr (.inl rfl))) _).setCell (p := ⟨gt, 0, none⟩) (.inl (.inr (.inr (.inl rfl)))) _).setCell (p := ⟨ge, 0, none⟩) (.inl (.inr (.inr (.inr rfl)))) _))
              have hm : MineV W0.heap.size (((wr.setCell ⟨ga, 0, none⟩ (.slice A' (lvsFrom vq data as_).length c')).setCell ⟨gt, 0, none⟩ (.bool true)).setCell ⟨ge, 0, none⟩ (.int .i64 0)) A' (lvsFrom vq data as_).length c' x.2 := by
                have h9 := HE9.out
                rw [List.take_of_length_le (by have := HKX.out; omega)] at h9
                exact MineV.fr (S := fun g => g = ga ∨ g = gt ∨ g = ge) ⟨cellsA, HKX.out.symm, HO9.out, h9⟩ ((((Fr.refl _ wr).setCell (p := ⟨ga, 0, none⟩) (.inl (.inl rfl)) _).setCell (p := ⟨gt, 0, none⟩) (.inl (.inr (.inl rfl))) _).setCell (p := ⟨ge, 0, none⟩) (.inl (.inr (.inr rfl))) _) (fun g hg => by omega)
              rw [← HKX.out] at hm b0 b1 b2 hl hD hF ⊢
              generalize ((wr.setCell ⟨ga, 0, none⟩ (.slice A' x.2.length c')).setCell ⟨gt, 0, none⟩ (.bool true)).setCell ⟨ge, 0, none⟩ (.int .i64 0) = wf at *
              have hlf := (Array.getElem?_eq_some_iff.1 hl).1
              obtain ⟨cs7, h7, o7, e7⟩ := hm
              have o7' := own_putObj (l := w6.heap.size + 1) (o := .loop { rec with state := .done, pending := some .ret }) o7 (fun g hg e => by have := (o7.lt g hg).1; omega)
              refine ⟨by rw [HBZ.out]; exact hl, hF.putObj (.inl rfl), rfl, World.putObj_heap_same hlf, (World.putObj_heap_other (by omega)).trans hD, ⟨x, A', c', by simp, b0.putObj (by omega), cs7, h7, o7', e7.mono fun cs rw_ hx => ?_⟩, b1.putObj (by omega), b2.putObj (by omega)⟩
              obtain ⟨B, k1, c1, g1, g2⟩ := hx
              exact ⟨B, k1, c1, g1, own_putObj g2 fun g hg e => by have := (g2.lt g hg).1; omega⟩
    have HY := hide hY; clear hY
    have hk1 : (lvsFrom vq data as_).length ≤ 1048576 := by rw [HLEN.out]; omega
    have hh1 : (hd.map (atN vq)).length ≤ 1048576 := by rw [List.length_map]; omega
    have hall := all1_any D (fun g => g = w6.heap.size + 1 ∨ g = ga ∨ g = gt ∨ g = ge) W0 vq.length (lvsFrom vq data as_) (hd.map (atN vq)) (w6.heap.size + 1) gb (fun x => sameR (headV (hd.map (atN vq)) x.1) ans) _ _ hk1 (by omega) hh1 HHN.out HOK.out HY.out hwf.out
      ⟨fun e => (by rcases e with e | e | e | e; exact (HAW.out _ (.inl rfl)).1 e; exact (HAW.out _ (.inl rfl)).2.2.1 e; exact (HAW.out _ (.inl rfl)).2.2.2.1 e; exact (HAW.out _ (.inl rfl)).2.2.2.2 e),
        fun e => (by rcases e with e | e | e | e; exact (HAW.out _ (.inr (.inl rfl))).1 e; exact (HAW.out _ (.inr (.inl rfl))).2.2.1 e; exact (HAW.out _ (.inr (.inl rfl))).2.2.2.1 e; exact (HAW.out _ (.inr (.inl rfl))).2.2.2.2 e),
        fun e => (by rcases e with e | e | e | e; exact (HAW.out _ (.inr (.inr (.inl rfl)))).1 e; exact (HAW.out _ (.inr (.inr (.inl rfl)))).2.2.1 e; exact (HAW.out _ (.inr (.inr (.inl rfl)))).2.2.2.1 e; exact (HAW.out _ (.inr (.inr (.inl rfl)))).2.2.2.2 e),
        fun e => (by rcases e with e | e | e | e; exact (HAW.out _ (.inr (.inr (.inr rfl)))).1 e; exact (HAW.out _ (.inr (.inr (.inr rfl)))).2.2.1 e; exact (HAW.out _ (.inr (.inr (.inr rfl)))).2.2.2.1 e; exact (HAW.out _ (.inr (.inr (.inr rfl)))).2.2.2.2 e)⟩
      HL9.out HFIT.out hj0.out hst0.out hbx.out
    have hwv : witV ⟨nm, hd, as_⟩ data ans = visit (fun x => sameR (headV (hd.map (atN vq)) x.1) ans) (lvsFrom vq data as_) [] [] := by rw [HWV.out]
    generalize visit (fun x => sameR (headV (hd.map (atN vq)) x.1) ans) (lvsFrom vq data as_) [] [] = vv at *
    have hwp := HWP.out
    rw [hwv] at hwp
    have HWQ := hide hwp
    clear hwp hwv HWP HWV hwf
    have hpend : rec.pending = none := by rw [← HREC.out]; rfl
    have hbusy : rec.state ≠ .busy := by rw [← HREC.out]; simp [recOf]
    refine callsIn_wide.2 (hall.mono ?_)
    clear hall
    rintro e W2 ⟨hFq, hend⟩
    have hex : Ext w W2 := by
      have h1 : Fr (fun g => D.S4 g ∨ (g = w6.heap.size + 1 ∨ g = ga ∨ g = gt ∨ g = ge)) w W2 := (Fr.of_ext (HX3.out.trans hE0.out)).fq' hFq (by have := (HX3.out.trans hE0.out).size; omega)
      refine h1.out fun g hg => ?_
      have := X4.out.size
      rcases hg with hg | hg | hg | hg | hg
      · have := HS4.out g hg; omega
      · omega
      · omega
      · omega
      · omega
    have hd6 : w.heap.size ≤ w6.heap.size := by have := X4.out.size; omega
    rcases hend with ⟨hc, rfl, hst2, hj2, hjx⟩ | ⟨hc, rfl, pre9, hj9⟩
    · cases hb : vv.2.2 with
      | false =>
        have hj := hj2 hb
        refine range_ended hj.lp hbusy ?_
        generalize ({ rec with state := .exhausted } : Loop) = ex
        rw [hpend]
        simp only [Exit.inBlock, Exit.then]
        have p1 := hide (hj.ra.putObj (l := w6.heap.size + 1) (o := .loop ex) (by omega))
        have p2 := hide (hj.rt.putObj (l := w6.heap.size + 1) (o := .loop ex) (by omega))
        have p3 := hide (hj.re.putObj (l := w6.heap.size + 1) (o := .loop ex) (by omega))
        have hmk9 := hide (show (W2.putObj (w6.heap.size + 1) (.loop ex)).heap[w6.heap.size]? = some (.deferred (some [])) from (World.putObj_heap_other (by omega)).trans hj.mark)
        have hex3 := hide (show Ext w (W2.putObj (w6.heap.size + 1) (.loop ex)) from ((Fr.of_ext (S := fun g => w.heap.size ≤ g) hex).putObj (l := w6.heap.size + 1) (o := .loop ex) (.inl (by omega))).out fun _ h => h)
        have HC := hide hc; have HB' := hide hb
        clear hj hj2 hjx hst2 hFq hex hc hb
        generalize W2.putObj (w6.heap.size + 1) (.loop ex) = W3 at *
        have y1 := p1.out.cell 0
        have y2 := p1.out.frozen 0
        have y3 := p2.out.cell 0
        have y4 := p2.out.frozen 0
        have y5 := p3.out.cell 0
        have y6 := p3.out.frozen 0
        have m1 : ga ≠ w6.heap.size := by omega
        have m2 : gt ≠ w6.heap.size := by omega
        have m3 : ge ≠ w6.heap.size := by omega
        go_wp2_with fail
        refine wdoor_ok (d := w6.heap.size) (ga := ga) (gt := gt) (ge := ge) (mark_end hmk9.out m1 m2 m3) ?_
        obtain ⟨r0, r1', r2'⟩ := wblks_end (d := w6.heap.size) (o := .deferred none) (ua := .slice none 0 0) (ut := .bool false) (ue := .int .i64 0) p1.out p2.out p3.out n1 n2 n3 m1 m2 m3
        have z0 := r0.cell 0
        have z1 := r1'.cell 0
        have z2 := r2'.cell 0
        refine ⟨.tuple #[.slice none 0 0, .bool false, .int .i64 0], by simp [results, Try.results30, go_sem, z0, z1, z2], ?_⟩
        rw [HWQ.out, if_pos HC.out, HB'.out]
        exact RetWi.none (ext_end hex3.out (by omega) (by omega) (by omega) hd6)
      | true =>
        have hj := hjx hb
        refine range_ended hj.lp (by simp) ?_
        simp only
        refine wpIn_ret ?_
        generalize ({ rec with state := .exhausted, pending := some .ret } : Loop) = ex
        obtain ⟨x, AX, cX, hx1, hx2, hx3⟩ := hj.out
        have p1 := hide (hx2.putObj (l := w6.heap.size + 1) (o := .loop ex) (by omega))
        have p2 := hide (hj.rt.putObj (l := w6.heap.size + 1) (o := .loop ex) (by omega))
        have p3 := hide (hj.re.putObj (l := w6.heap.size + 1) (o := .loop ex) (by omega))
        have hmk9 := hide (show (W2.putObj (w6.heap.size + 1) (.loop ex)).heap[w6.heap.size]? = some (.deferred (some [])) from (World.putObj_heap_other (by omega)).trans hj.mark)
        have m1 : ga ≠ w6.heap.size := by omega
        have m2 : gt ≠ w6.heap.size := by omega
        have m3 : ge ≠ w6.heap.size := by omega
        simp only [Exit.inBlock, Exit.then]
        refine wdoor_ok (d := w6.heap.size) (ga := ga) (gt := gt) (ge := ge) hmk9.out ?_
        have z0 := (Blk.putObj (l := w6.heap.size) (o := .deferred none) p1.out m1).cell 0
        have z1 := (Blk.putObj (l := w6.heap.size) (o := .deferred none) p2.out m2).cell 0
        have z2 := (Blk.putObj (l := w6.heap.size) (o := .deferred none) p3.out m3).cell 0
        refine ⟨.tuple #[.slice AX x.2.length cX, .bool true, .int .i64 0], by simp [results, Try.results30, go_sem, z0, z1, z2], ?_⟩
        rw [HWQ.out, if_pos hc, hb, if_pos rfl, hx1]
        refine ⟨AX, cX, rfl, ?_, ?_⟩
        · have R5 : w6.heap.size + 1 < W0.heap.size := by rw [R4.out]; omega
          obtain ⟨cells, k1, k2, k3⟩ := hx3
          have key : ∀ (l : Nat) (o : Obj) (W : World), l < W0.heap.size → W.ownsRow W0.heap.size 35 1 (.slice AX x.2.length cX) x.2.length cells → Els (RMine W0.heap.size) 1 W cells x.2 →
              (W.putObj l o).ownsRow W0.heap.size 35 1 (.slice AX x.2.length cX) x.2.length cells ∧ Els (RMine W0.heap.size) 1 (W.putObj l o) cells x.2 := fun l o W hl h1 h2 =>
            ⟨own_putObj h1 (fun g hg e => by have := (h1.lt g hg).1; omega), h2.mono fun cs y hy => by
              obtain ⟨By, ky, cy, y1, y2⟩ := hy
              exact ⟨By, ky, cy, y1, own_putObj y2 fun g hg e => by have := (y2.lt g hg).1; omega⟩⟩
          obtain ⟨u1, u2⟩ := key (w6.heap.size + 1) (.loop ex) W2 R5 k2 k3
          obtain ⟨u3, u4⟩ := key w6.heap.size (.deferred none) _ (by omega) u1 u2
          exact mine_lat rfl u3 u4
        · exact (((Fr.of_ext (S := fun g => w.heap.size ≤ g) hex).putObj (l := w6.heap.size + 1) (o := .loop ex) (.inl (by omega))).putObj (l := w6.heap.size) (o := .deferred none) (.inl hd6)).out fun _ h => h
    · refine wdoor_err (d := w6.heap.size) hj9.mark hj9.ra hj9.rt hj9.re n1 n2 n3 (by omega) (by omega) (by omega) ?_
      intro w1 hw1 g1 g2 g3
      have z0 := g1.cell 0
      have z1 := g2.cell 0
      have z2 := g3.cell 0
      rw [HWQ.out, if_neg (Nat.not_le.2 hc)]
      refine ⟨.tuple #[.slice none 0 0, .bool false, .int .i64 120], by simp [results, Try.results30, go_sem, z0, z1, z2], RetWi.none ?_⟩
      have hF : Fr (fun g => w.heap.size ≤ g) w (((w1.setCell ⟨ga, 0, none⟩ (.slice none 0 0)).setCell ⟨gt, 0, none⟩ (.bool false)).setCell ⟨ge, 0, none⟩ (.int .i64 120)) :=
        (((((Fr.of_ext hex).putObj (l := w6.heap.size) (o := .deferred none) (.inl hd6)).ext hw1).setCell (p := ⟨ga, 0, none⟩) (.inl (by simp only; omega)) _).setCell (p := ⟨gt, 0, none⟩) (.inl (by simp only; omega)) _).setCell (p := ⟨ge, 0, none⟩) (.inl (by simp only; omega)) _
      exact hF.out fun _ h => h
  · have hne : (sq != 0) = true := by simpa using h0
    have HWP := hide (show witP ⟨nm, hd, as_⟩ data ans = ([], false, sq) from by unfold witP; rw [if_neg (by rw [hsq]; exact h0), hsq])
    obtain ⟨hg59, hga9, hgt9, hge9, n1, n2, n3, -⟩ := N123.out
    have hgq9 := HGQ.out
    have HSQ := hide hsq
    clear hsq
    generalize witP ⟨nm, hd, as_⟩ data ans = wp at *
    go_wp2_with ((with_reducible refine HS3.out.mono ?_); clear HS3; rintro e w4 ⟨rfl, x4⟩; have X4 := hide (HX3.out.trans x4); have HP4 := hide (HP1.out.ext x4); have HP5 := hide (HP2.out.ext x4); have HP6 := hide (HP3.out.ext x4); have y1 := HP4.out.cell 0; have y2 := HP4.out.frozen 0; have y3 := HP5.out.cell 0; have y4 := HP5.out.frozen 0; have y5 := HP6.out.cell 0; have y6 := HP6.out.frozen 0; clear x4)
    have z0 := ((HP4.out.set_ 0 (.slice none 0 0)).far (p := ⟨gt, 0, none⟩) n1 (.bool false)).far (p := ⟨ge, 0, none⟩) n2 (.int .i64 sq)
    have z1 := ((HP5.out.far (p := ⟨ga, 0, none⟩) (Ne.symm n1) (.slice none 0 0)).set_ 0 (.bool false)).far (p := ⟨ge, 0, none⟩) n3 (.int .i64 sq)
    have z2 := ((HP6.out.far (p := ⟨ga, 0, none⟩) (Ne.symm n2) (.slice none 0 0)).far (p := ⟨gt, 0, none⟩) (Ne.symm n3) (.bool false)).set_ 0 (.int .i64 sq)
    have z0 := z0.cell 0
    have z1 := z1.cell 0
    have z2 := z2.cell 0
    show ∃ v, (results _ _).run _ _ = .ok v _ ∧ RetWi _ _ (.returned v) _
    rw [HWP.out]
    refine ⟨.tuple #[.slice none 0 0, .bool false, .int .i64 sq], by simp [results, Try.results30, go_sem, z0, z1, z2], RetWi.none ?_⟩
    have hF : Fr (fun g => w.heap.size ≤ g) w (((w4.setCell ⟨ga, 0, none⟩ (.slice none 0 0)).setCell ⟨gt, 0, none⟩ (.bool false)).setCell ⟨ge, 0, none⟩ (.int .i64 sq)) :=
      (((Fr.of_ext X4.out).setCell (p := ⟨ga, 0, none⟩) (.inl (by simp only; omega)) _).setCell (p := ⟨gt, 0, none⟩) (.inl (by simp only; omega)) _).setCell (p := ⟨ge, 0, none⟩) (.inl (by simp only; omega)) _
    exact hF.out fun _ h => h
end Go.Proofs.Ytpfjkjmimmklcaa
