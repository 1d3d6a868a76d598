/-
  collect: all answers of a query over tables, arranged, and the trials.
  Answers and Count.
  The copy of a list of tables.
  What the answers are, and that more rows take none away: plain laws.
-/
import Derived.Test.YtpfjkjmimmklcaaNaiG
import Derived.Test.YtpfjkjmimmklcaaNaiO
import Derived.Test.YtpfjkjmimmklcaaNaiNV
import Derived.Test.YtpfjkjmimmklcaaArrG
import Derived.Test.YtpfjkjmimmklcaaShapeW
import Derived.OwnWalkIn
import Derived.Deep.RegionLaw
import Derived.Deep.RegionHeld3
import Derived.TacticsInMore
import Derived.Maps.AppendAt
import Derived.RangeFuncBox
import Derived.Test.YtpfjkjmimmklcaaHomG
import Derived.Test.YtpfjkjmimmklcaaRowsG
import Derived.Test.YtpfjkjmimmklcaaNaiS
namespace Go.Proofs.Ytpfjkjmimmklcaa
open Go.RowKit
attribute [local go_sem] Oper.semAt_some

/-- the answers, the trials, the error -/
def ansP (q : Qy) (data : List Tbl) : List (List V) := arrP ((leaves (lvsFrom (varsQ q) data q.atoms) []).map (headV (q.head.map (atN (varsQ q)))))
def costP (q : Qy) (data : List Tbl) : Nat := cost (lvsFrom (varsQ q) data q.atoms) []
def collectP (q : Qy) (data : List Tbl) : List (List V) × Nat × Int :=
  if shapeQ q = 0 then (if costP q data ≤ 131072 then (ansP q data, costP q data, 0) else ([], 0, 120)) else ([], 0, shapeQ q)
def RetC (w0 : World) (v : List (List V) × Nat × Int) (en : Ending) (w' : World) : Prop :=
  ∃ A c cells, en = .returned (.tuple #[.slice A v.1.length c, .int .i64 v.2.1, .int .i64 v.2.2]) ∧ w'.ownsRow w0.heap.size 35 1 (.slice A v.1.length c) v.1.length cells ∧ Els (RMine w0.heap.size) 1 w' cells v.1 ∧ Ext w0 w'

set_option maxRecDepth 100000 in
set_option maxHeartbeats 4000000 in
theorem collect_any (q : Qy) (L : QLoc) (data : List Tbl) (B : Option Addr) (m c : Nat) (w : World) (hq : QAt w L q) (hM : smallM 1048576 q) (hb : LAt RB 2 w B m data) (hm : m ≤ 1048576) (hsum : (data.flatMap Tbl.rows).length ≤ 1099511627776)
    (hrow : ∀ t ∈ data, ∀ r ∈ t.rows, r.length ≤ 1048576) :
    Calls Try.prog 42 #[qval q.name L, .slice B m c] w (RetC w (collectP q data)) := by
  obtain ⟨nm, hd, as_⟩ := q
  obtain ⟨A, n, cA, AB, k, d⟩ := L
  simp only [qval]
  have hmf : ∀ (fn : Fn) (first cap : Array Value) (w : World), (Instr.makeFunc fn first cap).run Try.prog w = .ok (.func fn first cap) w := fun _ _ _ _ => rfl
  have HQ := hide hq; have HM := hide hM; have HB := hide hb; have HSUM := hide hsum; have HROW := hide hrow
  have HS := hide (fun w1 (h1 : Ext w w1) => query_shape ⟨nm, hd, as_⟩ ⟨A, n, cA, AB, k, d⟩ w1 (hq.ext h1) hM)
  simp only [qval] at HS
  clear hq hM hb hsum hrow
  refine (callsIn_wide (n := 4)).1 ?_
  refine callsIn_of_wp_marks Try.func42 rfl trivial ?_ rfl
  refine wpIn_wide.2 ?_
  simp only [Try.ntmps42, List.size_toArray, List.length_cons, List.length_nil, Nat.reduceAdd, Nat.reduceSub, Array.replicate_succ, Array.replicate_zero, List.push_toArray, List.append_toArray, List.nil_append, List.cons_append]
  go_upto_region 1 with fail
  have e0 := World.size_alloc w (.cells #[.string nm, .slice A n cA, .slice AB k d] 25)
  have x0 := Ext.alloc w (.cells #[.string nm, .slice A n cA, .slice AB k d] 25)
  have p0 := Blk.new w 25 #[.string nm, .slice A n cA, .slice AB k d]
  generalize w.alloc (.cells #[.string nm, .slice A n cA, .slice AB k d] 25) = v0 at *
  have e1 := World.size_alloc v0 (.cells #[.slice none 0 0] 27)
  have x1 := Ext.alloc v0 (.cells #[.slice none 0 0] 27)
  have p1 := Blk.new v0 27 #[.slice none 0 0]
  generalize v0.alloc (.cells #[.slice none 0 0] 27) = v1 at *
  have e2 := World.size_alloc v1 (.cells #[.int .i64 0] 3)
  have x2 := Ext.alloc v1 (.cells #[.int .i64 0] 3)
  have p2 := Blk.new v1 3 #[.int .i64 0]
  generalize v1.alloc (.cells #[.int .i64 0] 3) = v2 at *
  have e3 := World.size_alloc v2 (.cells #[.int .i64 0] 28)
  have x3 := Ext.alloc v2 (.cells #[.int .i64 0] 28)
  have p3 := Blk.new v2 28 #[.int .i64 0]
  generalize v2.alloc (.cells #[.int .i64 0] 28) = v3 at *
  rw [e0] at e1 p1; rw [e1] at e2 p2; rw [e2] at p3
  have HX3 := hide (((x0.trans x1).trans x2).trans x3)
  have HP0 := hide (((p0.ext x1).ext x2).ext x3)
  have HP1 := hide ((p1.ext x2).ext x3)
  have HP2 := hide (p2.ext x3)
  have HP3 := hide p3
  have hgq := hide (Nat.le_refl w.heap.size)
  clear e0 e1 e2 e3 x0 x1 x2 x3 p0 p1 p2 p3
  have hga : w.heap.size ≤ w.heap.size + 1 := by omega
  have hgt : w.heap.size ≤ w.heap.size + 1 + 1 := by omega
  have hge : w.heap.size ≤ w.heap.size + 1 + 1 + 1 := by omega
  have n1 : w.heap.size + 1 ≠ w.heap.size + 1 + 1 := by omega
  have n2 : w.heap.size + 1 ≠ w.heap.size + 1 + 1 + 1 := by omega
  have n3 : w.heap.size + 1 + 1 ≠ w.heap.size + 1 + 1 + 1 := by omega
  have N123 := hide (And.intro hga (And.intro hgt (And.intro hge (And.intro n1 (And.intro n2 n3)))))
  clear hga hgt hge n1 n2 n3
  generalize w.heap.size + 1 + 1 + 1 = ge at *
  generalize w.heap.size + 1 + 1 = gt at *
  generalize w.heap.size + 1 = ga at *
  have HS3 := hide (HS.out v3 HX3.out)
  have b0 := HP0.out.cell 0
  have b1 := HP0.out.cell 1
  have b2 := HP0.out.cell 2
  generalize hgq' : w.heap.size = gq at *
  have HGQ := hide hgq'; clear hgq'
  generalize hsq : shapeQ ⟨nm, hd, as_⟩ = sq at *
  by_cases h0 : sq = 0
  · subst h0
    have HSH := hide (shapeQ_iff.1 hsq)
    have HSQ := hide hsq; clear hsq
    have HNW := hide (fun w4 (h4 : Ext w w4) => new_walk ⟨nm, hd, as_⟩ ⟨A, n, cA, AB, k, d⟩ data B m c w w4 h4 HQ.out HM.out HSH.out HB.out hm HSUM.out)
    simp only [qval] at HNW
    go_wp2_with (first
      | ((with_reducible refine HS3.out.mono ?_); clear HS3; rintro e w4 ⟨rfl, x4⟩; have X4 := hide (HX3.out.trans x4); have HP4 := hide (HP0.out.ext x4); have c0 := HP4.out.cell 0; have c1 := HP4.out.cell 1; have c2 := HP4.out.cell 2; have X34 := hide x4; clear x4)
      | ((with_reducible refine (HNW.out _ X4.out).mono ?_); rintro e w5 ⟨D, base, rfl, hDL, hDn, hNB, hbase, hS4, x5⟩; have HS4 := hide hS4; clear hS4; have HDL := hide hDL; have HDN := hide hDn; have HNB := hide hNB; have HBA := hide hbase; have X5 := hide x5; clear hDL hDn hNB hbase x5)
      | ((with_reducible refine (all_any _ _).mono ?_); rintro e w6 ⟨rfl, h6⟩))
    have hx6 := hide (Ext.alloc w5 (.cells #[.pointer (some ⟨D.gw, 0, none⟩)] 106))
    have HBX := hide (Blk.new w5 106 #[.pointer (some ⟨D.gw, 0, none⟩)])
    clear b0 b1 b2 c0 c1 c2 HNW HS
    generalize w5.alloc (.cells #[.pointer (some ⟨D.gw, 0, none⟩)] 106) = w6 at *
    generalize hgb : w5.heap.size = gb at *
    have HGB := hide hgb; clear hgb
    refine (wpIn_wide (n := 4)).1 ?_
    refine wp_range (gf := 88) (lb := #[.pointer (some ⟨gb, 0, none⟩)]) rfl (enters_of Try.func88 (by kernel_rfl) rfl) ?_
    intro fn
    generalize hrec : recOf fn _ _ _ _ w6.heap.size = rec
    have HREC := hide hrec; clear hrec
    obtain ⟨r1, r2, r3, r4⟩ := rec_laid w6 rec
    generalize (w6.alloc (.deferred (some []))).alloc (.loop rec) = W0 at *
    have R4 := hide r4
    generalize hvq : varsQ ⟨nm, hd, as_⟩ = vq at *
    have HVQ := hide hvq; clear hvq
    have hlt := HNB.out.wst.lt
    have s5 := X5.out.size
    have s6 := hx6.out.size
    have sa := HP1.out.lt
    have s34 := X34.out.size
    have hD4 : ∀ g, D.S4 g → w4.heap.size ≤ g ∧ g < w5.heap.size := fun g hg => ⟨HS4.out g hg, by rcases hg with rfl | rfl | rfl | rfl <;> omega⟩
    have hl9 : ∀ g, D.S4 g ∨ (g = w6.heap.size + 1 ∨ g = ga) → g < W0.heap.size := fun g hg => by
      rcases hg with hg | rfl | rfl
      · have := (hD4 g hg).2; omega
      · omega
      · omega
    have haw : ∀ g, D.S4 g → g ≠ w6.heap.size + 1 ∧ g ≠ w6.heap.size ∧ g ≠ ga := fun g hg => by have := hD4 g hg; omega
    have hlen : (lvsFrom vq data as_).length = as_.length := by simp [lvsFrom]
    have hNB := HNB.out
    rw [← hlen] at hNB
    have hqa := HQ.out.atoms
    have hat : LAt RA 2 w D.L.B D.L.m ((lvsFrom vq data as_).map Lv.a) := by
      have e : (lvsFrom vq data as_).map Lv.a = as_ := by simp [lvsFrom, Function.comp_def]
      rw [e, HDL.out]; exact hqa
    have hgqw := HGQ.out
    have hga := N123.out.1
    have hwf := hide (NC.wfix (S := fun g => D.S4 g ∨ (g = w6.heap.size + 1 ∨ g = ga)) hNB (X4.out.trans X5.out) (hx6.out.trans r3) hat
      (fun g hg => by
        rcases hg with hg | rfl | rfl
        · exact .inl (HNB.out.low g hg).2
        · right; omega
        · left; have := HBA.out; omega)
      (fun g hg => by
        have := X4.out.size
        rcases hg with hg | rfl | rfl
        · have := (hD4 g hg).1; omega
        · omega
        · omega))
    have HD4 := hide hD4; have HL9 := hide hl9; have HAW := hide haw
    have hok := lvs_ok HSH.out HSUM.out HROW.out
    have hfit := fit_query ⟨nm, hd, as_⟩ data
    have hhN := head_lt HSH.out
    have hN60 := vars_sixty HSH.out
    have hh30 := head_len HSH.out
    have h66 := HSH.out.six
    simp only [HVQ.out] at hok hfit hhN hN60
    simp only at hh30 h66
    have HOK := hide hok; have HFIT := hide hfit; have HHN := hide hhN
    have hbx := hide (HBX.out.ext r3)
    have hst0 := hide (hNB.wst.ext (hx6.out.trans r3))
    have HLEN := hide hlen
    clear hok hfit hhN hNB hat hqa hD4 hl9 haw hlt r4 hlen
    have hj0 := hide (show JC ga (w6.heap.size + 1) w6.heap.size W0.heap.size rec (fun x => headV (hd.map (atN vq)) x.1) [] W0 from
      ⟨r1, r2, none, 0, ((HP1.out.ext X34.out).ext X5.out).ext (hx6.out.trans r3), MineV.nil _ _⟩)
    have hY : Yields D (fun g => g = w6.heap.size + 1 ∨ g = ga) W0 W0.heap.size (lvsFrom vq data as_).length (hd.map (atN vq)) (w6.heap.size + 1) (fun _ => false)
        (JC ga (w6.heap.size + 1) w6.heap.size W0.heap.size rec (fun x => headV (hd.map (atN vq)) x.1)) (fun _ _ => False) := by
      refine ⟨fun pre w1 w2 hj hF => hj.fr hF (fun h => (HAW.out _ h).1 rfl) (fun h => (HAW.out _ h).2.1 rfl) (fun h => (HAW.out _ h).2.2 rfl) (fun g hg => HL9.out g (.inl hg)), fun _ _ _ h => h.elim, ?_⟩
      intro pre x wy Ay cy hp9 hj hF ho ht
      simp only [List.length_map] at ho
      refine range_round hj.lp ?_ ?_ ?_ trivial ?_
      · rw [← HREC.out]; rfl
      · rw [← HREC.out]; rfl
      · rw [← HREC.out]; rfl
      · have HJ := hide hj; have HO := hide ho; have HFy := hide hF
        clear hj hF ho ht
        have hlp := HJ.out.lp
        have hA := congrArg Loop.assign HREC.out
        have hB := congrArg Loop.body HREC.out
        have hT := congrArg Loop.tmps HREC.out
        have hP := congrArg Loop.params HREC.out
        dsimp only [recOf] at hA hB hT hP
        generalize hbz : ({ rec with state := .busy } : Loop) = bz
        rw [← hA, ← hB, ← hT, ← hP]
        have HBZ := hide hbz
        clear hA hB hT hP hbz
        gi_wp2_with fail
        refine ⟨(Below.heap_alloc _ _ _ (Array.getElem?_eq_some_iff.1 HJ.out.lp).1).trans HJ.out.lp, ?_⟩
        obtain ⟨A', c', hblk, cellsA, hn9, ho9, he9⟩ := HJ.out.out
        have hsz := (Array.getElem?_eq_some_iff.1 HJ.out.lp).1
        have hgal : ga ≠ w6.heap.size + 1 := by omega
        have x1 := hide (Ext.alloc wy (.cells #[.slice Ay hd.length cy, .slice (some ⟨D.gt, 0, none⟩) (lvsFrom vq data as_).length (lvsFrom vq data as_).length] 110))
        have b1 := Blk.new wy 110 #[.slice Ay hd.length cy, .slice (some ⟨D.gt, 0, none⟩) (lvsFrom vq data as_).length (lvsFrom vq data as_).length]
        have R5 : w6.heap.size + 1 < W0.heap.size := by rw [R4.out]; omega
        have b2 := hide (b1.putObj (l := w6.heap.size + 1) (o := .loop bz) (by omega))
        have b3 := hide ((hblk.ext x1.out).putObj (l := w6.heap.size + 1) (o := .loop bz) hgal)
        have ho' := hide (own_putObj (l := w6.heap.size + 1) (o := .loop bz) (mine_ext ho9 x1.out) (fun g hg => by have := (ho9.lt g hg).1; omega))
        have hoA := hide (own_putObj (l := w6.heap.size + 1) (o := .loop bz) (mine_ext HO.out x1.out) (fun g hg => by have := (HO.out.lt g hg).1; omega))
        have hE9 := hide he9; have HN9 := hide hn9
        have hlb : ((wy.alloc (.cells #[.slice Ay hd.length cy, .slice (some ⟨D.gt, 0, none⟩) (lvsFrom vq data as_).length (lvsFrom vq data as_).length] 110)).putObj (w6.heap.size + 1) (.loop bz)).heap[w6.heap.size + 1]? = some (.loop bz) :=
          World.putObj_heap_same (by rw [World.size_alloc]; omega)
        have HLB := hide hlb
        clear b1 hblk ho9 he9 hn9 hlb
        have hxf := hide (Fq.of_ext (S := fun g => g = w6.heap.size + 1 ∨ g = ga) (base := W0.heap.size) x1.out)
        have HXF := hide (hxf.out.putObj (l := w6.heap.size + 1) (o := .loop bz) (.inl rfl))
        have hmk9 : ((wy.alloc (.cells #[.slice Ay hd.length cy, .slice (some ⟨D.gt, 0, none⟩) (lvsFrom vq data as_).length (lvsFrom vq data as_).length] 110)).putObj (w6.heap.size + 1) (.loop bz)).heap[w6.heap.size]? = some (.deferred (some [])) :=
          (World.putObj_heap_other (by omega)).trans ((Below.heap_alloc _ _ _ (Array.getElem?_eq_some_iff.1 HJ.out.mark).1).trans HJ.out.mark)
        have HMK := hide hmk9
        have hEls9 := hide (hE9.out.mono (w' := (wy.alloc (.cells #[.slice Ay hd.length cy, .slice (some ⟨D.gt, 0, none⟩) (lvsFrom vq data as_).length (lvsFrom vq data as_).length] 110)).putObj (w6.heap.size + 1) (.loop bz)) (R' := RMine W0.heap.size) fun cs r hr => by
          obtain ⟨B, k1, c1, g1, g2⟩ := hr
          exact ⟨B, k1, c1, g1, own_putObj (mine_ext g2 x1.out) fun g hg => by have := (g2.lt g hg).1; omega⟩)
        clear hmk9
        have c1 := b3.out.cell 0
        have c2 := b2.out.cell 0
        have f1 := b3.out.frozen 0
        obtain ⟨i0, hi0, hz0, hz1, hz2⟩ := info_parts infoRw
        have hbs := hide (show W0.heap.size ≤ ((wy.alloc (.cells #[.slice Ay hd.length cy, .slice (some ⟨D.gt, 0, none⟩) (lvsFrom vq data as_).length (lvsFrom vq data as_).length] 110)).putObj (w6.heap.size + 1) (.loop bz)).heap.size by
          have := HFy.out.size
          simp
          omega)
        generalize (wy.alloc (.cells #[.slice Ay hd.length cy, .slice (some ⟨D.gt, 0, none⟩) (lvsFrom vq data as_).length (lvsFrom vq data as_).length] 110)).putObj (w6.heap.size + 1) (.loop bz) = wz at *
        gi_wp2_with (gi_at_builtin; refine wpListIn_append_own _ rfl _ _ 27 rfl W0.heap.size 35 i0 _ 1 24 Try.underlying27 hi0 hz0 hz1 hz2 rfl (by decide) _ _ _ rfl (mine_ext ho'.out (Ext.alloc wz _)) ⟨wz.heap.size, 0, none⟩ 1 1 [.slice Ay hd.length cy] rfl rfl (cell_one_new _ _ _) (by simp [Value.oneCell']) (by unfold maxLen; omega) (by omega) (Nat.le_trans hbs.out (Ext.alloc _ _).size) ?_; intro v8 w8 own8 G8 _; obtain ⟨g8, cap8, rfl⟩ := ownsRow_succ own8; have V8 := hide ((b3.out.ext (Ext.alloc wz (.cells #[.slice Ay hd.length cy] 35))).grown G8 (own_ne_blk (mine_ext ho'.out (Ext.alloc wz (.cells #[.slice Ay hd.length cy] 35))) (b3.out.ext (Ext.alloc wz (.cells #[.slice Ay hd.length cy] 35))) (by decide))); have v8 := V8.out.cell 0; have f8 := V8.out.frozen 0; have OWN8 := hide own8; have GR8 := hide G8; clear own8 G8)
        have hpu := jc_push (ga := ga) (l := w6.heap.size + 1) (D0 := w6.heap.size) (r := rec) (f := fun x => headV (hd.map (atN vq)) x.1) (x := x) HLB.out HMK.out (by omega) (by omega) (by omega) hgal (by omega) (by omega) b3.out ho'.out hEls9.out hoA.out GR8.out OWN8.out
        refine ⟨by rw [HBZ.out]; exact hpu.1, ?_, rfl, hpu.2.1⟩
        exact HXF.out.trans (hpu.2.2 _ (.inl rfl) (.inr rfl))
    have HY := hide hY; clear hY
    have hk1 : (lvsFrom vq data as_).length ≤ 1048576 := by rw [HLEN.out]; omega
    have hh1 : (hd.map (atN vq)).length ≤ 1048576 := by rw [List.length_map]; omega
    have hall := all1_any D (fun g => g = w6.heap.size + 1 ∨ g = ga) W0 vq.length (lvsFrom vq data as_) (hd.map (atN vq)) (w6.heap.size + 1) gb (fun _ => false) _ _ hk1 (by omega) hh1 HHN.out HOK.out HY.out hwf.out
      ⟨fun e => by rcases e with e | e; exact (HAW.out _ (.inl rfl)).1 e; exact (HAW.out _ (.inl rfl)).2.2 e, fun e => by rcases e with e | e; exact (HAW.out _ (.inr (.inl rfl))).1 e; exact (HAW.out _ (.inr (.inl rfl))).2.2 e,
        fun e => by rcases e with e | e; exact (HAW.out _ (.inr (.inr (.inl rfl)))).1 e; exact (HAW.out _ (.inr (.inr (.inl rfl)))).2.2 e, fun e => by rcases e with e | e; exact (HAW.out _ (.inr (.inr (.inr rfl)))).1 e; exact (HAW.out _ (.inr (.inr (.inr rfl)))).2.2 e⟩
      HL9.out HFIT.out hj0.out hst0.out hbx.out
    obtain ⟨hv1, hv2, hv3⟩ := visit_all (lvsFrom vq data as_) [] []
    rw [show visit (fun _ => false) (lvsFrom vq data as_) [] [] = ((visit (fun _ => false) (lvsFrom vq data as_) [] []).1, (visit (fun _ => false) (lvsFrom vq data as_) [] []).2.1, (visit (fun _ => false) (lvsFrom vq data as_) [] []).2.2) from rfl, hv1, hv3] at hall
    generalize hlv : (visit (fun _ => false) (lvsFrom vq data as_) [] []).2.1 = lvl at *
    have HV2 := hide hv2
    have hpend : rec.pending = none := by rw [← HREC.out]; rfl
    have hbusy : rec.state ≠ .busy := by rw [← HREC.out]; simp [recOf]
    have hfew := visit_few (fun _ => false) (lvsFrom vq data as_) [] []
    rw [hv1, hlv] at hfew
    have HFEW := hide hfew
    clear hv1 hv2 hv3 hlv hwf hfew
    refine callsIn_wide.2 (hall.mono ?_)
    clear hall
    rintro e W2 ⟨hFq, ⟨hc, rfl, hst2, hj2, -⟩ | ⟨hc, rfl, pre9, hj9⟩⟩
    · have HFQ := hide hFq; have HST2 := hide hst2; have HJ2 := hide (hj2 rfl)
      simp only at HJ2
      have hc' : cost (lvsFrom vq data as_) [] ≤ 131072 := hc
      clear hFq hst2 hj2 hc
      refine range_ended HJ2.out.lp hbusy ?_
      generalize ({ rec with state := .exhausted } : Loop) = ex
      rw [hpend]
      simp only [Exit.inBlock, Exit.then]
      obtain ⟨A', c', hblk, hmine⟩ := HJ2.out.out
      have hgal : ga ≠ w6.heap.size + 1 := by omega
      have hE0 := hide ((X34.out.trans X5.out).trans (hx6.out.trans r3))
      have htl : gt < v3.heap.size := HP2.out.lt
      have hel : ge < v3.heap.size := HP3.out.lt
      have nS : ∀ g, g < v3.heap.size → g ≠ ga → ¬ (D.S4 g ∨ (g = w6.heap.size + 1 ∨ g = ga)) := fun g hg hne hs => by
        rcases hs with hs | hs | hs
        · have := HS4.out g hs; omega
        · omega
        · exact hne hs
      obtain ⟨-, hgt9, hge9, n1, n2, n3⟩ := N123.out
      have q2 := ((HP2.out.ext hE0.out).fq HFQ.out (nS gt htl (Ne.symm n1)) (.inr (by decide)))
      have q3 := ((HP3.out.ext hE0.out).fq HFQ.out (nS ge hel (Ne.symm n2)) (.inr (by decide)))
      have s5' : D.gw < w5.heap.size := HNB.out.wst.lt.1
      have R5 : w6.heap.size + 1 < W0.heap.size := by rw [R4.out]; omega
      have p1 := hide (hblk.putObj (l := w6.heap.size + 1) (o := .loop ex) hgal)
      have p2 := hide (q2.putObj (l := w6.heap.size + 1) (o := .loop ex) (by omega))
      have p3 := hide (q3.putObj (l := w6.heap.size + 1) (o := .loop ex) (by omega))
      have p4 := hide (HST2.out.st.putObj (l := w6.heap.size + 1) (o := .loop ex) (by omega))
      have hmk9 := hide (show (W2.putObj (w6.heap.size + 1) (.loop ex)).heap[w6.heap.size]? = some (.deferred (some [])) from (World.putObj_heap_other (by omega)).trans HJ2.out.mark)
      have hmine' := hide (show MineV W0.heap.size (W2.putObj (w6.heap.size + 1) (.loop ex)) A' lvl.length c' (lvl.map fun x => headV (hd.map (atN vq)) x.1) from by
        obtain ⟨cells, g1, g2, g3⟩ := hmine
        refine ⟨cells, g1, own_putObj g2 (fun g hg => by have := (g2.lt g hg).1; omega), g3.mono fun cs x hx => ?_⟩
        obtain ⟨Bx, k1, c1, y1, y2⟩ := hx
        exact ⟨Bx, k1, c1, y1, own_putObj y2 fun g hg => by have := (y2.lt g hg).1; omega⟩)
      have HFQ3 := hide (HFQ.out.putObj (l := w6.heap.size + 1) (o := .loop ex) (.inr (.inl rfl)))
      have hN123 := hide (show gt ≠ w6.heap.size ∧ ge ≠ w6.heap.size ∧ ga ≠ w6.heap.size from ⟨by omega, by omega, by omega⟩)
      generalize W2.putObj (w6.heap.size + 1) (.loop ex) = W3 at *
      have hlvl : lvl.length ≤ 16777216 := by
        have h2 := HFEW.out
        omega
      have hlr : ∀ r ∈ lvl.map (fun x => headV (hd.map (atN vq)) x.1), r.length ≤ 16777216 := fun r hr => by
        obtain ⟨x, -, rfl⟩ := List.mem_map.1 hr
        simp only [headV, List.length_map]; omega
      have HAR := hide (fun wx (hx : Ext W3 wx) => arrange_any (lvl.map fun x => headV (hd.map (atN vq)) x.1) A' lvl.length c' wx (by
        obtain ⟨cells, g1, g2, g3⟩ := hmine'.out
        exact (mine_lat g1 g2 g3).ext RRow.stab hx) hlvl hlr)
      have hrw : arrP (lvl.map fun x => headV (hd.map (atN vq)) x.1) = ansP ⟨nm, hd, as_⟩ data := by
        have e : (fun x : Leaf => headV (hd.map (atN vq)) x.1) = (headV (hd.map (atN vq))) ∘ (·.1) := rfl
        rw [e, ← List.map_map, HV2.out]
        unfold ansP
        rw [HVQ.out]
      rw [hrw] at HAR
      have HLR := hide hlr; have HRW := hide hrw
      clear hlr hrw q2 q3 nS hblk hmine
      have hcp : costP ⟨nm, hd, as_⟩ data = cost (lvsFrom vq data as_) [] := by unfold costP; rw [HVQ.out]
      have HCP := hide hcp
      have g9 : W3.cell? ⟨D.gw, 9, none⟩ = some (.int .i64 (cost (lvsFrom vq data as_) [])) := p4.out.cell 9
      have ga0 : W3.cell? ⟨ga, 0, none⟩ = some (.slice A' lvl.length c') := p1.out.cell 0
      generalize cost (lvsFrom vq data as_) [] = cst at *
      generalize hans : ansP ⟨nm, hd, as_⟩ data = ans at *
      have HANS := hide hans; clear hans
      go_wp2_with fail
      have HAR2 := hide (fun wx (hx : Ext W3 wx) => (HAR.out wx hx).mono (R' := fun e w' => ∃ v, e = .returned v ∧ ∃ A2 c2 cells, v = .slice A2 ans.length c2 ∧ w'.ownsRow W3.heap.size 35 1 (.slice A2 ans.length c2) ans.length cells ∧ Els (RMine W3.heap.size) 1 w' cells ans ∧ Ext wx w') fun e w' ⟨A2, n2, c2, cells, h0, h1, h2, h3, h4⟩ => by
        subst h1
        exact ⟨_, h0, A2, c2, cells, rfl, mine_base h2 hx.size, h3.mono fun cs r hr => hr.base hx.size, h4⟩)
      have hwa : ¬ D.gw = ga := fun e => (HAW.out _ (.inl rfl)).2.2 e
      have hga3 : ga < W3.heap.size := p1.out.lt
      have hgw3 : D.gw < W3.heap.size := p4.out.lt
      clear HAR
      refine wp_region_noPanic ?_
      go_region_law
        (refine step_calls (by rfl) (by kernel_rfl) (HAR2.out _ (Ext.drew _)) ?_; rintro v w5 ⟨A2, c9, cells9, rfl, hO9, hEl9, x9⟩; have X9 := hide ((Ext.drew W3).trans x9); have HO9 := hide hO9; have HEL9 := hide hEl9; clear x9 hO9 hEl9; have y1 := X9.out.cell ga0; have y2 := X9.out.cell g9; have y3 := (p1.out.ext X9.out).frozen 0; have y4 := (p2.out.ext X9.out).cell 0; have y5 := (p2.out.ext X9.out).frozen 0; have y6 := (p3.out.ext X9.out).cell 0; have y7 := (p3.out.ext X9.out).frozen 0)
      all_goals
        refine NoPanic.normal ?_
        clear y1 y2 y4 y6
        simp only [Exit.then]
        go_wp2_with fail
        have hmk := hide ((X9.out.block (Array.getElem?_eq_some_iff.1 hmk9.out).1).trans hmk9.out)
        have q1 := p1.out.ext X9.out; have q2 := p2.out.ext X9.out; have q3 := p3.out.ext X9.out
        obtain ⟨m2, m3, m1⟩ := hN123.out
        refine door_ok (d := w6.heap.size) (ga := ga) (gt := gt) (ge := ge) (mark_end hmk.out m1 m2 m3) ?_
        obtain ⟨r0, r1', r2'⟩ := blks_end (d := w6.heap.size) (o := .deferred none) (ua := .slice A2 ans.length c9) (ut := .int .i64 cst) (ue := .int .i64 0) q1 q2 q3 n1 n2 n3 m1 m2 m3
        have z0 := r0.cell 0
        have z1 := r1'.cell 0
        have z2 := r2'.cell 0
        refine ⟨.tuple #[.slice A2 ans.length c9, .int .i64 cst, .int .i64 0], by simp [results, Try.results42, go_sem, z0, z1, z2], ?_⟩
        have hcol : collectP ⟨nm, hd, as_⟩ data = (ans, cst, 0) := by
          unfold collectP
          rw [if_pos HSQ.out, if_pos (by rw [HCP.out]; exact hc'), HANS.out, HCP.out]
        rw [hcol]
        have hex : Ext w W3 := by
          have h1 : Fr (fun g => D.S4 g ∨ g = w6.heap.size + 1 ∨ g = ga) w W3 := (Fr.of_ext (HX3.out.trans hE0.out)).fq' HFQ3.out (by have := (HX3.out.trans hE0.out).size; omega)
          refine h1.out fun g hg => ?_
          have := X4.out.size
          rcases hg with hg | hg | hg
          · have := HS4.out g hg; omega
          · omega
          · omega
        have hw3 : w6.heap.size < W3.heap.size := (Array.getElem?_eq_some_iff.1 hmk9.out).1
        exact ⟨A2, c9, cells9, rfl, mine_base (own_end HO9.out q1 q2 q3 n1 n2 n3 hw3 (by decide) (by decide) (by decide)) hex.size, HEL9.out.mono fun cs r hr => (rmine_end hr q1 q2 q3 n1 n2 n3 hw3).base hex.size,
          ext_end (hex.trans X9.out) (by omega) (by omega) (by omega) (by omega)⟩
    · have hc' : ¬ cost (lvsFrom vq data as_) [] ≤ 131072 := Nat.not_le.2 hc
      have hcp : costP ⟨nm, hd, as_⟩ data = cost (lvsFrom vq data as_) [] := by unfold costP; rw [HVQ.out]
      have hcol : collectP ⟨nm, hd, as_⟩ data = ([], 0, 120) := by
        unfold collectP
        rw [if_pos HSQ.out, if_neg (by rw [hcp]; exact hc')]
      rw [hcol]
      obtain ⟨A', c', hblk, hmine⟩ := hj9.out
      have hE0 := hide ((X34.out.trans X5.out).trans (hx6.out.trans r3))
      have htl : gt < v3.heap.size := HP2.out.lt
      have hel : ge < v3.heap.size := HP3.out.lt
      have nS : ∀ g, g < v3.heap.size → g ≠ ga → ¬ (D.S4 g ∨ (g = w6.heap.size + 1 ∨ g = ga)) := fun g hg hne hs => by
        rcases hs with hs | hs | hs
        · have := HS4.out g hs; omega
        · omega
        · exact hne hs
      obtain ⟨-, hgt9, hge9, n1, n2, n3⟩ := N123.out
      have q2 := ((HP2.out.ext hE0.out).fq hFq (nS gt htl (Ne.symm n1)) (.inr (by decide)))
      have q3 := ((HP3.out.ext hE0.out).fq hFq (nS ge hel (Ne.symm n2)) (.inr (by decide)))
      have hex : Ext w W2 := by
        have h1 : Fr (fun g => D.S4 g ∨ g = w6.heap.size + 1 ∨ g = ga) w W2 := (Fr.of_ext (HX3.out.trans hE0.out)).fq' hFq (by have := (HX3.out.trans hE0.out).size; omega)
        refine h1.out fun g hg => ?_
        have := X4.out.size
        rcases hg with hg | hg | hg
        · have := HS4.out g hg; omega
        · omega
        · omega
      refine door_err (d := w6.heap.size) hj9.mark hblk q2 q3 n1 n2 n3 (by omega) (by omega) (by omega) ?_
      intro w1 hw1 g1 g2 g3
      have z0 := g1.cell 0
      have z1 := g2.cell 0
      have z2 := g3.cell 0
      refine ⟨.tuple #[.slice none 0 0, .int .i64 0, .int .i64 120], by simp [results, Try.results42, go_sem, z0, z1, z2], none, 0, [], rfl, World.ownsRow_nil _ _ _ _, .nil, ?_⟩
      have hF : Fr (fun g => w.heap.size ≤ g) w (((w1.setCell ⟨ga, 0, none⟩ (.slice none 0 0)).setCell ⟨gt, 0, none⟩ (.int .i64 0)).setCell ⟨ge, 0, none⟩ (.int .i64 120)) :=
        (((((Fr.of_ext hex).putObj (l := w6.heap.size) (o := .deferred none) (.inl (by omega))).ext hw1).setCell (p := ⟨ga, 0, none⟩) (.inl (by simp only; omega)) _).setCell (p := ⟨gt, 0, none⟩) (.inl (by simp only; omega)) _).setCell (p := ⟨ge, 0, none⟩) (.inl (by simp only; omega)) _
      exact hF.out fun _ h => h
  · have hcol : collectP ⟨nm, hd, as_⟩ data = ([], 0, sq) := by
      unfold collectP
      rw [if_neg (by rw [hsq]; exact h0), hsq]
    have HCOL := hide hcol
    have hne : (sq != 0) = true := by simpa using h0
    obtain ⟨hga9, hgt9, hge9, n1, n2, n3⟩ := N123.out
    have hgq9 := HGQ.out
    have HSQ := hide hsq
    clear hsq hcol
    go_wp2_with ((with_reducible refine HS3.out.mono ?_); clear HS3; rintro e w4 ⟨rfl, x4⟩; have X4 := hide (HX3.out.trans x4); have HP4 := hide (HP1.out.ext x4); have HP5 := hide (HP2.out.ext x4); have HP6 := hide (HP3.out.ext x4); have y1 := HP4.out.cell 0; have y2 := HP4.out.frozen 0; have y3 := HP5.out.cell 0; have y4 := HP5.out.frozen 0; have y5 := HP6.out.cell 0; have y6 := HP6.out.frozen 0; clear x4)
    have z0 := ((HP4.out.set_ 0 (.slice none 0 0)).far (p := ⟨gt, 0, none⟩) n1 (.int .i64 0)).far (p := ⟨ge, 0, none⟩) n2 (.int .i64 sq)
    have z1 := ((HP5.out.far (p := ⟨ga, 0, none⟩) (Ne.symm n1) (.slice none 0 0)).set_ 0 (.int .i64 0)).far (p := ⟨ge, 0, none⟩) n3 (.int .i64 sq)
    have z2 := ((HP6.out.far (p := ⟨ga, 0, none⟩) (Ne.symm n2) (.slice none 0 0)).far (p := ⟨gt, 0, none⟩) (Ne.symm n3) (.int .i64 0)).set_ 0 (.int .i64 sq)
    have z0 := z0.cell 0
    have z1 := z1.cell 0
    have z2 := z2.cell 0
    show ∃ v, (results _ _).run _ _ = .ok v _ ∧ RetC _ _ (.returned v) _
    rw [HCOL.out]
    refine ⟨.tuple #[.slice none 0 0, .int .i64 0, .int .i64 sq], by simp [results, Try.results42, go_sem, z0, z1, z2], none, 0, [], rfl, World.ownsRow_nil _ _ _ _, .nil, ?_⟩
    have hF : Fr (fun g => w.heap.size ≤ g) w (((w4.setCell ⟨ga, 0, none⟩ (.slice none 0 0)).setCell ⟨gt, 0, none⟩ (.int .i64 0)).setCell ⟨ge, 0, none⟩ (.int .i64 sq)) :=
      (((Fr.of_ext X4.out).setCell (p := ⟨ga, 0, none⟩) (.inl (by simp only; omega)) _).setCell (p := ⟨gt, 0, none⟩) (.inl (by simp only; omega)) _).setCell (p := ⟨ge, 0, none⟩) (.inl (by simp only; omega)) _
    exact hF.out fun _ h => h
end Go.Proofs.Ytpfjkjmimmklcaa

namespace Go.Proofs.Ytpfjkjmimmklcaa
open Go.RowKit

/-- rows of the call's own, and an error -/
def RetE (w0 : World) (v : List (List V) × Int) (en : Ending) (w' : World) : Prop :=
  ∃ A c cells, en = .returned (.tuple #[.slice A v.1.length c, .int .i64 v.2]) ∧ w'.ownsRow w0.heap.size 35 1 (.slice A v.1.length c) v.1.length cells ∧ Els (RMine w0.heap.size) 1 w' cells v.1 ∧ Ext w0 w'
theorem RetE.none {w0 w' : World} {e : Int} (h : Ext w0 w') : RetE w0 ([], e) (.returned (.tuple #[.slice .none 0 0, .int .i64 e])) w' := ⟨.none, 0, [], rfl, World.ownsRow_nil _ _ _ _, .nil, h⟩
def answersP (q : Qy) (data : List Tbl) (most : Int) : List (List V) × Int :=
  if shapeQ q = 0 then (if most < 0 then ([], 50) else if costP q data ≤ 131072 then (if most < (ansP q data).length then ([], 121) else (ansP q data, 0)) else ([], 120)) else ([], shapeQ q)

set_option maxRecDepth 100000 in
set_option maxHeartbeats 1000000 in
theorem answers_any (q : Qy) (L : QLoc) (data : List Tbl) (B : Option Addr) (m c : Nat) (most : Int) (w : World) (hq : QAt w L q) (hM : smallM 1048576 q) (hb : LAt RB 2 w B m data) (hm : m ≤ 1048576) (hsum : (data.flatMap Tbl.rows).length ≤ 1099511627776)
    (hrow : ∀ t ∈ data, ∀ r ∈ t.rows, r.length ≤ 1048576) :
    Calls Try.prog 13 #[qval q.name L, .slice B m c, .int .i64 most] w (RetE w (answersP q data most)) := by
  obtain ⟨nm, hd, as_⟩ := q
  obtain ⟨A, n, cA, AB, k, d⟩ := L
  simp only [qval]
  have HS := hide (fun w1 (h1 : Ext w w1) => query_shape ⟨nm, hd, as_⟩ ⟨A, n, cA, AB, k, d⟩ w1 (hq.ext h1) hM)
  have HC := hide (fun w1 (h1 : Ext w w1) => collect_any ⟨nm, hd, as_⟩ ⟨A, n, cA, AB, k, d⟩ data B m c w1 (hq.ext h1) hM (hb.ext RB.stab h1) hm hsum hrow)
  simp only [qval] at HS HC
  have HX := hide (Ext.alloc w (.cells #[.string nm, .slice A n cA, .slice AB k d] 25))
  have HP := hide (Blk.new w 25 #[.string nm, .slice A n cA, .slice AB k d])
  clear hq hM hb hsum hrow
  have HS1 := hide (HS.out _ HX.out)
  generalize han9 : answersP ⟨nm, hd, as_⟩ data most = an
  generalize hco9 : collectP ⟨nm, hd, as_⟩ data = co at HC
  unfold answersP at han9
  unfold collectP at hco9
  have HAN := hide han9.symm; have HCO := hide hco9.symm
  clear han9 hco9
  generalize shapeQ ⟨nm, hd, as_⟩ = sq at *
  generalize costP ⟨nm, hd, as_⟩ data = cst at *
  generalize ansP ⟨nm, hd, as_⟩ data = ans at *
  go_enter Try.func13, Try.ntmps13
  go_upto_region 1 with fail
  generalize w.alloc (.cells #[.string nm, .slice A n cA, .slice AB k d] 25) = w1 at *
  have b0 := HP.out.cell 0
  have b1 := HP.out.cell 1
  have b2 := HP.out.cell 2
  by_cases h0 : sq = 0
  · subst h0
    have han := HAN.out
    rw [if_pos rfl] at han
    by_cases hmo : most < 0
    · rw [if_pos hmo] at han
      subst han
      go_wp2_with ((with_reducible refine HS1.out.mono ?_); rintro e w4 ⟨rfl, x4⟩; have X4 := hide (HX.out.trans x4); clear x4)
      go_ret2
      exact RetE.none X4.out
    · rw [if_neg hmo] at han
      have hco := HCO.out
      rw [if_pos rfl] at hco
      by_cases hcs : cst ≤ 131072
      · rw [if_pos hcs] at han hco
        subst hco
        by_cases hle : most < (ans.length : Int)
        · rw [if_pos hle] at han
          subst han
          go_wp2_with (first
            | ((with_reducible refine HS1.out.mono ?_); clear HS1; rintro e w4 ⟨rfl, x4⟩; have X4 := hide (HX.out.trans x4); have HP4 := hide (HP.out.ext x4); have c0 := HP4.out.cell 0; have c1 := HP4.out.cell 1; have c2 := HP4.out.cell 2; clear x4)
            | ((with_reducible refine (HC.out _ X4.out).mono ?_); rintro e w5 ⟨A5, c5, cells5, rfl, o5, e5, x5⟩; have X5 := hide (X4.out.trans x5); clear o5 e5 x5))
          go_ret2
          exact RetE.none X5.out
        · rw [if_neg hle] at han
          subst han
          go_wp2_with (first
            | ((with_reducible refine HS1.out.mono ?_); clear HS1; rintro e w4 ⟨rfl, x4⟩; have X4 := hide (HX.out.trans x4); have HP4 := hide (HP.out.ext x4); have c0 := HP4.out.cell 0; have c1 := HP4.out.cell 1; have c2 := HP4.out.cell 2; clear x4)
            | ((with_reducible refine (HC.out _ X4.out).mono ?_); rintro e w5 ⟨A5, c5, cells5, rfl, o5, e5, x5⟩; have X5 := hide x5; have O5 := hide o5; have E5 := hide e5; clear o5 e5 x5))
          go_ret2
          exact ⟨A5, c5, cells5, rfl, mine_base O5.out X4.out.size, E5.out.mono fun cs r hr => hr.base X4.out.size, X4.out.trans X5.out⟩
      · rw [if_neg hcs] at han hco
        subst hco han
        go_wp2_with (first
          | ((with_reducible refine HS1.out.mono ?_); clear HS1; rintro e w4 ⟨rfl, x4⟩; have X4 := hide (HX.out.trans x4); have HP4 := hide (HP.out.ext x4); have c0 := HP4.out.cell 0; have c1 := HP4.out.cell 1; have c2 := HP4.out.cell 2; clear x4)
          | ((with_reducible refine (HC.out _ X4.out).mono ?_); rintro e w5 ⟨A5, c5, cells5, rfl, o5, e5, x5⟩; have X5 := hide (X4.out.trans x5); clear o5 e5 x5))
        go_ret2
        exact RetE.none X5.out
  · have han := HAN.out
    rw [if_neg h0] at han
    subst han
    have hne : (sq != 0) = true := by simpa using h0
    go_wp2_with ((with_reducible refine HS1.out.mono ?_); rintro e w4 ⟨rfl, x4⟩; have X4 := hide (HX.out.trans x4); clear x4)
    go_ret2
    exact RetE.none X4.out

set_option maxRecDepth 100000 in
/-- how many answers, how many trials -/
theorem count_any (q : Qy) (L : QLoc) (data : List Tbl) (B : Option Addr) (m c : Nat) (w : World) (hq : QAt w L q) (hM : smallM 1048576 q) (hb : LAt RB 2 w B m data) (hm : m ≤ 1048576) (hsum : (data.flatMap Tbl.rows).length ≤ 1099511627776)
    (hrow : ∀ t ∈ data, ∀ r ∈ t.rows, r.length ≤ 1048576) :
    Calls Try.prog 28 #[qval q.name L, .slice B m c] w fun e w' => e = .returned (.tuple #[.int .i64 (collectP q data).1.length, .int .i64 (collectP q data).2.1, .int .i64 (collectP q data).2.2]) ∧ Ext w w' := by
  obtain ⟨nm, hd, as_⟩ := q
  obtain ⟨A, n, cA, AB, k, d⟩ := L
  simp only [qval]
  have HC := hide (fun w1 (h1 : Ext w w1) => collect_any ⟨nm, hd, as_⟩ ⟨A, n, cA, AB, k, d⟩ data B m c w1 (hq.ext h1) hM (hb.ext RB.stab h1) hm hsum hrow)
  simp only [qval] at HC
  have HX := hide (Ext.alloc w (.cells #[.string nm, .slice A n cA, .slice AB k d] 25))
  have HC1 := hide (HC.out _ HX.out)
  clear hq hM hb hsum hrow
  generalize collectP ⟨nm, hd, as_⟩ data = co at *
  go_enter Try.func28, Try.ntmps28
  go_wp2_with ((with_reducible refine HC1.out.mono ?_); rintro e w5 ⟨A5, c5, cells5, rfl, o5, e5, x5⟩; have X5 := hide (HX.out.trans x5); clear o5 e5 x5)
  go_ret3
  exact ⟨rfl, X5.out⟩
end Go.Proofs.Ytpfjkjmimmklcaa

namespace Go.Proofs.Ytpfjkjmimmklcaa
open Go.RowKit

/-- a table of the call's own -/
def RBM (base : Nat) : World → List Value → Tbl → Prop := fun w cs t => ∃ A n c cells, cs = [.string t.rel, .slice A n c] ∧ n = t.rows.length ∧ w.ownsRow base 35 1 (.slice A n c) n cells ∧ Els (RMine base) 1 w cells t.rows
theorem RBM.tab {base : Nat} {w : World} {cs : List Value} {t : Tbl} (h : RBM base w cs t) : RB w cs t := by
  obtain ⟨A, n, c, cells, h1, h2, h3, h4⟩ := h
  exact ⟨A, n, c, h1, mine_lat h2 h3 h4⟩
theorem RBM.stab (base : Nat) : Stab (RBM base) := fun _ _ _ _ hw ⟨A, n, c, cells, h1, h2, h3, h4⟩ => ⟨A, n, c, cells, h1, h2, mine_ext h3 hw, h4.ext (RMine.stab _) hw⟩
theorem RBM.set_ {b g : Nat} {w : World} {t : TypeId} {ds : Array Value} {cs : List Value} {x : Tbl} (h : RBM b w cs x) (hb : Blk w g t ds) (hne : 58 ≠ t) (hne2 : 35 ≠ t) (j : Nat) (u : Value) : RBM b (w.setCell ⟨g, j, none⟩ u) cs x := by
  obtain ⟨A, n, c, cells, h1, h2, h3, h4⟩ := h
  exact ⟨A, n, c, cells, h1, h2, mine_set h3 hb hne2 j u, h4.mono fun _ _ hx => hx.set_ hb hne j u⟩
theorem RBM.base {b b' : Nat} {w : World} {cs : List Value} {x : Tbl} (h : RBM b' w cs x) (hb : b ≤ b') : RBM b w cs x := by
  obtain ⟨A, n, c, cells, h1, h2, h3, h4⟩ := h
  exact ⟨A, n, c, cells, h1, h2, mine_base h3 hb, h4.mono fun _ _ hx => hx.base hb⟩
/-- tables of the call's own are handed back -/
def RetTabs (w0 : World) (data : List Tbl) (en : Ending) (w' : World) : Prop :=
  ∃ A n c cells, en = .returned (.slice A n c) ∧ n = data.length ∧ w'.ownsRow w0.heap.size 43 2 (.slice A n c) n cells ∧ Els (RBM w0.heap.size) 2 w' cells data ∧ Ext w0 w'
theorem tabs_lat {base : Nat} {w : World} {A : Option Addr} {n c : Nat} {cells : List Value} {data : List Tbl} (hn : n = data.length) (ho : w.ownsRow base 43 2 (.slice A n c) n cells) (he : Els (RBM base) 2 w cells data) : LAt RB 2 w A n data :=
  LAt.own hn (he.mono fun _ _ h => h.tab) ho
theorem infoTb : (Try.prog.info? 43).map (fun i => (i.zero, i.size, i.bytes)) = some (some (.agg #[.string .empty, .slice none 0 0]), 2, 40) := by kernel_rfl
def zeroB (n : Nat) : List Value := (List.replicate n [Value.string .empty, Value.slice none 0 0]).flatten
theorem zeroB_succ (n : Nat) : zeroB (n + 1) = Value.string .empty :: Value.slice none 0 0 :: zeroB n := by simp [zeroB, List.replicate_succ]
theorem zeroB_made (n : Nat) : madeCells #[Value.string .empty, Value.slice none 0 0] (n * 2) = (zeroB n).toArray := by
  have h : ∀ m, (madeCells #[Value.string .empty, Value.slice none 0 0] (m * 2)).toList = zeroB m := by
    intro m
    induction m with
    | zero => simp [madeCells, zeroB]
    | succ m ih =>
      rw [zeroB, List.replicate_succ', List.flatten_append]
      rw [zeroB] at ih
      rw [← ih]
      unfold madeCells
      simp only [Array.toList_map, Array.toList_range, Nat.succ_mul, List.range_succ, List.map_append, List.map_cons, List.map_nil]
      simp [List.append_assoc, Nat.add_mod]
  rw [← h n]

/-- a block of tables that is being filled from its head on -/
structure CpT (w0 w : World) (g : Nat) (data : List Tbl) (n i : Nat) : Prop where
  blk : ∃ cs : List Value, cs.length = i * 2 ∧ Blk w g 43 (cs ++ zeroB (n - i)).toArray ∧ Els (RBM w0.heap.size) 2 w cs (data.take i)
  ext : Ext w0 w
theorem CpT.go {w0 w w' : World} {g n i : Nat} {data : List Tbl} (h : CpT w0 w g data n i) (hw : Ext w w') : CpT w0 w' g data n i := by
  obtain ⟨cs, h1, h2, h3⟩ := h.blk
  exact ⟨⟨cs, h1, h2.ext hw, h3.ext (RBM.stab _) hw⟩, h.ext.trans hw⟩
theorem CpT.at_ {w0 w : World} {g n i : Nat} {data : List Tbl} (h : CpT w0 w g data n i) (hi : i < n) :
    w.cell? ⟨g, i * 2, none⟩ = some (.string .empty) ∧ w.cell? ⟨g, i * 2 + 1, none⟩ = some (.slice none 0 0) ∧ w.frozen? ⟨g, i * 2, none⟩ = false ∧ w.frozen? ⟨g, i * 2 + 1, none⟩ = false := by
  obtain ⟨cs, h1, h2, _⟩ := h.blk
  refine ⟨?_, ?_, h2.frozen _, h2.frozen _⟩
  · rw [h2.cell, ← h1, show n - i = (n - i - 1) + 1 by omega, zeroB_succ]
    simp
  · rw [h2.cell, ← h1, show n - i = (n - i - 1) + 1 by omega, zeroB_succ]
    simp
theorem CpT.put {w0 w : World} {g n i : Nat} {data : List Tbl} {t : Tbl} {A : Option Addr} {k c : Nat} {cells : List Value} (h : CpT w0 w g data n i) (hi : i < n) (ht : data[i]? = some t) (hg : w0.heap.size ≤ g)
    (hk : k = t.rows.length) (ho : w.ownsRow w0.heap.size 35 1 (.slice A k c) k cells) (he : Els (RMine w0.heap.size) 1 w cells t.rows) :
    CpT w0 ((w.setCell ⟨g, i * 2, none⟩ (.string t.rel)).setCell ⟨g, i * 2 + 1, none⟩ (.slice A k c)) g data n (i + 1) := by
  obtain ⟨cs, h1, h2, h3⟩ := h.blk
  have e : data.take (i + 1) = data.take i ++ [t] := by rw [List.take_add_one, ht]; rfl
  have b1 := h2.set_ (i * 2) (.string t.rel)
  have hR : RBM w0.heap.size w [.string t.rel, .slice A k c] t := ⟨A, k, c, cells, rfl, hk, ho, he⟩
  refine ⟨⟨cs ++ [.string t.rel, .slice A k c], by simp [h1]; omega, ?_, ?_⟩, (h.ext.setCell (p := ⟨g, i * 2, none⟩) hg _).setCell (p := ⟨g, i * 2 + 1, none⟩) hg _⟩
  · have h5 := b1.set_ (i * 2 + 1) (.slice A k c)
    rw [List.setIfInBounds_toArray, List.setIfInBounds_toArray, ← h1, show n - i = (n - (i + 1)) + 1 by omega, zeroB_succ] at h5
    rw [← h1]
    simpa [List.set_append] using h5
  · rw [e]
    refine Els.snoc ((h3.mono fun _ _ hx => hx.set_ h2 (by decide) (by decide) _ _).mono fun _ _ hx => hx.set_ b1 (by decide) (by decide) _ _) rfl ?_ ((hR.set_ h2 (by decide) (by decide) _ _).set_ b1 (by decide) (by decide) _ _)
    intro v hv
    simp only [List.mem_cons, List.not_mem_nil, or_false] at hv
    rcases hv with rfl | rfl <;> rfl
theorem CpT.done {w0 w : World} {g n : Nat} {data : List Tbl} (h : CpT w0 w g data n n) (hn : n = data.length) (hm : n ≤ maxLen) (hg : w0.heap.size ≤ g) : RetTabs w0 data (.returned (.slice (some ⟨g, 0, none⟩) n n)) w := by
  obtain ⟨cs, h1, h2, h3⟩ := h.blk
  rw [Nat.sub_self] at h2
  simp only [zeroB, List.replicate_zero, List.flatten_nil, List.append_nil] at h2
  rw [List.take_of_length_le (by omega)] at h3
  exact ⟨_, _, _, cs, rfl, hn, ⟨by omega, .inr ⟨g, n, _, rfl, hg, h2, Nat.le_refl _, hm, by simp [h1], List.take_of_length_le (by simp [h1])⟩⟩, h3, h.ext⟩

def TbR (base k : Nat) (rows : List (List V)) (u : Value) (w : World) : Prop := ∃ A c cells, u = .slice A k c ∧ w.ownsRow base 35 1 (.slice A k c) k cells ∧ Els (RMine base) 1 w cells rows
theorem TbR.ext {base k : Nat} {rows : List (List V)} {u : Value} {w w' : World} (h : TbR base k rows u w) (hw : Ext w w') : TbR base k rows u w' := by
  obtain ⟨A, c, cells, h1, h2, h3⟩ := h
  exact ⟨A, c, cells, h1, mine_ext h2 hw, h3.ext (RMine.stab _) hw⟩
def TbA (base k : Nat) (rel : ByteArray) (rows : List (List V)) (u : Value) (w : World) : Prop := ∃ A c cells, u = .agg #[.string rel, .slice A k c] ∧ w.ownsRow base 35 1 (.slice A k c) k cells ∧ Els (RMine base) 1 w cells rows
theorem TbA.ext {base k : Nat} {rel : ByteArray} {rows : List (List V)} {u : Value} {w w' : World} (h : TbA base k rel rows u w) (hw : Ext w w') : TbA base k rel rows u w' := by
  obtain ⟨A, c, cells, h1, h2, h3⟩ := h
  exact ⟨A, c, cells, h1, mine_ext h2 hw, h3.ext (RMine.stab _) hw⟩
set_option maxRecDepth 100000 in
theorem copy_tabs (data : List Tbl) (A : Option Addr) (n c : Nat) (w : World) (ha : LAt RB 2 w A n data) (hn : n ≤ 16777216) (hr : ∀ t ∈ data, t.rows.length ≤ 16777216 ∧ ∀ r ∈ t.rows, r.length ≤ 16777216) :
    Calls Try.prog 15 #[.slice A n c] w (RetTabs w data) := by
  obtain ⟨i0, hi0, hz0, hz1, hz2⟩ := info_parts infoTb
  have hmk := run_make_n (P := Try.prog) 26 43 i0 _ Try.underlying26 hi0 hz0 (by omega) .i64 .i64 n hn
  simp only [hz1, Value.cells] at hmk
  have Ha := hide ha; have Hr := hide hr; have Hl := hide ha.len
  clear ha hr hz1 hz2 hz0 hi0
  have HI0 := hide (show CpT w (w.alloc (.cells (madeCells #[Value.string .empty, Value.slice none 0 0] (n * 2)) 43)) w.heap.size data n 0 from by
    refine ⟨⟨[], rfl, ?_, by simpa using Els.nil⟩, Ext.alloc _ _⟩
    have h := Blk.new w 43 (madeCells #[Value.string .empty, Value.slice none 0 0] (n * 2))
    rw [zeroB_made] at h ⊢
    exact h)
  go_enter Try.func15, Try.ntmps15
  go_wp2_with fail
  generalize hW : w.alloc (.cells (madeCells #[Value.string .empty, Value.slice none 0 0] (n * 2)) 43) = W1 at *
  clear hW
  go_loopw [4] (fun s4 w' => ∃ i : Nat, i ≤ n ∧ s4 = .int .i64 i ∧ Hid (CpT w w' w.heap.size data n i)) (fun s4 _ => n - (intOf s4).toNat)
  case atStart => exact ⟨0, by omega, rfl, HI0.out⟩
  case round =>
    obtain ⟨i, hin, rfl, hI⟩ := hrel
    by_cases h : i < n
    · obtain ⟨b, off, t, A9, n9, c9, rfl, hx, hb1, d0, d1, hR⟩ := (Ha.out.ext RB.stab hI.out.ext).tab_ h
      have Hrt := hide (Hr.out t (List.mem_of_getElem? hx))
      have HCP := hide (fun w1 (h1 : Ext wr w1) => copy_all t.rows A9 n9 c9 w1 (hR.ext RRow.stab h1) (by have := Hrt.out.1; have := hR.len; omega) (fun r hr => Hrt.out.2 r hr))
      have Hx := hide hx
      have HH := hide h
      have Hn9 := hide hR.len
      clear hx hb1 hR
      go_upto_region 5 with fail
      have k0 := cell_ext d0
      have k1 := cell_ext d1
      clear d0 d1
      refine wp_region_ext 15 (by kernel_rfl) (by kernel_rfl) (by kernel_rfl) ?_
      iterate 12
        refine wpE_k (by kernel_rfl) (by kernel_rfl) ?_
        apply Exists.intro
        refine ⟨fun w1 hw1 => ?_, fun K hK => ?_⟩
        · go_simp; first | done | rfl
        go_simp; refine hK _ _ ?_; clear hK K
      refine wpE_p [] (TbR w.heap.size n9 t.rows) (fun u w1 w2 _ h2 h => h.ext h2) rfl (by kernel_rfl) (fun w1 hw1 => ?_) ?_
      · simp only [LookQ]
        clear k0 k1
        go_simp
        refine ⟨Ext.refl _, (HCP.out w1 hw1).mono ?_⟩
        rintro e w5 ⟨A5, n5, c5, cells, rfl, h5, h6, h7, h8⟩
        obtain rfl : n5 = n9 := h5.trans Hn9.out.symm
        have hb := (hI.out.ext.trans hw1).size
        exact ⟨_, rfl, h8, A5, c5, cells, rfl, mine_base h6 hb, h7.mono fun _ _ hx => hx.base hb⟩
      refine wpE_p [26] (TbA w.heap.size n9 t.rel t.rows) (fun u w1 w2 _ h2 h => h.ext h2) rfl (by kernel_rfl) (fun w1 hw1 => ?_) ?_
      · simp only [LookQ]
        intro u hu
        obtain ⟨A5, c5, cells, rfl, h1, h2⟩ := hu _ rfl
        clear k0 k1 hu
        go_simp
        exact ⟨Ext.refl _, A5, c5, cells, rfl, h1, h2⟩
      iterate 1
        refine wpE_k (by kernel_rfl) (by kernel_rfl) ?_
        apply Exists.intro
        refine ⟨fun w1 hw1 => ?_, fun K hK => ?_⟩
        · go_simp; first | done | rfl
        go_simp; refine hK _ _ ?_; clear hK K
      refine wpE_nil ⟨rfl, by kernel_rfl, fun wq hwq => ?_⟩
      simp only [EndQ]
      rintro _ ⟨A5, c5, cells, rfl, h5, h6⟩ _ _
      clear k0 k1
      simp only [List.drop]
      have HIq := hide (hI.out.go hwq)
      have H5 := hide h5
      have H6 := hide h6
      clear h5 h6 hwq
      obtain ⟨c0, c1, f0, f1⟩ := HIq.out.at_ HH.out
      go_wp2_with fail
      go_roundw
      case rel => exact ⟨i + 1, by omega, by go_num, HIq.out.put HH.out Hx.out (Nat.le_refl _) Hn9.out H5.out H6.out⟩
      case measure => simp [intOf]; omega
    · obtain rfl : i = n := by omega
      have hfin := hide (hI.out.done Hl.out (by unfold maxLen; omega) (Nat.le_refl _))
      go_wp2_with fail
      go_ret
      exact hfin.out
end Go.Proofs.Ytpfjkjmimmklcaa

namespace Go.Proofs.Ytpfjkjmimmklcaa
open Go.RowKit

/-- a row is an answer just if a valuation of all variables gives it -/
theorem mem_ans {q : Qy} (hq : Shaped q) {data : List Tbl} {x : List V} : x ∈ ansP q data ↔ ∃ σ : Sig, (∀ a ∈ q.atoms, a.terms.map (valT σ) ∈ rowsOfP data a.rel) ∧ x = q.head.map σ := by
  have hl := fun v => leaves_iff (varsQ q) data q.atoms [] [] [] v (by rw [← varsQ_flat, List.append_nil]) rfl .nil
  rw [← varsQ_flat] at hl
  have hh : ∀ σ : Sig, headV (q.head.map (atN (varsQ q))) ((varsQ q).map σ) = q.head.map σ := fun σ => by
    unfold headV
    rw [List.map_map]
    refine List.map_congr_left fun y hy => ?_
    show ((varsQ q).map σ).getD (atN (varsQ q) y) zeroV = σ y
    rw [List.getD_eq_getElem?_getD, map_at σ (mem_vars.2 (hq.safe y hy))]
    rfl
  unfold ansP
  rw [mem_arr, List.mem_map]
  constructor
  · rintro ⟨v, hv, rfl⟩
    obtain ⟨σ, -, h2, rfl⟩ := (hl v).1 hv
    exact ⟨σ, h2, hh σ⟩
  · rintro ⟨σ, h2, rfl⟩
    exact ⟨(varsQ q).map σ, (hl _).2 ⟨σ, rfl, h2, rfl⟩, hh σ⟩
theorem rises_ans (q : Qy) (data : List Tbl) : Rises (ansP q data) := rises_arr _
theorem rowsOfP_append (data more : List Tbl) (rel : ByteArray) : rowsOfP (data ++ more) rel = rowsOfP data rel ++ rowsOfP more rel := by simp [rowsOfP]
theorem more_ans {q : Qy} (hq : Shaped q) (data more : List Tbl) : ∀ x ∈ ansP q data, x ∈ ansP q (data ++ more) := fun x hx => by
  obtain ⟨σ, h1, h2⟩ := (mem_ans hq).1 hx
  exact (mem_ans hq).2 ⟨σ, fun a ha => by rw [rowsOfP_append]; exact List.mem_append_left _ (h1 a ha), h2⟩
/-- the answers and the error's number: when there is none -/
theorem answersP_ok {q : Qy} {data : List Tbl} {most : Int} (h : (answersP q data most).2 = 0) : (answersP q data most).1 = ansP q data ∧ Shaped q := by
  unfold answersP at h ⊢
  by_cases h1 : shapeQ q = 0
  · rw [if_pos h1] at h ⊢
    by_cases h2 : most < 0
    · rw [if_pos h2] at h; simp at h
    · rw [if_neg h2] at h ⊢
      by_cases h3 : costP q data ≤ 131072
      · rw [if_pos h3] at h ⊢
        by_cases h4 : most < (ansP q data).length
        · rw [if_pos h4] at h; simp at h
        · rw [if_neg h4]; exact ⟨rfl, shapeQ_iff.1 h1⟩
      · rw [if_neg h3] at h; simp at h
  · rw [if_neg h1] at h
    exact absurd h h1

theorem answersP_len (q : Qy) (data : List Tbl) (most : Int) : ((answersP q data most).1.length : Int) ≤ max most 0 := by
  unfold answersP
  split
  · split
    · simp; omega
    · split
      · split
        · simp; omega
        · simp only; omega
      · simp; omega
  · simp; omega
theorem ans_row {q : Qy} {data : List Tbl} {x : List V} (h : x ∈ ansP q data) : x.length = q.head.length := by
  unfold ansP at h
  obtain ⟨v, -, rfl⟩ := List.mem_map.1 (mem_arr.1 h)
  simp [headV]
theorem answersP_row {q : Qy} {data : List Tbl} {most : Int} {x : List V} (h : x ∈ (answersP q data most).1) : x.length = q.head.length := by
  unfold answersP at h
  split at h
  · split at h
    · cases h
    · split at h
      · split at h
        · cases h
        · exact ans_row h
      · cases h
  · cases h
/-- how many rows of a are met, in their order, among the rows of b -/
def grd (a : List (List V)) : List (List V) → Nat → Nat
  | [], n => n
  | r :: b, n => grd a b (if (match a[n]? with | some y => sameR y r | none => false) then n + 1 else n)
theorem grd_snoc (a : List (List V)) (r : List V) : ∀ (b : List (List V)) (n : Nat), grd a (b ++ [r]) n = (if (match a[grd a b n]? with | some y => sameR y r | none => false) then grd a b n + 1 else grd a b n)
  | [], _ => rfl
  | _ :: b, _ => grd_snoc a r b _
theorem grd_le (a : List (List V)) : ∀ (b : List (List V)) (n : Nat), grd a b n ≤ n + b.length
  | [], n => by simp [grd]
  | r :: b, n => by
    rw [grd]
    refine Nat.le_trans (grd_le a b _) ?_
    have hc : ∀ c : Bool, (if c = true then n + 1 else n) ≤ n + 1 := fun c => by cases c <;> simp
    have := hc (match a[n]? with | some y => sameR y r | none => false)
    simp only [List.length_cons]
    omega
theorem grd_all {a : List (List V)} (ha : Rises a) : ∀ (b : List (List V)) (n : Nat), Rises b → n ≤ a.length → (∀ x ∈ a.drop n, x ∈ b) → grd a b n = a.length
  | [], n, _, hn, h => by
    cases hd : a.drop n with
    | nil =>
      have := List.drop_eq_nil_iff.1 hd
      rw [grd]; omega
    | cons y ys => rw [hd] at h; exact absurd (h y (by simp)) (by simp)
  | r :: b, n, hb, hn, h => by
    rw [grd]
    have hb' : Rises b := (List.pairwise_cons.1 hb).2
    by_cases hlt : n < a.length
    · have hd : a.drop n = a[n] :: a.drop (n + 1) := List.drop_eq_getElem_cons hlt
      have hra : Rises (a[n] :: a.drop (n + 1)) := by rw [← hd]; exact List.Pairwise.sublist (List.drop_sublist _ _) ha
      have hgt := (List.pairwise_cons.1 hra).1
      rw [List.getElem?_eq_getElem hlt]
      simp only
      by_cases hs : sameR a[n] r = true
      · rw [if_pos hs]
        have hr : a[n] = r := sameR_iff.1 hs
        refine grd_all ha b (n + 1) hb' (by omega) fun x hx => ?_
        have h1 := h x (by rw [hd]; exact List.mem_cons_of_mem _ hx)
        rcases List.mem_cons.1 h1 with h2 | h2
        · have := hgt x hx
          rw [h2, hr, cmpR_self] at this
          omega
        · exact h2
      · rw [if_neg hs]
        have hne : a[n] ≠ r := fun e => hs (sameR_iff.2 e)
        have hin : a[n] ∈ b := by
          rcases List.mem_cons.1 (h a[n] (by rw [hd]; exact List.mem_cons_self)) with h2 | h2
          · exact absurd h2 hne
          · exact h2
        refine grd_all ha b n hb' hn fun x hx => ?_
        rcases List.mem_cons.1 (h x hx) with h2 | h2
        · exfalso
          have h3 := (List.pairwise_cons.1 hb).1 _ hin
          rw [hd] at hx
          rcases List.mem_cons.1 hx with h4 | h4
          · exact hne (h4.symm.trans h2)
          · have h5 := cmpR_lt_trans h3 (hgt x h4)
            rw [h2, cmpR_self] at h5
            omega
        · exact h2
    · rw [List.getElem?_eq_none_iff.2 (by omega)]
      simp only [Bool.false_eq_true, if_false]
      refine grd_all ha b n hb' hn fun x hx => ?_
      rw [List.drop_eq_nil_iff.2 (by omega)] at hx
      cases hx
theorem more_law {q : Qy} {data more : List Tbl} {m1 m2 : Int} (h1 : (answersP q data m1).2 = 0) (h2 : (answersP q (data ++ more) m2).2 = 0) : grd (answersP q data m1).1 (answersP q (data ++ more) m2).1 0 = (answersP q data m1).1.length := by
  obtain ⟨e1, hq⟩ := answersP_ok h1
  obtain ⟨e2, -⟩ := answersP_ok h2
  rw [e1, e2]
  exact grd_all (rises_ans _ _) _ 0 (rises_ans _ _) (Nat.zero_le _) fun x hx => more_ans hq data more x (by simpa using hx)
end Go.Proofs.Ytpfjkjmimmklcaa
