/-
  naive.Witness: its deferred function: what it makes of a walk that gave up.
-/
import Derived.Test.YtpfjkjmimmklcaaNaiG
namespace Go.Proofs.Ytpfjkjmimmklcaa
open Go.RowKit

set_option maxRecDepth 100000 in
theorem wdoor_quiet (n ga gt ge : Nat) (w : World) : CallsDIn Fence.wide n Try.prog 53 #[.pointer (some ⟨ga, 0, none⟩), .pointer (some ⟨gt, 0, none⟩), .pointer (some ⟨ge, 0, none⟩)] .returning w fun e u' w' => u' = .returning ∧ e = .returned (.tuple #[]) ∧ w = w' := by
  refine callsDIn_of_wpS Try.func53 rfl fun c₀ cs hu => ?_
  apply wpS_seq
  apply wpS_region
  simp [wpOpsS, go_sem, recoverD, hu, Try.ntmps53, Exit.thenS]
  refine (tired_nil w).mono ?_
  rintro e w' ⟨rfl, rfl⟩
  refine wpS_cond (t := false) (by simp [Act.eval, Array.replicate]) ?_
  refine wpS_of_wp ?_
  simp only [Bool.false_eq_true, if_false]
  go_wp2
  exact ⟨rfl, .returning, by rw [← hu], _, results_none rfl _ _ _, rfl, rfl, rfl⟩

set_option maxRecDepth 100000 in
/-- what gave up leaves: no answers, no trials, the error -/
theorem wdoor_tired (n ga gt ge : Nat) (va vt ve : Value) (w : World) (ha : Blk w ga 27 #[va]) (ht : Blk w gt 4 #[vt]) (he : Blk w ge 28 #[ve]) (h1 : ga ≠ gt) (h2 : ga ≠ ge) (h3 : gt ≠ ge) :
    CallsDIn Fence.wide n Try.prog 53 #[.pointer (some ⟨ga, 0, none⟩), .pointer (some ⟨gt, 0, none⟩), .pointer (some ⟨ge, 0, none⟩)] (.panicking tooMany) w fun e u' w' =>
      u' = .panicking [{ v := .iface 144 (.agg #[]), recovered := true }] ∧ e = .returned (.tuple #[]) ∧ ∃ w1, Ext w w1 ∧ w' = ((w1.setCell ⟨ga, 0, none⟩ (.slice none 0 0)).setCell ⟨gt, 0, none⟩ (.bool false)).setCell ⟨ge, 0, none⟩ (.int .i64 120) := by
  refine callsDIn_of_wpS Try.func53 rfl fun c₀ cs hu => ?_
  have hu' : c₀.mode = .panicking [{ v := .iface 144 (.agg #[]), recovered := false }] := hu
  apply wpS_seq
  apply wpS_region
  simp [wpOpsS, go_sem, recoverD, hu', Try.ntmps53, Exit.thenS]
  refine (tired_much w).mono ?_
  rintro e w' ⟨rfl, hE⟩
  have HA := hide (ha.ext hE); have HT := hide (ht.ext hE); have HR := hide (he.ext hE); have HE := hide hE
  have c1 := HA.out.cell 0
  have c2 := HT.out.cell 0
  have c3 := HR.out.cell 0
  have f1 := HA.out.frozen 0
  have f2 := HT.out.frozen 0
  have f3 := HR.out.frozen 0
  clear ha ht he hE hu
  refine wpS_cond (t := true) (by simp [Act.eval, Array.replicate]) ?_
  refine wpS_of_wp ?_
  simp only [if_true]
  go_wp2
  exact ⟨rfl, _, rfl, _, results_none rfl _ _ _, rfl, rfl, w', HE.out, rfl⟩
/-- rows that were collected, behind the stores of the results and the mark's end -/
theorem wrmine_end {b : Nat} {w : World} {cs : List Value} {r : List V} {ga gt ge d : Nat} {va vt ve ua ut ue : Value} {o : Obj} (h : RMine b w cs r) (ha : Blk w ga 27 #[va]) (ht : Blk w gt 4 #[vt]) (he : Blk w ge 28 #[ve]) (n1 : ga ≠ gt) (n2 : ga ≠ ge) (n3 : gt ≠ ge) (hd : d < b) :
    RMine b ((((w.setCell ⟨ga, 0, none⟩ ua).setCell ⟨gt, 0, none⟩ ut).setCell ⟨ge, 0, none⟩ ue).putObj d o) cs r := by
  obtain ⟨A, n, c, h1, h2⟩ := ((h.set_ ha (by decide) 0 ua).set_ (ht.far (p := ⟨ga, 0, none⟩) (Ne.symm n1) ua) (by decide) 0 ut).set_ ((he.far (p := ⟨ga, 0, none⟩) (Ne.symm n2) ua).far (p := ⟨gt, 0, none⟩) (Ne.symm n3) ut) (by decide) 0 ue
  exact ⟨A, n, c, h1, own_putObj h2 fun g hg e => by have := (h2.lt g hg).1; omega⟩
theorem wown_end {b : Nat} {w : World} {e : TypeId} {s n : Nat} {v : Value} {xs : List Value} {ga gt ge d : Nat} {va vt ve ua ut ue : Value} {o : Obj} (h : w.ownsRow b e s v n xs) (ha : Blk w ga 27 #[va]) (ht : Blk w gt 4 #[vt]) (he : Blk w ge 28 #[ve]) (n1 : ga ≠ gt) (n2 : ga ≠ ge) (n3 : gt ≠ ge) (hd : d < b)
    (e1 : e ≠ 27) (e2 : e ≠ 4) (e3 : e ≠ 28) : ((((w.setCell ⟨ga, 0, none⟩ ua).setCell ⟨gt, 0, none⟩ ut).setCell ⟨ge, 0, none⟩ ue).putObj d o).ownsRow b e s v n xs := by
  have h2 := mine_set (mine_set (mine_set h ha e1 0 ua) (ht.far (p := ⟨ga, 0, none⟩) (Ne.symm n1) ua) e2 0 ut) ((he.far (p := ⟨ga, 0, none⟩) (Ne.symm n2) ua).far (p := ⟨gt, 0, none⟩) (Ne.symm n3) ut) e3 0 ue
  exact own_putObj h2 fun g hg e => by have := (h2.lt g hg).1; omega
theorem wblks_end {w : World} {ga gt ge d : Nat} {va vt ve ua ut ue : Value} {o : Obj} (ha : Blk w ga 27 #[va]) (ht : Blk w gt 4 #[vt]) (he : Blk w ge 28 #[ve]) (n1 : ga ≠ gt) (n2 : ga ≠ ge) (n3 : gt ≠ ge) (m1 : ga ≠ d) (m2 : gt ≠ d) (m3 : ge ≠ d) :
    Blk ((((w.setCell ⟨ga, 0, none⟩ ua).setCell ⟨gt, 0, none⟩ ut).setCell ⟨ge, 0, none⟩ ue).putObj d o) ga 27 #[ua] ∧ Blk ((((w.setCell ⟨ga, 0, none⟩ ua).setCell ⟨gt, 0, none⟩ ut).setCell ⟨ge, 0, none⟩ ue).putObj d o) gt 4 #[ut] ∧
    Blk ((((w.setCell ⟨ga, 0, none⟩ ua).setCell ⟨gt, 0, none⟩ ut).setCell ⟨ge, 0, none⟩ ue).putObj d o) ge 28 #[ue] :=
  ⟨Blk.putObj (((ha.set_ 0 _).far (p := ⟨gt, 0, none⟩) n1 _).far (p := ⟨ge, 0, none⟩) n2 _) m1, Blk.putObj (((ht.far (p := ⟨ga, 0, none⟩) (Ne.symm n1) _).set_ 0 _).far (p := ⟨ge, 0, none⟩) n3 _) m2,
    Blk.putObj (((he.far (p := ⟨ga, 0, none⟩) (Ne.symm n2) _).far (p := ⟨gt, 0, none⟩) (Ne.symm n3) _).set_ 0 _) m3⟩
/-- the call's two deferred calls: the range's mark, the function that makes an error of a walk that gave up -/
def wdoors (d ga gt ge : Nat) : List Deferred := [{ target := .collected d, args := #[] }, { target := .fn (.func 53) #[.pointer (some ⟨ga, 0, none⟩), .pointer (some ⟨gt, 0, none⟩), .pointer (some ⟨ge, 0, none⟩)], args := #[] }]
theorem wdoor_enters (w : World) (ga gt ge : Nat) : (invoke (.fn (.func 53) #[.pointer (some ⟨ga, 0, none⟩), .pointer (some ⟨gt, 0, none⟩), .pointer (some ⟨ge, 0, none⟩)]) #[]).run Try.prog w = .ok (.enter 53 #[.pointer (some ⟨ga, 0, none⟩), .pointer (some ⟨gt, 0, none⟩), .pointer (some ⟨ge, 0, none⟩)]) w := by
  have e2 := (enters_of Try.func53 (by kernel_rfl) rfl : Enters Try.prog 53) #[.pointer (some ⟨ga, 0, none⟩), .pointer (some ⟨gt, 0, none⟩), .pointer (some ⟨ge, 0, none⟩)] w
  simp [invoke, go_sem, e2]
theorem wdoor_ok {n d ga gt ge : Nat} {fn : Func} {tmps : Array Value} {R : Ending → World → Prop} {W : World} (hk : W.heap[d]? = some (.deferred (some [])))
    (h : ∃ v, (results fn tmps).run Try.prog (W.putObj d (.deferred none)) = .ok v (W.putObj d (.deferred none)) ∧ R (.returned v) (W.putObj d (.deferred none))) : LeavesInM Fence.wide n Try.prog fn tmps R (wdoors d ga gt ge) .returning W := by
  refine ⟨by simp, .inl ⟨d, _, rfl, run_takeDeferred hk, by simp, .inr ⟨fun h => absurd h (by simp [Fence.wide]), .func 53, _, 53, _, rfl, wdoor_enters _ ga gt ge, fun _ _ => trivial, (wdoor_quiet _ ga gt ge _).mono ?_⟩⟩⟩
  rintro e u' w' ⟨rfl, rfl, rfl⟩
  exact h
theorem wdoor_err {n d ga gt ge : Nat} {fn : Func} {tmps : Array Value} {R : Ending → World → Prop} {W : World} {va vt ve : Value} (hk : W.heap[d]? = some (.deferred (some []))) (ha : Blk W ga 27 #[va]) (ht : Blk W gt 4 #[vt]) (he : Blk W ge 28 #[ve]) (n1 : ga ≠ gt) (n2 : ga ≠ ge) (n3 : gt ≠ ge) (m1 : ga ≠ d) (m2 : gt ≠ d) (m3 : ge ≠ d)
    (h : ∀ w1, Ext (W.putObj d (.deferred none)) w1 → Blk (((w1.setCell ⟨ga, 0, none⟩ (.slice none 0 0)).setCell ⟨gt, 0, none⟩ (.bool false)).setCell ⟨ge, 0, none⟩ (.int .i64 120)) ga 27 #[.slice none 0 0] →
      Blk (((w1.setCell ⟨ga, 0, none⟩ (.slice none 0 0)).setCell ⟨gt, 0, none⟩ (.bool false)).setCell ⟨ge, 0, none⟩ (.int .i64 120)) gt 4 #[.bool false] → Blk (((w1.setCell ⟨ga, 0, none⟩ (.slice none 0 0)).setCell ⟨gt, 0, none⟩ (.bool false)).setCell ⟨ge, 0, none⟩ (.int .i64 120)) ge 28 #[.int .i64 120] →
      ∃ v, (results fn tmps).run Try.prog (((w1.setCell ⟨ga, 0, none⟩ (.slice none 0 0)).setCell ⟨gt, 0, none⟩ (.bool false)).setCell ⟨ge, 0, none⟩ (.int .i64 120)) = .ok v (((w1.setCell ⟨ga, 0, none⟩ (.slice none 0 0)).setCell ⟨gt, 0, none⟩ (.bool false)).setCell ⟨ge, 0, none⟩ (.int .i64 120)) ∧
        R (.returned v) (((w1.setCell ⟨ga, 0, none⟩ (.slice none 0 0)).setCell ⟨gt, 0, none⟩ (.bool false)).setCell ⟨ge, 0, none⟩ (.int .i64 120))) : LeavesInM Fence.wide n Try.prog fn tmps R (wdoors d ga gt ge) (.panicking tooMany) W := by
  have ha' := ha.putObj (l := d) (o := .deferred none) m1
  have ht' := ht.putObj (l := d) (o := .deferred none) m2
  have he' := he.putObj (l := d) (o := .deferred none) m3
  refine ⟨by simp, .inl ⟨d, _, rfl, run_takeDeferred hk, by simp, .inr ⟨fun h => absurd h (by simp [Fence.wide]), .func 53, _, 53, _, rfl, wdoor_enters _ ga gt ge, fun _ _ => trivial, (wdoor_tired _ ga gt ge va vt ve _ ha' ht' he' n1 n2 n3).mono ?_⟩⟩⟩
  rintro e u' w' ⟨rfl, rfl, w1, hE, rfl⟩
  exact h w1 hE ((((ha'.ext hE).set_ 0 _).far (p := ⟨gt, 0, none⟩) n1 _).far (p := ⟨ge, 0, none⟩) n2 _) (((((ht'.ext hE).far (p := ⟨ga, 0, none⟩) (Ne.symm n1) _).set_ 0 _)).far (p := ⟨ge, 0, none⟩) n3 _)
    (((((he'.ext hE).far (p := ⟨ga, 0, none⟩) (Ne.symm n2) _).far (p := ⟨gt, 0, none⟩) (Ne.symm n3) _)).set_ 0 _)
end Go.Proofs.Ytpfjkjmimmklcaa
