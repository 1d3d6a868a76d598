/-
  arena: slots of numbers: New, Len, find, Take, Give, At.
  A map whose keys are numbers, as a function from numbers to values.
-/
import Derived.Test.YtahdiiaadjdmcaaGaA
import Derived.IntWalk
import Derived.Deep.Cut
import Derived.WalkMore
import Derived.Test.YtahdiiaadjdmcaaExtP
import Derived.Maps.OwnSet
namespace Go.Proofs.Ytahdiiaadjdmcaa
open Go.RowKit

def slCI (sl : List (Slt Value)) : List Value := sl.flatMap fun x => [.int .i64 (x.1 : Int), .bool x.2.isSome, x.2.getD (.int .i64 0)]
theorem slCI_len (l : List (Slt Value)) : (slCI l).length = l.length * 3 := by
  unfold slCI
  induction l with
  | nil => rfl
  | cons a l ih => rw [List.flatMap_cons, List.length_append, ih]; simp; omega
theorem slCI_append (l m : List (Slt Value)) : slCI (l ++ m) = slCI l ++ slCI m := by simp [slCI]
theorem slCI_get : ∀ {l : List (Slt Value)} {i : Nat} {x : Slt Value}, l[i]? = some x → (slCI l)[i * 3]? = some (.int .i64 (x.1 : Int)) ∧ (slCI l)[i * 3 + 1]? = some (.bool x.2.isSome) ∧ (slCI l)[i * 3 + 2]? = some (x.2.getD (.int .i64 0))
  | [], _, _, h => by simp at h
  | a :: l, 0, x, h => by
    simp only [List.getElem?_cons_zero, Option.some.injEq] at h
    subst h
    exact ⟨rfl, rfl, rfl⟩
  | a :: l, i + 1, x, h => by
    simp only [List.getElem?_cons_succ] at h
    have := slCI_get h
    have e : ∀ j, (slCI (a :: l))[(i + 1) * 3 + j]? = (slCI l)[i * 3 + j]? := fun j => by
      show ([Value.int .i64 (a.1 : Int), .bool a.2.isSome, a.2.getD (.int .i64 0)] ++ slCI l)[(i + 1) * 3 + j]? = _
      rw [List.getElem?_append_right (by simp; omega)]
      congr 1
      simp; omega
    exact ⟨(e 0).trans this.1, (e 1).trans this.2.1, (e 2).trans this.2.2⟩
theorem slCI_set : ∀ (l : List (Slt Value)) (i : Nat) (x : Slt Value), (((slCI l).set (i * 3) (.int .i64 (x.1 : Int))).set (i * 3 + 1) (.bool x.2.isSome)).set (i * 3 + 2) (x.2.getD (.int .i64 0)) = slCI (l.set i x)
  | [], _, _ => by simp [slCI]
  | a :: l, 0, x => rfl
  | a :: l, i + 1, x => by
    have ih := slCI_set l i x
    show ((([Value.int .i64 (a.1 : Int), .bool a.2.isSome, a.2.getD (.int .i64 0)] ++ slCI l).set ((i + 1) * 3) _).set ((i + 1) * 3 + 1) _).set ((i + 1) * 3 + 2) _ = [Value.int .i64 (a.1 : Int), .bool a.2.isSome, a.2.getD (.int .i64 0)] ++ slCI (l.set i x)
    rw [← ih, List.set_append_right _ _ (by simp; omega), List.set_append_right _ _ (by simp; omega), List.set_append_right _ _ (by simp; omega)]
    have e0 : (i + 1) * 3 - [Value.int .i64 (a.1 : Int), .bool a.2.isSome, a.2.getD (.int .i64 0)].length = i * 3 := by simp; omega
    have e1 : (i + 1) * 3 + 1 - [Value.int .i64 (a.1 : Int), .bool a.2.isSome, a.2.getD (.int .i64 0)].length = i * 3 + 1 := by simp; omega
    have e2 : (i + 1) * 3 + 2 - [Value.int .i64 (a.1 : Int), .bool a.2.isSome, a.2.getD (.int .i64 0)].length = i * 3 + 2 := by simp; omega
    rw [e0, e1, e2]
theorem slCI_same {l : List (Slt Value)} {i : Nat} {x : Slt Value} (h : l[i]? = some x) : (slCI l).set (i * 3) (.int .i64 (x.1 : Int)) = slCI l := by
  obtain ⟨hi, e⟩ := List.getElem?_eq_some_iff.1 (slCI_get h).1
  rw [← e]; exact List.set_getElem_self hi

structure ArAtI (w : World) (B : Nat → Prop) (x most : Nat) (SA : Option Addr) (cS : Nat) (FA : Option Addr) (cF : Nat) (sl : List (Slt Value)) (free : List Nat) (live : Nat) : Prop where
  blk : Blk w x 139 #[.int .i64 most, .int .i64 1073741824, .slice SA sl.length cS, .slice FA free.length cF, .int .i64 live]
  oS : OwnH w B 202 3 sl.length (.slice SA sl.length cS) (slCI sl)
  oF : OwnH w B 3 1 free.length (.slice FA free.length cF) (natC free)
  inB : B x
section
variable {w w' : World} {B C : Nat → Prop} {x most : Nat} {SA : Option Addr} {cS : Nat} {FA : Option Addr} {cF : Nat} {sl : List (Slt Value)} {free : List Nat} {live : Nat}
theorem ArAtI.chg (h : ArAtI w B x most SA cS FA cF sl free live) (hw : Chg C w w') (hC : ∀ g, B g → ¬ C g) : ArAtI w' B x most SA cS FA cF sl free live :=
  ⟨hw.blk h.blk (hC x h.inB), h.oS.chg hw hC, h.oF.chg hw hC, h.inB⟩
theorem ArAtI.ext (h : ArAtI w B x most SA cS FA cF sl free live) (hw : Ext w w') : ArAtI w' B x most SA cS FA cF sl free live := h.chg (C := fun _ => False) (Chg.of hw) fun _ _ x => x
theorem ArAtI.mono (h : ArAtI w B x most SA cS FA cF sl free live) (hC : ∀ g, B g → C g) : ArAtI w C x most SA cS FA cF sl free live := ⟨h.blk, h.oS.mono hC, h.oF.mono hC, hC _ h.inB⟩
theorem ArAtI.slot (h : ArAtI w B x most SA cS FA cF sl free live) {i : Nat} {p : Slt Value} (hp : sl[i]? = some p) :
    ∃ g, SA = some ⟨g, 0, none⟩ ∧ B g ∧ g ≠ x ∧ g < w.heap.size ∧ w.cell? ⟨g, i * 3, none⟩ = some (.int .i64 (p.1 : Int)) ∧ w.cell? ⟨g, i * 3 + 1, none⟩ = some (.bool p.2.isSome) ∧ w.cell? ⟨g, i * 3 + 2, none⟩ = some (p.2.getD (.int .i64 0)) ∧ ∀ j, w.frozen? ⟨g, j, none⟩ = false := by
  obtain ⟨g, h1, h2, h3, h4, h5⟩ := h.oS.at_ (by have := (List.getElem?_eq_some_iff.1 hp).1; omega)
  obtain ⟨k0, k1, k2⟩ := slCI_get hp
  refine ⟨g, h1, h2, fun e => ?_, h3, h4 _ _ k0, h4 _ _ k1, h4 _ _ k2, h5⟩
  exact own_type h.oS.own h.blk (by decide) (by rw [h1, ← e]; rfl)
/-- the arena's own numbers are written -/
theorem ArAtI.setX (h : ArAtI w B x most SA cS FA cF sl free live) (v : Nat) (u : Int) (hu : u = (v : Int)) : ArAtI (w.setCell ⟨x, 4, none⟩ (.int .i64 u)) B x most SA cS FA cF sl free v := by
  subst hu
  exact ⟨h.blk.set_ 4 _, h.oS.far h.blk (by decide) 4 _, h.oF.far h.blk (by decide) 4 _, h.inB⟩
theorem ArAtI.pop {k : Nat} (h : ArAtI w B x most SA cS FA cF sl (free ++ [k]) live) : ArAtI (w.setCell ⟨x, 3, none⟩ (.slice FA free.length cF)) B x most SA cS FA cF sl free live := by
  have ht := h.oF
  rw [List.length_append] at ht
  have h2 := ht.take free.length (by simp)
  rw [Nat.mul_one, show natC (free ++ [k]) = natC free ++ natC [k] by simp [natC], List.take_left' (by simp [natC])] at h2
  exact ⟨h.blk.set_ 3 _, h.oS.far h.blk (by decide) 3 _, h2.far h.blk (by decide) 3 _, h.inB⟩
/-- a slot's cells are written -/
theorem ArAtI.put {g j : Nat} {u : Value} {sl' : List (Slt Value)} (h : ArAtI w B x most (some ⟨g, 0, none⟩) cS FA cF sl free live) (h1 : (slCI sl).set j u = slCI sl') (h2 : sl'.length = sl.length) : ArAtI (w.setCell ⟨g, j, none⟩ u) B x most (some ⟨g, 0, none⟩) cS FA cF sl' free live := by
  obtain ⟨cs, hb⟩ : ∃ cs, Blk w g 202 cs := by
    rcases h.oS.own.2 with ⟨h3, _⟩ | ⟨g', cap, cur, h3, _, h4, _⟩
    · cases h3
    · injection h3 with h3 _ _
      injection h3 with h3
      injection h3 with h3
      subst h3
      exact ⟨cur, h4⟩
  have hx : x ≠ g := fun e => by
    subst e
    exact own_type h.oS.own h.blk (by decide) rfl
  refine ⟨?_, ?_, h.oF.far hb (by decide) j u, h.inB⟩
  · rw [h2]; exact h.blk.far (p := ⟨g, j, none⟩) hx u
  · rw [h2, ← h1]; exact h.oS.put j u
/-- a slot is written whole -/
theorem ArAtI.set3 {g i : Nat} (h : ArAtI w B x most (some ⟨g, 0, none⟩) cS FA cF sl free live) (y : Slt Value) : ArAtI (((w.setCell ⟨g, i * 3, none⟩ (.int .i64 (y.1 : Int))).setCell ⟨g, i * 3 + 1, none⟩ (.bool y.2.isSome)).setCell ⟨g, i * 3 + 2, none⟩ (y.2.getD (.int .i64 0))) B x most (some ⟨g, 0, none⟩) cS FA cF (sl.set i y) free live := by
  obtain ⟨cs, hb⟩ : ∃ cs, Blk w g 202 cs := by
    rcases h.oS.own.2 with ⟨h3, _⟩ | ⟨g', cap, cur, h3, _, h4, _⟩
    · cases h3
    · injection h3 with h3 _ _
      injection h3 with h3
      injection h3 with h3
      subst h3
      exact ⟨cur, h4⟩
  have hx : x ≠ g := fun e => by
    subst e
    exact own_type h.oS.own h.blk (by decide) rfl
  have hb1 := hb.set_ (i * 3) (.int .i64 (y.1 : Int))
  have hb2 := hb1.set_ (i * 3 + 1) (.bool y.2.isSome)
  refine ⟨?_, ?_, ((h.oF.far hb (by decide) _ _).far hb1 (by decide) _ _).far hb2 (by decide) _ _, h.inB⟩
  · rw [List.length_set]; exact ((h.blk.far (p := ⟨g, i * 3, none⟩) hx _).far (p := ⟨g, i * 3 + 1, none⟩) hx _).far (p := ⟨g, i * 3 + 2, none⟩) hx _
  · rw [List.length_set, ← slCI_set]; exact ((h.oS.put _ _).put _ _).put _ _
end

theorem infoSlI : (Try.prog.info? 202).map (fun i => (i.zero, i.size, i.bytes)) = some (some (.agg #[.int .i64 0, .bool false, .int .i64 0]), 3, 24) := by kernel_rfl
/-- an arena in the blocks B -/
structure HArI (w : World) (B : Nat → Prop) (x most : Nat) (sl : List (Slt Value)) (free : List Nat) (live : Nat) : Prop where
  mem : ∃ SA cS FA cF, ArAtI w B x most SA cS FA cF sl free live
  ok : ArOk most sl free live
  lt : ∀ b, B b → b < w.heap.size
  mm : most ≤ 1048576
  gen : ∀ i, genA sl i ≤ 1073741824
theorem HArI.chg {w w' : World} {B C : Nat → Prop} {x most : Nat} {sl : List (Slt Value)} {free : List Nat} {live : Nat} (h : HArI w B x most sl free live) (hw : Chg C w w') (hC : ∀ g, B g → ¬ C g) : HArI w' B x most sl free live := by
  obtain ⟨SA, cS, FA, cF, h1⟩ := h.mem
  exact ⟨⟨SA, cS, FA, cF, h1.chg hw hC⟩, h.ok, fun b hb => Nat.lt_of_lt_of_le (h.lt b hb) hw.size, h.mm, h.gen⟩
theorem HArI.ext {w w' : World} {B : Nat → Prop} {x most : Nat} {sl : List (Slt Value)} {free : List Nat} {live : Nat} (h : HArI w B x most sl free live) (hw : Ext w w') : HArI w' B x most sl free live := h.chg (C := fun _ => False) (Chg.of hw) fun _ _ x => x

set_option maxRecDepth 100000 in
theorem arena_newI (most : Nat) (w : World) (h1 : 1 ≤ most) (h2 : most ≤ 1048576) :
    Calls Try.prog 35 #[.int .i64 most, .int .i64 1073741824] w fun e w' => ∃ x, e = .returned (.tuple #[.pointer (some ⟨x, 0, none⟩), .int .i64 0]) ∧ HArI w' (fun b => b = x) x most [] [] 0 ∧ w.heap.size ≤ x ∧ Ext w w' := by
  have hm1 : ¬ (most : Int) < 1 := by omega
  have hm2 : ¬ (1048576 : Int) < (most : Int) := by omega
  go_enter Try.func35, Try.ntmps35
  go_wp2_with fail
  go_ret2
  have hb := Blk.new w 139 #[.int .i64 most, .int .i64 1073741824, .slice none 0 0, .slice none 0 0, .int .i64 0]
  exact ⟨_, rfl, ⟨⟨none, 0, none, 0, ⟨hb, OwnH.nil _ _ _ _, OwnH.nil _ _ _ _, rfl⟩⟩, ArOk.empty _, fun b hb2 => by subst hb2; exact hb.lt, h2, fun i => by simp [genA]⟩, Nat.le_refl _, Ext.alloc _ _⟩

set_option maxRecDepth 100000 in
theorem find_slotI {w : World} {B : Nat → Prop} {x most : Nat} {SA : Option Addr} {cS : Nat} {FA : Option Addr} {cF : Nat} {sl : List (Slt Value)} {free : List Nat} {live : Nat} (h : ArAtI w B x most SA cS FA cF sl free live) {i g : Nat} {v : Value} (hi : sl[i]? = some (g, some v)) :
    Calls Try.prog 103 #[.pointer (some ⟨x, 0, none⟩), .agg #[.int .i64 i, .int .i64 g]] w fun e w' => Ext w w' ∧ ∃ gS, SA = some ⟨gS, 0, none⟩ ∧ e = .returned (.pointer (some ⟨gS, i * 3, none⟩)) := by
  obtain ⟨gS, rfl, -, hgx, hgl, k0, k1, -, -⟩ := h.slot hi
  replace k0 : w.cell? ⟨gS, i * 3, none⟩ = some (.int .i64 (g : Int)) := k0
  replace k1 : w.cell? ⟨gS, i * 3 + 1, none⟩ = some (.bool true) := k1
  have a2 : w.cell? ⟨x, 2, none⟩ = some (.slice (some ⟨gS, 0, none⟩) sl.length cS) := h.blk.cell 2
  have hil := (List.getElem?_eq_some_iff.1 hi).1
  have hcap := h.oS.cap
  have hE := hide (Ext.alloc w (.cells #[.int .i64 (i : Int), .int .i64 (g : Int)] 132))
  have hB := Blk.new w 132 #[.int .i64 (i : Int), .int .i64 (g : Int)]
  have e0 := hB.cell 0
  have e1 := hB.cell 1
  replace e0 : (w.alloc (.cells #[.int .i64 (i : Int), .int .i64 (g : Int)] 132)).cell? ⟨w.heap.size, 0, none⟩ = some (.int .i64 (i : Int)) := e0
  replace e1 : (w.alloc (.cells #[.int .i64 (i : Int), .int .i64 (g : Int)] 132)).cell? ⟨w.heap.size, 1, none⟩ = some (.int .i64 (g : Int)) := e1
  have a2 := hE.out.cell a2
  have k0 := hE.out.cell k0
  have k1 := hE.out.cell k1
  clear h hi hB
  go_enter Try.func103, Try.ntmps103
  go_upto_region 1 with fail
  generalize w.alloc (.cells #[.int .i64 (i : Int), .int .i64 (g : Int)] 132) = w1 at *
  generalize w.heap.size = gr at *
  have E0 := hide e0; have E1 := hide e1; have A2 := hide a2; have K0 := hide k0; have K1 := hide k1
  have e0 := cell_ext e0; have a2 := cell_ext a2
  have hi0 : ¬ ((i : Int) < 0) := by omega
  refine wp_region_ext 13 (by kernel_rfl) (by kernel_rfl) (by kernel_rfl) ?_
  iterate 13
    refine wpE_k (by kernel_rfl) (by kernel_rfl) ?_
    apply Exists.intro
    refine ⟨fun w1 hw1 => ?_, fun K hK => ?_⟩
    · go_simp; first | done | rfl
    go_simp; refine hK _ _ ?_; clear hK K
  refine wpE_nil ⟨rfl, by kernel_rfl, fun wq hwq => ?_⟩
  simp only [EndQ]
  refine wpList_nil ?_
  have X1 := hide hwq
  clear e0 a2 k0 k1 e1 hwq
  go_upto_region 3 with fail
  have e0 := cell_ext (X1.out.cell E0.out); have a2 := cell_ext (X1.out.cell A2.out)
  refine wp_region_ext 8 (by kernel_rfl) (by kernel_rfl) (by kernel_rfl) ?_
  iterate 8
    refine wpE_k (by kernel_rfl) (by kernel_rfl) ?_
    apply Exists.intro
    refine ⟨fun w1 hw1 => ?_, fun K hK => ?_⟩
    · go_simp; first | done | rfl
    go_simp; refine hK _ _ ?_; clear hK K
  refine wpE_nil ⟨rfl, by kernel_rfl, fun wq hwq => ?_⟩
  simp only [EndQ]
  refine wpList_nil ?_
  have X2 := hide (X1.out.trans hwq)
  clear e0 a2 hwq
  go_upto_region 4 with fail
  have k1 := cell_ext (X2.out.cell K1.out); have k0 := cell_ext (X2.out.cell K0.out); have e1 := cell_ext (X2.out.cell E1.out)
  refine wp_region_ext 13 (by kernel_rfl) (by kernel_rfl) (by kernel_rfl) ?_
  iterate 13
    refine wpE_k (by kernel_rfl) (by kernel_rfl) ?_
    apply Exists.intro
    refine ⟨fun w1 hw1 => ?_, fun K hK => ?_⟩
    · go_simp; first | done | rfl
    go_simp; refine hK _ _ ?_; clear hK K
  refine wpE_nil ⟨rfl, by kernel_rfl, fun wq hwq => ?_⟩
  simp only [EndQ]
  refine wpList_nil ?_
  have X3 := hide (X2.out.trans hwq)
  clear k1 k0 e1 hwq
  go_wp2_with fail
  go_ret
  exact ⟨hE.out.trans X3.out, rfl⟩

/-- what a call leaves of an arena -/
def ArRI (w : World) (B : Nat → Prop) (x most : Nat) (sl : List (Slt Value)) (free : List Nat) (live : Nat) (w' : World) : Prop := ∃ B', HArI w' B' x most sl free live ∧ (∀ b, B' b → B b ∨ w.heap.size ≤ b) ∧ Chg B w w'
section
variable {w w' : World} {B C : Nat → Prop} {x most : Nat} {SA : Option Addr} {cS : Nat} {FA : Option Addr} {cF : Nat} {sl : List (Slt Value)} {free : List Nat} {live : Nat}
/-- what stands in a slot is written, the generation stays -/
theorem ArAtI.set2 {gS i g : Nat} {o0 o : Option Value} (h : ArAtI w B x most (some ⟨gS, 0, none⟩) cS FA cF sl free live) (hi : sl[i]? = some (g, o0)) : ArAtI ((w.setCell ⟨gS, i * 3 + 1, none⟩ (.bool o.isSome)).setCell ⟨gS, i * 3 + 2, none⟩ (o.getD (.int .i64 0))) B x most (some ⟨gS, 0, none⟩) cS FA cF (sl.set i (g, o)) free live := by
  obtain ⟨cs, hb⟩ : ∃ cs, Blk w gS 202 cs := by
    rcases h.oS.own.2 with ⟨h3, _⟩ | ⟨g', cap, cur, h3, _, h4, _⟩
    · cases h3
    · injection h3 with h3 _ _
      injection h3 with h3
      injection h3 with h3
      subst h3
      exact ⟨cur, h4⟩
  have hx : x ≠ gS := fun e => by
    subst e
    exact own_type h.oS.own h.blk (by decide) rfl
  have hb1 := hb.set_ (i * 3 + 1) (.bool o.isSome)
  have e := slCI_set sl i (g, o)
  have e2 : (slCI sl).set (i * 3) (.int .i64 (g : Int)) = slCI sl := slCI_same (x := (g, o0)) hi
  dsimp only at e
  rw [e2] at e
  refine ⟨?_, ?_, (h.oF.far hb (by decide) _ _).far hb1 (by decide) _ _, h.inB⟩
  · rw [List.length_set]; exact (h.blk.far (p := ⟨gS, i * 3 + 1, none⟩) hx _).far (p := ⟨gS, i * 3 + 2, none⟩) hx _
  · rw [List.length_set, ← e]; exact (h.oS.put _ _).put _ _
/-- a number more on the stack -/
theorem ArAtI.push {w8 : World} {A8 : Option Addr} {c8 k : Nat} (h : ArAtI w B x most SA cS FA cF sl free live) (own8 : OwnH w8 C 3 1 (free.length + 1) (.slice A8 (free.length + 1) c8) (natC free ++ [.int .i64 (k : Int)])) (hC : ∀ b, B b → C b) (G8 : w.grownBy w8 (Value.slice FA free.length cF).ownBlock) :
    ArAtI (w8.setCell ⟨x, 3, none⟩ (.slice A8 (free.length + 1) c8)) C x most SA cS A8 c8 sl (free ++ [k]) live := by
  have hb8 := h.blk.grown G8 (own_ne_blk h.oF.own h.blk (by decide))
  have hS8 := h.oS.grown h.oF.own (by decide) G8
  refine ⟨?_, (hS8.mono hC).far hb8 (by decide) 3 _, ?_, hC _ h.inB⟩
  · rw [List.length_append]
    exact hb8.set_ 3 (.slice A8 (free.length + 1) c8)
  · rw [List.length_append, show natC (free ++ [k]) = natC free ++ [.int .i64 (k : Int)] by simp [natC]]
    exact own8.far hb8 (by decide) 3 _
/-- an empty slot more -/
theorem ArAtI.grow {w8 : World} {A8 : Option Addr} {c8 : Nat} (h : ArAtI w B x most SA cS FA cF sl free live) (own8 : OwnH w8 C 202 3 (sl.length + 1) (.slice A8 (sl.length + 1) c8) (slCI sl ++ [.int .i64 0, .bool false, .int .i64 0])) (hC : ∀ b, B b → C b) (G8 : w.grownBy w8 (Value.slice SA sl.length cS).ownBlock) :
    ArAtI (w8.setCell ⟨x, 2, none⟩ (.slice A8 (sl.length + 1) c8)) C x most A8 c8 FA cF (sl ++ [(0, none)]) free live := by
  have hb8 := h.blk.grown G8 (own_ne_blk h.oS.own h.blk (by decide))
  have hF8 := h.oF.grown h.oS.own (by decide) G8
  refine ⟨?_, ?_, (hF8.mono hC).far hb8 (by decide) 2 _, hC _ h.inB⟩
  · rw [List.length_append]
    exact hb8.set_ 2 (.slice A8 (sl.length + 1) c8)
  · rw [List.length_append, slCI_append]
    exact own8.far hb8 (by decide) 2 _
end

set_option maxRecDepth 100000 in
set_option maxHeartbeats 1000000 in
theorem arena_giveI {w : World} {B : Nat → Prop} {x most : Nat} {sl : List (Slt Value)} {free : List Nat} {live : Nat} (h : HArI w B x most sl free live) {i g : Nat} {v : Value} (hi : sl[i]? = some (g, some v)) (hg : g < 1073741824) :
    Calls Try.prog 102 #[.pointer (some ⟨x, 0, none⟩), .agg #[.int .i64 i, .int .i64 g]] w fun e w' => e = .returned (.int .i64 0) ∧ ArRI w B x most (sl.set i (g, none)) (free ++ [i]) (live - 1) w' := by
  obtain ⟨SA, cS, FA, cF, h1⟩ := h.mem
  obtain ⟨gS, rfl, hgB, hgx, hgl, -, -, -, -⟩ := h1.slot hi
  have hil := (List.getElem?_eq_some_iff.1 hi).1
  obtain ⟨hok, -, hl1⟩ := h.ok.give hi
  have hfl : free.length + live ≤ 1048576 := by have := h.ok.live; have := h.ok.len; have := h.mm; omega
  have hE := hide (Ext.alloc w (.cells #[.int .i64 (i : Int), .int .i64 (g : Int)] 132))
  have hBr := hide (Blk.new w 132 #[.int .i64 (i : Int), .int .i64 (g : Int)])
  have H1 := hide (h1.ext hE.out)
  have HF := hide (find_slotI (h1.ext hE.out) hi)
  have e0 : (w.alloc (.cells #[.int .i64 (i : Int), .int .i64 (g : Int)] 132)).cell? ⟨w.heap.size, 0, none⟩ = some (.int .i64 (i : Int)) := hBr.out.cell 0
  have e1 : (w.alloc (.cells #[.int .i64 (i : Int), .int .i64 (g : Int)] 132)).cell? ⟨w.heap.size, 1, none⟩ = some (.int .i64 (g : Int)) := hBr.out.cell 1
  have HI := hide hi; have HLT := hide h.lt; have HOK := hide hok; have hmm := h.mm
  have HGEN := hide (fun j => (show genA (sl.set i (g, none)) j ≤ 1073741824 by
    rw [genA_set hil]
    split
    · omega
    · exact h.gen j))
  have hIN := hide (And.intro h1.inB hgB)
  clear h h1 hi hok
  go_enter Try.func102, Try.ntmps102
  go_upto_region 4 with ((with_reducible refine HF.out.mono ?_); rintro e w1 ⟨x1, g0, hg0, rfl⟩; obtain rfl : gS = g0 := (by injection hg0 with hg0; injection hg0); have X1 := hide x1; clear x1 hg0)
  clear e0 e1 HF
  have H2 := hide (H1.out.ext X1.out)
  have HR := hide (hBr.out.ext X1.out)
  have HX := hide (hE.out.trans X1.out)
  have hneR : gS ≠ w.heap.size := by omega
  clear H1 X1 hBr hE
  obtain ⟨g5, eg, -, -, -, k0, k1, k2, kf⟩ := H2.out.slot HI.out
  obtain rfl : gS = g5 := (by injection eg with eg; injection eg)
  replace k1 : w1.cell? ⟨gS, i * 3 + 1, none⟩ = some (.bool true) := k1
  replace k2 : w1.cell? ⟨gS, i * 3 + 2, none⟩ = some v := k2
  have f1 := kf (i * 3 + 1); have f2 := kf (i * 3 + 2)
  have x4 : w1.cell? ⟨x, 4, none⟩ = some (.int .i64 live) := H2.out.blk.cell 4
  have fx : w1.frozen? ⟨x, 4, none⟩ = false := H2.out.blk.frozen 4
  have hxg := Ne.symm hgx
  have hl9 : ((live - 1 : Nat) : Int) = (live : Int) - 1 := by omega
  clear k0 kf eg
  go_upto_region 7 with fail
  have H3 := hide ((H2.out.set2 HI.out (o := none)).setX (live - 1) ((live : Int) - 1) hl9.symm)
  have HC3 := hide ((((Chg.of HX.out : Chg B w w1).setCell (p := ⟨gS, i * 3 + 1, none⟩) (.inl hIN.out.2) (.bool false)).setCell (p := ⟨gS, i * 3 + 2, none⟩) (.inl hIN.out.2) (.int .i64 0)).setCell (p := ⟨x, 4, none⟩) (.inl hIN.out.1) (.int .i64 ((live : Int) - 1)))
  have HRn := hide (show ¬ B w.heap.size from fun hb => by have := HLT.out _ hb; omega)
  have HR3 := hide (((HR.out.far (p := ⟨gS, i * 3 + 1, none⟩) (Ne.symm hneR) (.bool false)).far (p := ⟨gS, i * 3 + 2, none⟩) (Ne.symm hneR) (.int .i64 0)).far (p := ⟨x, 4, none⟩) (fun e => HRn.out (by rw [e]; exact hIN.out.1)) (.int .i64 ((live : Int) - 1)))
  dsimp only [Option.isSome, Option.getD] at H3
  clear k1 k2 f1 f2 x4 fx hxg H2 HR HX
  generalize ((w1.setCell ⟨gS, i * 3 + 1, none⟩ (.bool false)).setCell ⟨gS, i * 3 + 2, none⟩ (.int .i64 0)).setCell ⟨x, 4, none⟩ (.int .i64 ((live : Int) - 1)) = w3 at *
  have hs3 : (sl.set i (g, none))[i]? = some (g, none) := List.getElem?_set_self hil
  obtain ⟨g6, eg, -, -, -, k0, -, -, -⟩ := H3.out.slot hs3
  obtain rfl : gS = g6 := (by injection eg with eg; injection eg)
  replace k0 : w3.cell? ⟨gS, i * 3, none⟩ = some (.int .i64 (g : Int)) := k0
  have x1 : w3.cell? ⟨x, 1, none⟩ = some (.int .i64 1073741824) := H3.out.blk.cell 1
  have hgi : (g : Int) < 1073741824 := by omega
  have k0 := cell_ext k0
  have x1 := cell_ext x1
  clear eg hs3
  refine wp_region_ext 9 (by kernel_rfl) (by kernel_rfl) (by kernel_rfl) ?_
  iterate 9
    refine wpE_k (by kernel_rfl) (by kernel_rfl) ?_
    apply Exists.intro
    refine ⟨fun w1 hw1 => ?_, fun K hK => ?_⟩
    · go_simp; first | done | rfl
    go_simp; refine hK _ _ ?_; clear hK K
  refine wpE_nil ⟨rfl, by kernel_rfl, fun wq hwq => ?_⟩
  simp only [EndQ]
  refine wpList_nil ?_
  clear k0 x1
  have H4 := hide (H3.out.ext hwq); have HC4 := hide (HC3.out.trans' (Chg.of hwq)); have HR4 := hide (HR3.out.ext hwq)
  clear hwq H3 HC3 HR3
  have r0 : wq.cell? ⟨w.heap.size, 0, none⟩ = some (.int .i64 (i : Int)) := HR4.out.cell 0
  have x3 : wq.cell? ⟨x, 3, none⟩ = some (.slice FA free.length cF) := H4.out.blk.cell 3
  go_upto_region 8 with fail
  have r0 := cell_ext r0
  have x3 := cell_ext x3
  refine wp_region_extp 8 (by kernel_rfl) (by kernel_rfl) (by kernel_rfl) ?_
  refine ⟨_, _, ?_, rfl, ?_⟩; rotate_left
  refine ⟨⟨by kernel_rfl, fun w9 => ?_⟩, fun _ _ _ h => h, fun K hK => ?_⟩
  · go_simp; first | done | rfl
  go_simp; refine hK _ _ ?_; clear hK K
  iterate 6
    refine wpE_k (by kernel_rfl) (by kernel_rfl) ?_
    apply Exists.intro
    refine ⟨fun w1 hw1 => ?_, fun K hK => ?_⟩
    · go_simp; first | done | rfl
    go_simp; refine hK _ _ ?_; clear hK K
  refine wpE_p [] (fun u w1 => ∃ gb, u = .slice (some ⟨gb, 0, none⟩) 1 1 ∧ Blk w1 gb 3 #[.int .i64 (i : Int)]) (fun u w1 w2 _ h2 ⟨gb, h3, h4⟩ => ⟨gb, h3, h4.ext h2⟩) rfl (by kernel_rfl) (fun w1 hw1 => ?_) ?_
  · simp only [LookQ]
    go_simp
    exact ⟨Ext.alloc _ _, Blk.new _ _ _⟩
  refine wpE_nil ⟨rfl, by kernel_rfl, fun w5 hw5 => ?_⟩
  simp only [EndQ]
  rintro _ ⟨gb, rfl, hgb⟩
  simp only [List.drop]
  clear r0 x3
  have H5 := hide (H4.out.ext hw5); have HC5 := hide (HC4.out.trans' (Chg.of hw5))
  have HS := hide (show Sl w5 (some ⟨gb, 0, none⟩) 1 1 [.int .i64 (i : Int)] from hgb.sl rfl)
  have HONE := hide (show OneCells [Value.int .i64 (i : Int)] from fun v hv => by simp at hv; rw [hv]; rfl)
  have HSZ := hide HC5.out.size
  clear hgb hw5 H4 HC4 HR4
  obtain ⟨i0, hi0, hz0, hz1, hz2⟩ := info_parts infoI
  go_wp2_with (at_builtin; refine wpList_append_b rfl (.tmp 39) (.tmp 42) _ rfl B 3 i0 _ 1 8 Try.underlying23 hi0 hz0 hz1 hz2 rfl (by omega) (.slice FA free.length cF) free.length (natC free) rfl H5.out.oF _ 1 1 _ rfl HS.out HONE.out (by unfold maxLen; omega) (by omega) ?_; intro A8 c8 w8 own8 G8 C8; have hb8 := H5.out.blk.grown G8.out (own_ne_blk H5.out.oF.own H5.out.blk (by decide)); have f8 := hb8.frozen 3; have v8 := hb8.cell 3; clear hb8)
  go_ret
  have hp := H5.out.push (k := i) own8.out (fun b hb => .inl hb) G8.out
  have hC := (HC5.out.trans' C8.out).setCell (p := ⟨x, 3, none⟩) (.inl hIN.out.1) (.slice A8 (free.length + 1) c8)
  refine ⟨rfl, fun b => (B b ∨ b = w5.heap.size) ∧ b < (w8.setCell ⟨x, 3, none⟩ (.slice A8 (free.length + 1) c8)).heap.size, ⟨⟨_, _, _, _, ⟨hp.blk, ⟨hp.oS.own, fun g hg => ⟨hp.oS.inB g hg, hp.oS.lt g hg⟩⟩, ⟨hp.oF.own, fun g hg => ⟨hp.oF.inB g hg, hp.oF.lt g hg⟩⟩, hp.inB, hp.blk.lt⟩⟩, HOK.out, fun b hb => hb.2, hmm, HGEN.out⟩, fun b hb => ?_, hC⟩
  rcases hb.1 with hb | hb
  · exact .inl hb
  · right; have := HSZ.out; omega

/-- what a Take does to an arena: it took slot i -/
structure TookI (most : Nat) (sl : List (Slt Value)) (free : List Nat) (v : Value) (i : Nat) (sl' : List (Slt Value)) (free' : List Nat) : Prop where
  fs : fsOf most sl free = i :: fsOf most sl' free'
  th : ∀ j, thg sl' j = if j = i then some v else thg sl j
  ge : ∀ j, genA sl' j = if j = i then genA sl i + 1 else genA sl j
theorem ArAtI.to {w : World} {B : Nat → Prop} {x most : Nat} {SA : Option Addr} {cS : Nat} {FA : Option Addr} {cF : Nat} {sl : List (Slt Value)} {free : List Nat} {live : Nat} (h : ArAtI w B x most SA cS FA cF sl free live) : ArAtI w (fun b => B b ∧ b < w.heap.size) x most SA cS FA cF sl free live :=
  ⟨h.blk, ⟨h.oS.own, fun g hg => ⟨h.oS.inB g hg, h.oS.lt g hg⟩⟩, ⟨h.oF.own, fun g hg => ⟨h.oF.inB g hg, h.oF.lt g hg⟩⟩, h.inB, h.blk.lt⟩
theorem ArAtI.far0 {w : World} {B : Nat → Prop} {x most : Nat} {SA : Option Addr} {cS : Nat} {FA : Option Addr} {cF : Nat} {sl : List (Slt Value)} {free : List Nat} {live b : Nat} {cs : Array Value} (h : ArAtI w B x most SA cS FA cF sl free live) (hb : Blk w b 132 cs) (j : Nat) (u : Value) : ArAtI (w.setCell ⟨b, j, none⟩ u) B x most SA cS FA cF sl free live :=
  ⟨h.blk.far (p := ⟨b, j, none⟩) (fun e => by have h1 := h.blk; rw [← show x = b from e] at hb; have h2 := hb.symm.trans h1; injection h2 with h2; injection h2 with _ h2; revert h2; decide) u, h.oS.far hb (by decide) j u, h.oF.far hb (by decide) j u, h.inB⟩
theorem genA_at {l : List (Slt Value)} {i g : Nat} {o : Option Value} (h : l[i]? = some (g, o)) : genA l i = g := by unfold genA; rw [h]; rfl

set_option maxRecDepth 100000 in
set_option maxHeartbeats 1000000 in
theorem arena_takeI_1 {w : World} {B : Nat → Prop} {x most : Nat} {sl : List (Slt Value)} {free : List Nat} {i live : Nat} {vk : Int} (h : HArI w B x most sl (free ++ [i]) live)  (hg : ∀ i, genA sl i < 1073741824) :
    Calls Try.prog 97 #[.pointer (some ⟨x, 0, none⟩), (.int .i64 vk)] w fun e w' => ∃ s sl' free', TookI most sl (free ++ [i]) (.int .i64 vk) s sl' free' ∧ e = .returned (.tuple #[.agg #[.int .i64 s, .int .i64 ((genA sl s : Nat) + 1 : Int)], .int .i64 0]) ∧ ArRI w B x most sl' free' (live + 1) w' := by
  obtain ⟨SA, cS, FA, cF, h1⟩ := h.mem
  have hfl : ((free ++ [i]) : List Nat).length + live ≤ 1048576 := by have := h.ok.live; have := h.ok.len; have := h.mm; omega
  have hsl : sl.length ≤ 1048576 := by have := h.ok.len; have := h.mm; omega
  have hE := hide (Ext.alloc w (.cells #[.int .i64 0, .int .i64 0] 132))
  have hBr := hide (Blk.new w 132 #[.int .i64 0, .int .i64 0])
  have H1 := hide (h1.ext hE.out)
  have HLT := hide h.lt; have HOK := hide h.ok; have hmm := h.mm; have HGEN := hide h.gen; have HG := hide hg
  have hxB := hide h1.inB
  have hxR : x ≠ w.heap.size := fun e => by have := h.lt x h1.inB; omega
  obtain ⟨g, hgi⟩ := (h.ok.dead i).1 (by simp)
  have hil := (List.getElem?_eq_some_iff.1 hgi).1
  have hgl : (g : Int) < 1073741824 := by have := hg i; rw [genA_at hgi] at this; omega
  have hF1 : (0 : Int) < ((free ++ [i]).length : Int) := by simp
  have hFl : ((free ++ [i]).length : Int) - 1 = (free.length : Int) := by simp
  have hwr : IntKind.i64.wrap (free.length : Int) = (free.length : Int) := IntWalk.i64_in _ (by simp at hfl; omega)
  have hlt1 : (free.length : Int) < (free.length : Int) + 1 := by omega
  have hFn : (free ++ [i]).length = free.length + 1 := by simp
  obtain ⟨gF, hgF, hFB, hFlt, hFc, hFf⟩ := h1.oF.at_ (by simp)
  have hFe : (natC (free ++ [i]))[free.length]? = some (.int .i64 (i : Int)) := by simp [natC]
  obtain rfl := hgF
  have c1 : (w.alloc (.cells #[.int .i64 0, .int .i64 0] 132)).cell? ⟨gF, free.length, none⟩ = some (.int .i64 (i : Int)) := hE.out.cell (hFc _ _ hFe)
  have x2 : (w.alloc (.cells #[.int .i64 0, .int .i64 0] 132)).cell? ⟨x, 2, none⟩ = some (.slice SA sl.length cS) := H1.out.blk.cell 2
  have x3 : (w.alloc (.cells #[.int .i64 0, .int .i64 0] 132)).cell? ⟨x, 3, none⟩ = some (.slice (some ⟨gF, 0, none⟩) (free ++ [i]).length cF) := H1.out.blk.cell 3
  have hcap := h1.oF.cap
  rw [hFn] at hcap hF1 hFl x3
  have hcap2 : free.length ≤ cF := by omega
  clear h h1 hg hFc hFf hFe
  go_enter Try.func97, Try.ntmps97
  go_upto_region 4 with fail
  generalize w.alloc (.cells #[.int .i64 0, .int .i64 0] 132) = w1 at *
  have c1 := cell_ext c1; have x3 := cell_ext x3
  refine wp_region_ext 13 (by kernel_rfl) (by kernel_rfl) (by kernel_rfl) ?_
  iterate 13
    refine wpE_k (by kernel_rfl) (by kernel_rfl) ?_
    apply Exists.intro
    refine ⟨fun w1 hw1 => ?_, fun K hK => ?_⟩
    · go_simp; first | done | rfl
    go_simp; refine hK _ _ ?_; clear hK K
  refine wpE_nil ⟨rfl, by kernel_rfl, fun wq hwq => ?_⟩
  simp only [EndQ]
  refine wpList_nil ?_
  have X1 := hide hwq
  clear c1 x3
  have H2 := hide (H1.out.ext X1.out)
  have x3 : wq.cell? ⟨x, 3, none⟩ = some (.slice (some ⟨gF, 0, none⟩) (free.length + 1) cF) := by have := H2.out.blk.cell 3; rw [hFn] at this; exact this
  have x3 := cell_ext x3
  clear hwq
  go_upto_region 5 with fail
  refine wp_region_ext 14 (by kernel_rfl) (by kernel_rfl) (by kernel_rfl) ?_
  iterate 14
    refine wpE_k (by kernel_rfl) (by kernel_rfl) ?_
    apply Exists.intro
    refine ⟨fun w1 hw1 => ?_, fun K hK => ?_⟩
    · go_simp; first | done | rfl
    go_simp; refine hK _ _ ?_; clear hK K
  refine wpE_nil ⟨rfl, by kernel_rfl, fun w5 hw5 => ?_⟩
  simp only [EndQ, List.drop]
  clear x3
  have X5 := hide (X1.out.trans hw5)
  have H5 := hide (H2.out.ext hw5)
  have f3 : w5.frozen? ⟨x, 3, none⟩ = false := H5.out.blk.frozen 3
  have x3 : w5.cell? ⟨x, 3, none⟩ = some (.slice (some ⟨gF, 0, none⟩) (free.length + 1) cF) := by have := H5.out.blk.cell 3; rw [hFn] at this; exact this
  clear hw5 H2 X1
  go_upto_region 8 with fail
  have H6 := hide H5.out.pop
  have HC6 := hide ((Chg.of (hE.out.trans X5.out) : Chg B w w5).setCell (p := ⟨x, 3, none⟩) (.inl hxB.out) (.slice (some ⟨gF, 0, none⟩) free.length cF))
  have HR6 := hide ((hBr.out.ext X5.out).far (p := ⟨x, 3, none⟩) (Ne.symm hxR) (.slice (some ⟨gF, 0, none⟩) free.length cF))
  have HCB := hide (show ∀ b, B b → B b ∨ w.heap.size ≤ b from fun b hb => .inl hb)
  have HI := hide hgi
  have HTOOK := hide (show TookI most sl (free ++ [i]) (.int .i64 vk) i (sl.set i (g + 1, some (.int .i64 vk))) free ∧ genA sl i = g ∧ ArOk most (sl.set i (g + 1, some (.int .i64 vk))) free (live + 1) from ⟨⟨(HOK.out.take1 hgi (.int .i64 vk)).2, fun j => thg_set hil, fun j => by rw [genA_set hil, genA_at hgi]⟩, genA_at hgi, (HOK.out.take1 hgi (.int .i64 vk)).1⟩)
  clear f3 x3 hgi H5 X5 hBr H1 x2
  generalize w5.setCell ⟨x, 3, none⟩ (.slice (some ⟨gF, 0, none⟩) free.length cF) = w6 at *
  obtain ⟨gS, rfl, hgC, hgx, hgS, k0, k1, k2, kf⟩ := H6.out.slot HI.out
  replace k0 : w6.cell? ⟨gS, i * 3, none⟩ = some (.int .i64 (g : Int)) := k0
  replace k1 : w6.cell? ⟨gS, i * 3 + 1, none⟩ = some (.bool false) := k1
  replace k2 : w6.cell? ⟨gS, i * 3 + 2, none⟩ = some (.int .i64 0) := k2
  have hgR : w.heap.size ≠ gS := fun e => own_type H6.out.oS.own HR6.out (by decide) (by rw [← e]; rfl)
  have f0 := kf (i * 3); have f1 := kf (i * 3 + 1); have f2 := kf (i * 3 + 2)
  have x2 : w6.cell? ⟨x, 2, none⟩ = some (.slice (some ⟨gS, 0, none⟩) sl.length cS) := H6.out.blk.cell 2
  have x4 : w6.cell? ⟨x, 4, none⟩ = some (.int .i64 live) := H6.out.blk.cell 4
  have fx : w6.frozen? ⟨x, 4, none⟩ = false := H6.out.blk.frozen 4
  have hcapS := H6.out.oS.cap
  have hiS := (List.getElem?_eq_some_iff.1 HI.out).1
  have hxg := Ne.symm hgx
  clear kf
  go_upto_region 12 with fail
  have hg1 : ((g + 1 : Nat) : Int) = (g : Int) + 1 := rfl
  have H7 := hide ((H6.out.set3 (i := i) (g + 1, some (.int .i64 vk))).setX (live + 1) ((live : Int) + 1) rfl)
  dsimp only [Option.isSome, Option.getD] at H7
  rw [hg1] at H7
  have hCgS := HCB.out _ hgC
  have HC7 := hide ((((HC6.out.setCell (p := ⟨gS, i * 3, none⟩) hCgS (.int .i64 ((g : Int) + 1))).setCell (p := ⟨gS, i * 3 + 1, none⟩) hCgS (.bool true)).setCell (p := ⟨gS, i * 3 + 2, none⟩) hCgS (.int .i64 vk)).setCell (p := ⟨x, 4, none⟩) (.inl hxB.out) (.int .i64 ((live : Int) + 1)))
  have HR7 := hide ((((HR6.out.far (p := ⟨gS, i * 3, none⟩) hgR (.int .i64 ((g : Int) + 1))).far (p := ⟨gS, i * 3 + 1, none⟩) hgR (.bool true)).far (p := ⟨gS, i * 3 + 2, none⟩) hgR (.int .i64 vk)).far (p := ⟨x, 4, none⟩) (Ne.symm hxR) (.int .i64 ((live : Int) + 1)))
  clear k0 k1 k2 f0 f1 f2 x2 x4 fx H6 HR6 HC6
  generalize (((w6.setCell ⟨gS, i * 3, none⟩ (.int .i64 ((g : Int) + 1))).setCell ⟨gS, i * 3 + 1, none⟩ (.bool true)).setCell ⟨gS, i * 3 + 2, none⟩ (.int .i64 vk)).setCell ⟨x, 4, none⟩ (.int .i64 ((live : Int) + 1)) = w7 at *
  have hs7 : (sl.set i (g + 1, some (.int .i64 vk)))[i]? = some (g + 1, some (.int .i64 vk)) := List.getElem?_set_self hiS
  obtain ⟨g6, eg, -, -, -, k0, -, -, -⟩ := H7.out.slot hs7
  obtain rfl : gS = g6 := (by injection eg with eg; injection eg)
  replace k0 : w7.cell? ⟨gS, i * 3, none⟩ = some (.int .i64 ((g : Int) + 1)) := k0
  have r0 : w7.cell? ⟨w.heap.size, 0, none⟩ = some (.int .i64 0) := HR7.out.cell 0
  have r1 : w7.cell? ⟨w.heap.size, 1, none⟩ = some (.int .i64 0) := HR7.out.cell 1
  have q0 : w7.frozen? ⟨w.heap.size, 0, none⟩ = false := HR7.out.frozen 0
  have q1 : w7.frozen? ⟨w.heap.size, 1, none⟩ = false := HR7.out.frozen 1
  clear eg
  go_wp2_with fail
  have s0 : ((w7.setCell ⟨w.heap.size, 0, none⟩ (.int .i64 i)).setCell ⟨w.heap.size, 1, none⟩ (.int .i64 ((g : Int) + 1))).cell? ⟨w.heap.size, 0, none⟩ = some (.int .i64 i) := ((HR7.out.set_ 0 (.int .i64 i)).set_ 1 (.int .i64 ((g : Int) + 1))).cell 0
  have s1 : ((w7.setCell ⟨w.heap.size, 0, none⟩ (.int .i64 i)).setCell ⟨w.heap.size, 1, none⟩ (.int .i64 ((g : Int) + 1))).cell? ⟨w.heap.size, 1, none⟩ = some (.int .i64 ((g : Int) + 1)) := ((HR7.out.set_ 0 (.int .i64 i)).set_ 1 (.int .i64 ((g : Int) + 1))).cell 1
  refine bodyPost_ret (v := .tuple #[.agg #[.int .i64 i, .int .i64 ((g : Int) + 1)], .int .i64 0]) (by simp [results, Try.results97, go_sem, s0, s1]) rfl ?_
  have H8 := ((H7.out.far0 HR7.out 0 (.int .i64 i)).far0 (HR7.out.set_ 0 (.int .i64 i)) 1 (.int .i64 ((g : Int) + 1))).to
  have HC8 := (HC7.out.setCell (p := ⟨w.heap.size, 0, none⟩) (.inr (Nat.le_refl _)) (.int .i64 i)).setCell (p := ⟨w.heap.size, 1, none⟩) (.inr (Nat.le_refl _)) (.int .i64 ((g : Int) + 1))
  have HT := HTOOK.out
  refine ⟨i, _, _, HT.1, by rw [HT.2.1], _, ⟨⟨_, _, _, _, H8⟩, HT.2.2, fun b hb => hb.2, hmm, fun j => ?_⟩, fun b hb => HCB.out b hb.1, HC8⟩
  have h9 := HT.1.ge j
  rw [h9]
  split
  · have := HG.out i; omega
  · exact HGEN.out j

set_option maxRecDepth 100000 in
set_option maxHeartbeats 1000000 in
theorem arena_takeI_2 {w : World} {B : Nat → Prop} {x most : Nat} {sl : List (Slt Value)} {live : Nat} {vk : Int} (h : HArI w B x most sl [] live) (hn : sl.length < most) (hg : ∀ i, genA sl i < 1073741824) :
    Calls Try.prog 97 #[.pointer (some ⟨x, 0, none⟩), (.int .i64 vk)] w fun e w' => ∃ s sl' free', TookI most sl [] (.int .i64 vk) s sl' free' ∧ e = .returned (.tuple #[.agg #[.int .i64 s, .int .i64 ((genA sl s : Nat) + 1 : Int)], .int .i64 0]) ∧ ArRI w B x most sl' free' (live + 1) w' := by
  obtain ⟨SA, cS, FA, cF, h1⟩ := h.mem
  have hfl : ([] : List Nat).length + live ≤ 1048576 := by have := h.ok.live; have := h.ok.len; have := h.mm; omega
  have hsl : sl.length ≤ 1048576 := by have := h.ok.len; have := h.mm; omega
  have hE := hide (Ext.alloc w (.cells #[.int .i64 0, .int .i64 0] 132))
  have hBr := hide (Blk.new w 132 #[.int .i64 0, .int .i64 0])
  have H1 := hide (h1.ext hE.out)
  have HLT := hide h.lt; have HOK := hide h.ok; have hmm := h.mm; have HGEN := hide h.gen; have HG := hide hg
  have hxB := hide h1.inB
  have hxR : x ≠ w.heap.size := fun e => by have := h.lt x h1.inB; omega
  have hil : ¬ (0 : Int) < (([] : List Nat).length : Int) := by simp
  have hsm : (sl.length : Int) < (most : Int) := by omega
  have x0 : (w.alloc (.cells #[.int .i64 0, .int .i64 0] 132)).cell? ⟨x, 0, none⟩ = some (.int .i64 most) := H1.out.blk.cell 0
  have x2 : (w.alloc (.cells #[.int .i64 0, .int .i64 0] 132)).cell? ⟨x, 2, none⟩ = some (.slice SA sl.length cS) := H1.out.blk.cell 2
  have x3 : (w.alloc (.cells #[.int .i64 0, .int .i64 0] 132)).cell? ⟨x, 3, none⟩ = some (.slice FA 0 cF) := H1.out.blk.cell 3
  have HN := hide hn
  clear h h1 hg
  go_enter Try.func97, Try.ntmps97
  go_upto_region 7 with fail
  generalize hw1 : w.alloc (.cells #[.int .i64 0, .int .i64 0] 132) = w1 at *
  have HS1 := hide (hE.out.size)
  clear hw1
  have HS := hide (show Sl (w1.alloc (.cells #[.int .i64 0, .bool false, .int .i64 0] 202)) (some ⟨w1.heap.size, 0, none⟩) 1 3 [.int .i64 0, .bool false, .int .i64 0] from (Blk.new w1 _ _).sl rfl)
  have HONE := hide (show OneCells [Value.int .i64 0, .bool false, .int .i64 0] from fun v hv => by simp at hv; rcases hv with hv | hv | hv <;> rw [hv] <;> rfl)
  have HO := hide (H1.out.ext (Ext.alloc w1 (.cells #[.int .i64 0, .bool false, .int .i64 0] 202)))
  have HE2 := hide (hE.out.trans (Ext.alloc w1 (.cells #[.int .i64 0, .bool false, .int .i64 0] 202)))
  have HRB := hide (hBr.out.ext (Ext.alloc w1 (.cells #[.int .i64 0, .bool false, .int .i64 0] 202)))
  obtain ⟨i0, hi0, hz0, hz1, hz2⟩ := info_parts infoSlI
  go_upto_region 8 with (at_builtin; refine wpList_append_b rfl (.tmp 58) (.tmp 60) _ rfl B 202 i0 _ 3 24 Try.underlying137 hi0 hz0 hz1 hz2 rfl (by omega) (.slice SA sl.length cS) sl.length (slCI sl) rfl HO.out.oS _ 1 1 _ rfl HS.out HONE.out (by unfold maxLen; omega) (by omega) ?_; intro A8 c8 w8 own8 G8 C8; have hb8 := (HO.out.blk.grown G8.out (own_ne_blk HO.out.oS.own HO.out.blk (by decide))); have f8 := hb8.frozen 2; have v8 := hb8.cell 2; clear hb8)
  have HRG := hide (HRB.out.grown G8.out (own_ne_blk HO.out.oS.own HRB.out (by decide)))
  obtain ⟨i, hisl⟩ : ∃ i, i = sl.length := ⟨_, rfl⟩
  obtain ⟨g, hg0⟩ : ∃ g : Nat, g = 0 := ⟨_, rfl⟩
  have hgl : (g : Int) < 1073741824 := by omega
  have HI := hide (show (sl ++ [(g, none)])[i]? = some (g, none) by rw [hisl]; simp)
  have hil9 : i < (sl ++ [(g, (none : Option Value))]).length := by rw [hisl]; simp
  have HTOOK := hide (show TookI most sl [] (.int .i64 vk) i ((sl ++ [(g, none)]).set i (g + 1, some (.int .i64 vk))) [] ∧ genA sl i = g ∧ ArOk most ((sl ++ [(g, none)]).set i (g + 1, some (.int .i64 vk))) [] (live + 1) by
    have e9 : (sl ++ [(g, (none : Option Value))]).set i (g + 1, some (.int .i64 vk)) = sl ++ [(1, some (.int .i64 vk))] := by rw [hisl, hg0]; simp
    have e8 : genA sl i = 0 := by rw [hisl]; simp [genA]
    rw [e9, hg0, e8]
    exact ⟨⟨by rw [hisl]; exact (HOK.out.take2 HN.out (.int .i64 vk)).2, fun j => by rw [thg_snoc, hisl], fun j => by rw [genA_snoc, e8, hisl]⟩, rfl, (HOK.out.take2 HN.out (.int .i64 vk)).1⟩)
  have H6 := hide (show ArAtI (w8.setCell ⟨x, 2, none⟩ (.slice A8 (sl.length + 1) c8)) (fun b => B b ∨ b = (w1.alloc (.cells #[.int .i64 0, .bool false, .int .i64 0] 202)).heap.size) x most A8 c8 FA cF (sl ++ [(g, none)]) [] live by rw [hg0]; exact HO.out.grow own8.out (fun b hb => .inl hb) G8.out)
  have HC6 := hide (((Chg.of HE2.out : Chg B _ _).trans' C8.out).setCell (p := ⟨x, 2, none⟩) (.inl hxB.out) (.slice A8 (sl.length + 1) c8))
  have HR6 := hide (HRG.out.far (p := ⟨x, 2, none⟩) (Ne.symm hxR) (.slice A8 (sl.length + 1) c8))
  have HCB := hide (show ∀ b, (B b ∨ b = (w1.alloc (.cells #[.int .i64 0, .bool false, .int .i64 0] 202)).heap.size) → B b ∨ w.heap.size ≤ b from fun b hb => hb.imp id fun e => by rw [e]; exact HE2.out.size)
  have hsn : (sl.length : Int) = (i : Int) := by rw [hisl]
  generalize w8.setCell ⟨x, 2, none⟩ (.slice A8 (sl.length + 1) c8) = w6 at *
  clear own8 G8 C8 f8 v8 x0 x2 x3 HRG HRB HE2 HO HS HONE HS1 H1 hBr hE
  rw [hsn]
  generalize hSM : sl ++ [(g, (none : Option Value))] = sm at *
  clear hSM hil9 hsn hg0 hisl hsm hil
  obtain ⟨gS, rfl, hgC, hgx, hgS, k0, k1, k2, kf⟩ := H6.out.slot HI.out
  replace k0 : w6.cell? ⟨gS, i * 3, none⟩ = some (.int .i64 (g : Int)) := k0
  replace k1 : w6.cell? ⟨gS, i * 3 + 1, none⟩ = some (.bool false) := k1
  replace k2 : w6.cell? ⟨gS, i * 3 + 2, none⟩ = some (.int .i64 0) := k2
  have hgR : w.heap.size ≠ gS := fun e => own_type H6.out.oS.own HR6.out (by decide) (by rw [← e]; rfl)
  have f0 := kf (i * 3); have f1 := kf (i * 3 + 1); have f2 := kf (i * 3 + 2)
  have x2 : w6.cell? ⟨x, 2, none⟩ = some (.slice (some ⟨gS, 0, none⟩) sm.length c8) := H6.out.blk.cell 2
  have x4 : w6.cell? ⟨x, 4, none⟩ = some (.int .i64 live) := H6.out.blk.cell 4
  have fx : w6.frozen? ⟨x, 4, none⟩ = false := H6.out.blk.frozen 4
  have hcapS := H6.out.oS.cap
  have hiS := (List.getElem?_eq_some_iff.1 HI.out).1
  have hxg := Ne.symm hgx
  clear kf
  go_upto_region 12 with fail
  have hg1 : ((g + 1 : Nat) : Int) = (g : Int) + 1 := rfl
  have H7 := hide ((H6.out.set3 (i := i) (g + 1, some (.int .i64 vk))).setX (live + 1) ((live : Int) + 1) rfl)
  dsimp only [Option.isSome, Option.getD] at H7
  rw [hg1] at H7
  have hCgS := HCB.out _ hgC
  have HC7 := hide ((((HC6.out.setCell (p := ⟨gS, i * 3, none⟩) hCgS (.int .i64 ((g : Int) + 1))).setCell (p := ⟨gS, i * 3 + 1, none⟩) hCgS (.bool true)).setCell (p := ⟨gS, i * 3 + 2, none⟩) hCgS (.int .i64 vk)).setCell (p := ⟨x, 4, none⟩) (.inl hxB.out) (.int .i64 ((live : Int) + 1)))
  have HR7 := hide ((((HR6.out.far (p := ⟨gS, i * 3, none⟩) hgR (.int .i64 ((g : Int) + 1))).far (p := ⟨gS, i * 3 + 1, none⟩) hgR (.bool true)).far (p := ⟨gS, i * 3 + 2, none⟩) hgR (.int .i64 vk)).far (p := ⟨x, 4, none⟩) (Ne.symm hxR) (.int .i64 ((live : Int) + 1)))
  clear k0 k1 k2 f0 f1 f2 x2 x4 fx H6 HR6 HC6
  generalize (((w6.setCell ⟨gS, i * 3, none⟩ (.int .i64 ((g : Int) + 1))).setCell ⟨gS, i * 3 + 1, none⟩ (.bool true)).setCell ⟨gS, i * 3 + 2, none⟩ (.int .i64 vk)).setCell ⟨x, 4, none⟩ (.int .i64 ((live : Int) + 1)) = w7 at *
  have hs7 : (sm.set i (g + 1, some (.int .i64 vk)))[i]? = some (g + 1, some (.int .i64 vk)) := List.getElem?_set_self hiS
  obtain ⟨g6, eg, -, -, -, k0, -, -, -⟩ := H7.out.slot hs7
  obtain rfl : gS = g6 := (by injection eg with eg; injection eg)
  replace k0 : w7.cell? ⟨gS, i * 3, none⟩ = some (.int .i64 ((g : Int) + 1)) := k0
  have r0 : w7.cell? ⟨w.heap.size, 0, none⟩ = some (.int .i64 0) := HR7.out.cell 0
  have r1 : w7.cell? ⟨w.heap.size, 1, none⟩ = some (.int .i64 0) := HR7.out.cell 1
  have q0 : w7.frozen? ⟨w.heap.size, 0, none⟩ = false := HR7.out.frozen 0
  have q1 : w7.frozen? ⟨w.heap.size, 1, none⟩ = false := HR7.out.frozen 1
  clear eg
  go_wp2_with fail
  have s0 : ((w7.setCell ⟨w.heap.size, 0, none⟩ (.int .i64 i)).setCell ⟨w.heap.size, 1, none⟩ (.int .i64 ((g : Int) + 1))).cell? ⟨w.heap.size, 0, none⟩ = some (.int .i64 i) := ((HR7.out.set_ 0 (.int .i64 i)).set_ 1 (.int .i64 ((g : Int) + 1))).cell 0
  have s1 : ((w7.setCell ⟨w.heap.size, 0, none⟩ (.int .i64 i)).setCell ⟨w.heap.size, 1, none⟩ (.int .i64 ((g : Int) + 1))).cell? ⟨w.heap.size, 1, none⟩ = some (.int .i64 ((g : Int) + 1)) := ((HR7.out.set_ 0 (.int .i64 i)).set_ 1 (.int .i64 ((g : Int) + 1))).cell 1
  refine bodyPost_ret (v := .tuple #[.agg #[.int .i64 i, .int .i64 ((g : Int) + 1)], .int .i64 0]) (by simp [results, Try.results97, go_sem, s0, s1]) rfl ?_
  have H8 := ((H7.out.far0 HR7.out 0 (.int .i64 i)).far0 (HR7.out.set_ 0 (.int .i64 i)) 1 (.int .i64 ((g : Int) + 1))).to
  have HC8 := (HC7.out.setCell (p := ⟨w.heap.size, 0, none⟩) (.inr (Nat.le_refl _)) (.int .i64 i)).setCell (p := ⟨w.heap.size, 1, none⟩) (.inr (Nat.le_refl _)) (.int .i64 ((g : Int) + 1))
  have HT := HTOOK.out
  refine ⟨i, _, _, HT.1, by rw [HT.2.1], _, ⟨⟨_, _, _, _, H8⟩, HT.2.2, fun b hb => hb.2, hmm, fun j => ?_⟩, fun b hb => HCB.out b hb.1, HC8⟩
  have h9 := HT.1.ge j
  rw [h9]
  split
  · have := HG.out i; omega
  · exact HGEN.out j
end Go.Proofs.Ytahdiiaadjdmcaa

namespace Go.Proofs.Ytahdiiaadjdmcaa
open Go.RowKit

def valElem : Value → Option (DataW Value × List MemPlace) := fun v => some (.held v, [])
def ikey (x : Nat) : Lit := .int .i64 (x : Int)
theorem ikey_inj {x y : Nat} (h : ikey x = ikey y) : x = y := by
  unfold ikey at h
  injection h with _ h
  omega
theorem ikey_lit (x : Nat) : WideAt.IsKeyLit (ikey x) := by unfold ikey WideAt.IsKeyLit; trivial
theorem ikeyed : Maps.Keyed Try.prog 3 := Maps.int_keyed Try.underlying3
theorem ikey_of {x : Nat} (h : x ≤ 4611686018427387904) : keyOf Try.prog 3 (.int .i64 (x : Int)) = some (ikey x) :=
  Maps.keyOf_int_mk Try.underlying3 (by
    have e1 : IntKind.i64.min = -9223372036854775808 := by rfl
    have e2 : IntKind.i64.max = 9223372036854775807 := by rfl
    simp only [Lit.wf, e1, e2, Bool.and_eq_true, decide_eq_true_eq]; omega)

abbrev IMap : Type := Nat → Option Value
def IMap.put (σ : IMap) (x : Nat) (v : Value) : IMap := fun y => if y = x then some v else σ y
def IMap.del (σ : IMap) (x : Nat) : IMap := fun y => if y = x then none else σ y

/-- block b is a map of at most n entries: σ -/
def MapI (w : World) (b n : Nat) (σ : IMap) : Prop :=
  ∃ D : DataW Value, w.ownsMap Try.prog 3 valElem b n D ∧ ∀ x, Maps.has D (ikey x) = (σ x).isSome ∧ ∀ v, σ x = some v → ∀ z, D.atKey (ikey x) z = .held v
theorem MapI.made (w : World) : MapI (w.alloc (.map #[] 0)) w.heap.size 0 (fun _ => none) :=
  ⟨_, World.ownsMap_made w _ _ _, fun x => ⟨rfl, fun v h => by cases h⟩⟩
theorem MapI.mono {w : World} {b n n' : Nat} {σ : IMap} (h : MapI w b n σ) (hn : n ≤ n') : MapI w b n' σ := by
  obtain ⟨D, h1, h2⟩ := h
  exact ⟨D, h1.mono hn, h2⟩
theorem MapI.block {w w' : World} {b n : Nat} {σ : IMap} (h : MapI w b n σ) (hb : w'.heap[b]? = w.heap[b]?) : MapI w' b n σ := by
  obtain ⟨D, ⟨es, clock, h1, h3⟩, h2⟩ := h
  exact ⟨D, ⟨es, clock, hb.trans h1, h3⟩, h2⟩
theorem MapI.lt {w : World} {b n : Nat} {σ : IMap} (h : MapI w b n σ) : b < w.heap.size := by
  obtain ⟨D, ⟨es, clock, h1, h3⟩, h2⟩ := h
  rcases Nat.lt_or_ge b w.heap.size with hlt | hge
  · exact hlt
  · rw [Array.getElem?_eq_none hge] at h1; cases h1
theorem MapI.ext {w w' : World} {b n : Nat} {σ : IMap} (h : MapI w b n σ) (hw : Ext w w') : MapI w' b n σ := h.block (hw.block h.lt)
theorem MapI.ne_blk {w : World} {b n g : Nat} {σ : IMap} {t : TypeId} {cs : Array Value} (h : MapI w b n σ) (hb : Blk w g t cs) : b ≠ g := fun e => by
  subst e
  obtain ⟨D, ⟨es, clock, h1, h3⟩, h2⟩ := h
  unfold Blk at hb
  rw [h1] at hb
  cases hb
theorem turned_block {w w' : World} {b k : Nat} (h : w.mapTurned w' b) (hk : k ≠ b) : w'.heap[k]? = w.heap[k]? := by
  obtain ⟨es, clock, es', clock', hb, rfl⟩ := h
  exact ChangeMaps.heap_setBlock_other hb _ hk
theorem turned_blk {w w' : World} {b g : Nat} {t : TypeId} {cs : Array Value} (h : w.mapTurned w' b) (hg : Blk w g t cs) (hb : g ≠ b) : Blk w' g t cs := (turned_block h hb).trans hg

theorem run_imap {w : World} (t e : TypeId) (ht : Try.prog.underlying t = some (.map 3 e)) {z : Value} (hz : ∀ w, (zeroValue e).run Try.prog w = .ok z w) {b n : Nat} {σ : IMap} (h : MapI w b n σ) {k : Nat} (hk : k ≤ 4611686018427387904) :
    (Instr.lookup t (.map (some b)) (.int .i64 (k : Int)) false).run Try.prog w = .ok ((σ k).getD z) w := by
  obtain ⟨D, h1, h2⟩ := h
  obtain ⟨v, ps, hrun, hv⟩ := h1.lookup ikeyed ht (hz w) (zd := .held z) (zp := []) rfl (ikey_of hk)
  have hv' : DataW.held v = D.atKey (ikey k) (.held z) := by simpa [valElem] using congrArg (fun o => o.map Prod.fst) hv
  cases hs : σ k with
  | none =>
    have := Maps.atKey_of_not_has (D := D) (k := ikey k) (by rw [(h2 k).1, hs]; rfl) (.held z)
    rw [this] at hv'
    obtain rfl := DataW.held.inj hv'
    exact hrun
  | some u =>
    rw [(h2 k).2 u hs] at hv'
    obtain rfl := DataW.held.inj hv'
    exact hrun
section
variable {w : World} {ops : Array Oper} {rest : List Oper} {o : Oper} {a : Act} {Q : Exit → Act → World → Prop}
theorem wpList_imap_put (hg : o.guard = none) (m x v : Operand) (t e : TypeId) (hop : o.op = Op.mapUpdate t m x v) (ht : Try.prog.underlying t = some (.map 3 e))
    (b n : Nat) (σ : IMap) (hm : a.eval m = .map (some b)) (hown : MapI w b n σ) (hn : n < maxLen) (k : Nat) (val : Value) (hx : a.eval x = .int .i64 (k : Int)) (hv : a.eval v = val) (hk : k ≤ 4611686018427387904)
    (hK : ∀ w', Hid (MapI w' b (n + 1) (σ.put k val)) → Hid (w.mapTurned w' b) → wpList Try.prog ops Q rest (a.put o.dst undef) w') : wpList Try.prog ops Q (o :: rest) a w := by
  obtain ⟨D, h1, h2⟩ := hown
  refine wpList_mapUpdate_in w hg m x v t hop 3 e ikeyed ht valElem b n D hm h1 hn (.int .i64 (k : Int)) val (ikey k) hx hv (ikey_of hk) (.held val) [] rfl fun w' h3 h4 => hK w' ⟨_, h3, fun y => ?_⟩ h4
  by_cases hy : y = k
  · subst hy
    simp only [IMap.put, if_true]
    refine ⟨?_, fun v hv z => ?_⟩
    · rw [Maps.has_put_same h1.isMap (ikey_lit y)]; rfl
    · have hv2 : val = v := Option.some.inj hv
      rw [Maps.atKey_put_same h1.isMap (ikey_lit y), hv2]
  · have hne : ikey y ≠ ikey k := fun e => hy (ikey_inj e)
    simp only [IMap.put, hy, if_false]
    exact ⟨by rw [Maps.has_put_other hne]; exact (h2 y).1, fun v hv z => by rw [Maps.atKey_put_other hne]; exact (h2 y).2 v hv z⟩
theorem wpList_imap_del (hg : o.guard = none) (m x : Operand) (t e : TypeId) (hop : o.op = Op.call { callee := Callee.builtin Builtin.delete, args := #[m, x], argTypes := #[t, 3] }) (ht : Try.prog.underlying t = some (.map 3 e))
    (b n : Nat) (σ : IMap) (hm : a.eval m = .map (some b)) (hown : MapI w b n σ) (k : Nat) (hx : a.eval x = .int .i64 (k : Int)) (hk : k ≤ 4611686018427387904)
    (hK : ∀ w', Hid (MapI w' b n (σ.del k)) → Hid (w.mapTurned w' b) → wpList Try.prog ops Q rest (a.put o.dst (.tuple #[])) w') : wpList Try.prog ops Q (o :: rest) a w := by
  obtain ⟨D, h1, h2⟩ := hown
  refine wpList_delete_own w hg m x t 3 hop e ikeyed ht valElem b n D hm h1 (.int .i64 (k : Int)) (ikey k) hx (ikey_of hk) fun w' h3 h4 => hK w' ⟨_, h3, fun y => ?_⟩ h4
  by_cases hy : y = k
  · subst hy
    simp only [IMap.del, if_true]
    exact ⟨Maps.has_del_same, fun v hv => by cases hv⟩
  · have hne : ikey y ≠ ikey k := fun e => hy (ikey_inj e)
    simp only [IMap.del, hy, if_false]
    exact ⟨by rw [Maps.has_del_other hne]; exact (h2 y).1, fun v hv z => by rw [Maps.atKey_del_other hne]; exact (h2 y).2 v hv z⟩
end
end Go.Proofs.Ytahdiiaadjdmcaa
