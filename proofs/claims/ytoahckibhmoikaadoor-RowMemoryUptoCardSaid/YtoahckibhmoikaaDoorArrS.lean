/-
  The rows sorted.
-/
import Derived.Test.YtoahckibhmoikaaDoorArrP
import Derived.Test.YtoahckibhmoikaaDoorSort
import Derived.Test.YtoahckibhmoikaaDoorCmpD
import Derived.Lib.SliceRun
namespace Go.Proofs.YtoahckibhmoikaaDoor
open Go.RowKit Go.Shelf Go.Lib Go.Sort

theorem grow_of {W W' : World} (h : D.Ext W W') : ∃ q os, W' = grow (W.drewN q) os := by
  obtain ⟨⟨ho, ht, hout, hs, hb⟩, hd⟩ := h
  refine ⟨W'.drawn - W.drawn, W'.heap.extract W.heap.size W'.heap.size, ?_⟩
  obtain ⟨heap', tape', drawn', os', out'⟩ := W'
  obtain ⟨heap, tape, drawn, os, out⟩ := W
  simp only at ho ht hout hs hb hd
  subst ho; subst ht; subst hout
  have e1 : heap' = heap ++ heap'.extract heap.size heap'.size := by
    apply Array.ext_getElem?
    intro i
    by_cases hi : i < heap.size
    · rw [Array.getElem?_append_left hi, hb i hi]
    · rw [Array.getElem?_append_right (by omega), Array.getElem?_extract]
      by_cases h2 : i < heap'.size
      · rw [if_pos (by omega)]
        congr 1
        omega
      · rw [if_neg (by omega), Array.getElem?_eq_none (by omega)]
  have e2 : drawn' = drawn + (drawn' - drawn) := by omega
  unfold grow World.drewN
  simp only
  rw [← e1, ← e2]
theorem sort_ext {α : Type} [Inhabited α] {enc : α → Value} {w0 w : World} (h : Ext w0 w) {blk : Nat} (hb : w0.heap.size ≤ blk) (off m : Nat) (dk : Array α) (os : Array Obj) : Ext w0 (sortWorld enc w blk off m dk os) := by
  have hB : Go.RowKit.Below w0.heap.size w0 w := h
  show Go.RowKit.Below w0.heap.size w0 _
  refine ⟨hB.os, hB.tape, hB.output, ?_, fun k hk => ?_⟩
  · have := h.size
    simp only [sortWorld, grow, putRow, mapBlock, Sort.ahead, Array.size_append, Array.size_modify]
    omega
  · have hk2 : k < w.heap.size := Nat.lt_of_lt_of_le hk h.size
    simp only [sortWorld, grow, putRow, mapBlock, Sort.ahead]
    rw [Array.getElem?_append_left (by simpa using hk2), Array.getElem?_modify, if_neg (by omega)]
    exact h.block hk

/-- a row, and where it lies -/
structure RP where
  A : Option Addr
  n : Nat
  c : Nat
  r : List V
def RP.val (p : RP) : Value := .slice p.A p.n p.c
def RP.ok (w : World) (p : RP) : Prop := RowAt w p.A p.n p.r ∧ p.n ≤ 140737488355328
theorem RP.ok.ext {w w' : World} {p : RP} (h : p.ok w) (hw : Ext w w') : p.ok w' := ⟨h.1.ext hw, h.2⟩
def rpC (ps : List RP) : Array Value := (ps.map RP.val).toArray
def rpLe (a b : RP) : Prop := cmpR a.r b.r ≤ 0
def rpSame (a b : RP) : Bool := sameR a.r b.r

theorem swo_of {α : Type} (f : α → List V) : SWO (ltOf fun x y : α => cmpR (f x) (f y)) where
  irrefl x := by simp [ltOf, cmpR_self]
  trans x y z h1 h2 := by
    simp only [ltOf, decide_eq_true_iff] at *
    exact cmpR_lt_trans h1 h2
  ntrans x y z h1 h2 := by
    simp only [ltOf, decide_eq_false_iff_not] at *
    have a1 := isCmp_row.anti (f x) (f y)
    have a2 := isCmp_row.anti (f y) (f z)
    have a3 := isCmp_row.anti (f x) (f z)
    have := isCmp_row.trans (f z) (f y) (f x) (by omega) (by omega)
    omega

theorem sort_rows (ps : List RP) (w0 w : World) (g c : Nat) (hE : Ext w0 w) (hg : w0.heap.size ≤ g) (hB : Blk w g 23 (rpC ps)) (hok : ∀ p ∈ ps, p.ok w0) (hn : ps.length ≤ 16777216) (h0 : 0 < ps.length) :
    Calls Tryd.prog 49 #[.slice (some ⟨g, 0, none⟩) ps.length c, .func (.func 30) #[] #[]] w fun e w' => e = .returned (.tuple #[]) ∧
      ∃ ps' : List RP, ps'.Perm ps ∧ ps'.Pairwise rpLe ∧ Blk w' g 23 (rpC ps') ∧ Ext w0 w' := by
  let α := { p : RP // p.ok w0 }
  haveI : Inhabited α := ⟨⟨ps[0], hok _ (List.getElem_mem h0)⟩⟩
  let dl : List α := ps.attach.map fun p => ⟨p.1, hok p.1 p.2⟩
  have hdl : dl.map (·.1) = ps := by simp [dl, List.map_map, Function.comp_def]
  have hlen : dl.toArray.size = ps.length := by simp [dl]
  let enc : α → Value := fun x => x.1.val
  let cf : α → α → Int := fun x y => cmpR x.1.r y.1.r
  have eg : ∀ args w, (callFunc 30 args).run Tryd.prog w = .ok (.enter 30 args) w := enters_of Tryd.func30 (by kernel_rfl) rfl
  have hcmp : CmpLays1 Tryd.prog 30 #[] enc cf g 0 dl.toArray.size w := fun m os dk _ x y => by
    have h1 := sort_ext (enc := enc) hE hg 0 m dk os
    exact (D.row_cmp x.1.r y.1.r x.1.A y.1.A x.1.n y.1.n x.1.c y.1.c _ (x.2.1.ext h1) (y.2.1.ext h1) x.2.2 y.2.2).mono fun e w' ⟨he, hx⟩ => ⟨he, grow_of hx⟩
  have hcell : ∀ j (hj : j < dl.length), w.cell? ⟨g, j, none⟩ = some (enc dl[j]) := fun j hj => by
    rw [hB.cell j]
    have hj' : j < ps.length := by simpa [dl] using hj
    have : dl[j].1 = ps[j] := by simp [dl]
    simp [rpC, hj', enc, this]
  have hH : Holds enc w g 0 dl.toArray := fun j hj => by
    have hj' : j < dl.length := by simpa using hj
    rw [Nat.zero_add, getElem!_pos _ j hj]
    exact ⟨by simpa using hcell j hj', hB.frozen j⟩
  have h := Any.slices_SortFunc Tryd.sortRows enc (fun _ => rfl) cf (swo_of fun x : α => x.1.r) 30 #[] g 0 c dl.toArray w eg hcmp hH hB.lt (by rw [hlen]; omega)
  rw [hlen] at h
  change Calls Tryd.prog 49 _ _ _ at h
  refine h.mono fun e w' ⟨he, d', q, os, hp, hs, hw⟩ => ⟨he, d'.toList.map (·.1), ?_, ?_, ?_, ?_⟩
  · have h1 := hp.2.2
    have e1 : d'.extract 0 ps.length = d' := by
      have : d'.size = ps.length := by rw [hp.1, hlen]
      rw [← this]; simp
    have e2 : dl.toArray.extract 0 ps.length = dl.toArray := by rw [← hlen]; simp
    rw [e1, e2] at h1
    have := h1.map (fun x : α => x.1)
    rwa [List.toList_toArray, hdl] at this
  · have hsz : d'.size = ps.length := by rw [hp.1, hlen]
    rw [List.pairwise_iff_getElem]
    intro i j hi hj hij
    have hi' : i < d'.size := by simpa using hi
    have hj' : j < d'.size := by simpa using hj
    have h1 := hs i j (Nat.zero_le _) hij (by omega)
    rw [getElem!_pos _ j hj', getElem!_pos _ i hi'] at h1
    simp only [ltOf, decide_eq_false_iff_not, cf] at h1
    have a1 := isCmp_row.anti d'[i].1.r d'[j].1.r
    simp only [rpLe, List.getElem_map, Array.getElem_toList]
    omega
  · have hsz : d'.size = ps.length := by rw [hp.1, hlen]
    have hb := hB
    unfold Blk at hb
    have hlt := hB.lt
    rw [hw]
    unfold Blk
    simp only [sortWorld, grow, putRow, mapBlock, Sort.ahead]
    rw [Array.getElem?_append_left (by simpa using hlt), Array.getElem?_modify, if_pos rfl, hb]
    simp only [Option.map_some, onCells]
    congr 2
    apply Array.ext_getElem?
    intro k
    simp only [putCells, Array.getElem?_mapIdx, rpC, List.getElem?_toArray, List.getElem?_map]
    by_cases hk : k < ps.length
    · have hk' : k < d'.size := by omega
      have hk2 : k < d'.toList.length := by simpa using hk'
      rw [List.getElem?_eq_getElem hk, List.getElem?_eq_getElem hk2]
      simp only [Option.map_some, Nat.zero_le, true_and, Nat.zero_add, Nat.sub_zero]
      rw [if_pos hk', getElem!_pos _ k hk']
      simp [enc]
    · rw [List.getElem?_eq_none (by omega), List.getElem?_eq_none (by simp; omega)]
      rfl
  · rw [hw]
    exact sort_ext hE hg 0 q d' os
end Go.Proofs.YtoahckibhmoikaaDoor
