/-
  NaiveShown: what is bound so far; values in memory.
-/
import Derived.Test.YtpfjkjmimmklcaaNaiShownP
import Derived.Test.YtpfjkjmimmklcaaNaiK
import Derived.Test.YtpfjkjmimmklcaaNaiStep
import Derived.Test.YtpfjkjmimmklcaaNaiHold
namespace Go.Proofs.Ytpfjkjmimmklcaa
open Go.RowKit

def shV (vs : List ByteArray) (σ : Sig) (S : List ByteArray) : List V := vs.map fun v => if memB S v then σ v else zeroV
def shF (vs : List ByteArray) (S : List ByteArray) : List Value := vs.map fun v => .bool (memB S v)
theorem shV_len (vs : List ByteArray) (σ : Sig) (S : List ByteArray) : (shV vs σ S).length = vs.length := by simp [shV]
theorem shF_len (vs : List ByteArray) (S : List ByteArray) : (shF vs S).length = vs.length := by simp [shF]
theorem memB_snoc (S : List ByteArray) (v x : ByteArray) : memB (S ++ [v]) x = (memB S x || decide (x = v)) := by
  rw [Bool.eq_iff_iff, memB_iff, Bool.or_eq_true, memB_iff, decide_eq_true_eq, List.mem_append, List.mem_singleton]
theorem sh_set {α : Type} {vs : List ByteArray} {f g : ByteArray → α} (hnd : vs.Nodup) {p : Nat} {v : ByteArray} (h : vs[p]? = some v) (hg : ∀ x, x ≠ v → g x = f x) : (vs.map f).set p (g v) = vs.map g := by
  obtain ⟨hp, e⟩ := List.getElem?_eq_some_iff.1 h
  apply List.ext_getElem?
  intro i
  rw [List.getElem?_set]
  by_cases hi : p = i
  · subst hi
    rw [if_pos rfl, if_pos (by simpa using hp), List.getElem?_map, h]
    rfl
  · rw [if_neg hi, List.getElem?_map, List.getElem?_map]
    cases hx : vs[i]? with
    | none => rfl
    | some x =>
      obtain ⟨hil, ex⟩ := List.getElem?_eq_some_iff.1 hx
      have : x ≠ v := fun e2 => hi ((List.getElem_inj hnd).1 (by rw [e, ex, e2]))
      simp [hg x this]
theorem shV_put {vs : List ByteArray} {σ : Sig} {S : List ByteArray} (hnd : vs.Nodup) {p : Nat} {v : ByteArray} (h : vs[p]? = some v) : (shV vs σ S).set p (σ v) = shV vs σ (S ++ [v]) := by
  have := sh_set (f := fun v => if memB S v then σ v else zeroV) (g := fun x => if memB (S ++ [v]) x then σ x else zeroV) hnd h (fun x hx => by rw [memB_snoc]; simp [hx])
  simp only [memB_snoc, decide_true, Bool.or_true, if_true] at this
  unfold shV
  rw [this]
  simp only [memB_snoc]
theorem shF_put {vs : List ByteArray} {S : List ByteArray} (hnd : vs.Nodup) {p : Nat} {v : ByteArray} (h : vs[p]? = some v) : (shF vs S).set p (.bool true) = shF vs (S ++ [v]) := by
  have := sh_set (f := fun v => Value.bool (memB S v)) (g := fun x => Value.bool (memB (S ++ [v]) x)) hnd h (fun x hx => by rw [memB_snoc]; simp [hx])
  simp only [memB_snoc, decide_true, Bool.or_true] at this
  unfold shF
  rw [this]
  simp only [memB_snoc]
theorem shV_nil (vs : List ByteArray) (σ : Sig) : shV vs σ [] = List.replicate vs.length zeroV := by
  rw [List.eq_replicate_iff]
  refine ⟨shV_len _ _ _, fun v hv => ?_⟩
  obtain ⟨x, _, rfl⟩ := List.mem_map.1 hv
  rfl
theorem shF_nil (vs : List ByteArray) : shF vs [] = List.replicate vs.length (.bool false) := by
  rw [List.eq_replicate_iff]
  refine ⟨shF_len _ _, fun v hv => ?_⟩
  obtain ⟨x, _, rfl⟩ := List.mem_map.1 hv
  rfl
theorem shV_all {vs : List ByteArray} {σ : Sig} {S : List ByteArray} (h : ∀ v ∈ vs, v ∈ S) : shV vs σ S = vs.map σ :=
  List.map_congr_left fun v hv => by rw [if_pos (memB_iff.2 (h v hv))]
theorem shV_get {vs : List ByteArray} {σ : Sig} {S : List ByteArray} {p : Nat} {v : ByteArray} (h : vs[p]? = some v) : (shV vs σ S)[p]? = some (if memB S v then σ v else zeroV) := by
  unfold shV; rw [List.getElem?_map, h]; rfl
theorem shF_get {vs : List ByteArray} {S : List ByteArray} {p : Nat} {v : ByteArray} (h : vs[p]? = some v) : (shF vs S)[p]? = some (.bool (memB S v)) := by
  unfold shF; rw [List.getElem?_map, h]; rfl
/-- the variables of the first atoms, as they come -/
def seenA (as_ : List Atm) (j : Nat) : List ByteArray := (as_.take j).flatMap varsA
theorem seenA_succ {as_ : List Atm} {j : Nat} {a : Atm} (h : as_[j]? = some a) : seenA as_ (j + 1) = seenA as_ j ++ varsA a := by
  unfold seenA
  rw [List.take_add_one, h, List.flatMap_append]
  simp
theorem seenA_all {q : Qy} : ∀ v ∈ varsQ q, v ∈ seenA q.atoms q.atoms.length := fun v hv => by
  obtain ⟨a, ha, t, h1, h2, h3⟩ := mem_vars.1 hv
  unfold seenA
  rw [List.take_length, List.mem_flatMap]
  exact ⟨a, ha, (mem_addTs _ _ _).2 (.inr ⟨t, h1, h2, h3⟩)⟩
theorem varsQ_nodup (q : Qy) : (varsQ q).Nodup := by
  rw [varsQ_flat]; exact addTs_nodup _ List.nodup_nil

/-- values: rows that were found, with true and no error; a row -/
def WtIs (rows : List (List V)) (u : Value) (w : World) : Prop := ∃ A c, u = .tuple #[.slice A rows.length c, .bool true, .int .i64 0] ∧ LAt RRow 1 w A rows.length rows
theorem WtIs.ext {rows : List (List V)} {u : Value} {w w' : World} (h : WtIs rows u w) (hw : Ext w w') : WtIs rows u w' := by
  obtain ⟨A, c, h1, h2⟩ := h
  exact ⟨A, c, h1, h2.ext RRow.stab hw⟩
def PrIs (r : List V) (u : Value) (w : World) : Prop := ∃ A c, u = .slice A r.length c ∧ RowAt w A r.length r
theorem PrIs.ext {r : List V} {u : Value} {w w' : World} (h : PrIs r u w) (hw : Ext w w') : PrIs r u w' := by
  obtain ⟨A, c, h1, h2⟩ := h
  exact ⟨A, c, h1, h2.ext hw⟩
/-- a made row, a list of made flags -/
def MkV (base : Nat) (n : Nat) (u : Value) (w : World) : Prop := ∃ g, u = .slice (some ⟨g, 0, none⟩) n n ∧ base ≤ g ∧ Blk w g 58 (madeCells #[Value.int .i64 0, Value.int .i64 0, Value.string ByteArray.empty] (n * 3))
theorem MkV.ext {b n : Nat} {u : Value} {w w' : World} (h : MkV b n u w) (hw : Ext w w') : MkV b n u w' := by
  obtain ⟨g, h1, h2, h3⟩ := h
  exact ⟨g, h1, h2, h3.ext hw⟩
def MkF (base : Nat) (n : Nat) (u : Value) (w : World) : Prop := ∃ g, u = .slice (some ⟨g, 0, none⟩) n n ∧ base ≤ g ∧ Blk w g 4 (madeCells #[Value.bool false] n)
theorem MkF.ext {b n : Nat} {u : Value} {w w' : World} (h : MkF b n u w) (hw : Ext w w') : MkF b n u w' := by
  obtain ⟨g, h1, h2, h3⟩ := h
  exact ⟨g, h1, h2, h3.ext hw⟩
/-- a match that is handed back, in new memory -/
def MtB (base : Nat) (out : List V) (u : Value) (w : World) : Prop := ∃ g, u = .tuple #[.slice (some ⟨g, 0, none⟩) out.length out.length, .bool true] ∧ base ≤ g ∧ Blk w g 58 (cellsR out).toArray
def MvB (base : Nat) (out : List V) (u : Value) (w : World) : Prop := ∃ g, u = .slice (some ⟨g, 0, none⟩) out.length out.length ∧ base ≤ g ∧ Blk w g 58 (cellsR out).toArray
theorem MtB.ext {b : Nat} {out : List V} {u : Value} {w w' : World} (h : MtB b out u w) (hw : Ext w w') : MtB b out u w' := by
  obtain ⟨g, h1, h2, h3⟩ := h
  exact ⟨g, h1, h2, h3.ext hw⟩
theorem MvB.ext {b : Nat} {out : List V} {u : Value} {w w' : World} (h : MvB b out u w) (hw : Ext w w') : MvB b out u w' := by
  obtain ⟨g, h1, h2, h3⟩ := h
  exact ⟨g, h1, h2, h3.ext hw⟩
/-- a variable is bound: its flag, its value -/
theorem sh_step {w5 w9 wq : World} {gv gb gm pp N : Nat} {vals : List V} {fl : List Value} {out : List V} {xs : List ByteArray} {AV : Option Addr} {n cv : Nat} {y0 : V} (z : V)
    (h1 : wq.ownsRow w5.heap.size 58 3 (.slice (some ⟨gv, 0, none⟩) N N) N (cellsR vals)) (h2 : Blk wq gb 4 fl.toArray) (h3 : Ext w5 wq) (h4 : Blk wq gm 58 (cellsR out).toArray) (h5 : OwnS w9 wq AV n cv xs)
    (hb : w5.heap.size ≤ gb) (hv : w5.heap.size ≤ gv) (hm : gv ≠ gm) (hp : vals[pp]? = some y0) :
    ((((wq.setCell ⟨gb, pp, none⟩ (.bool true)).setCell ⟨gv, pp * 3, none⟩ (.int .i64 z.k)).setCell ⟨gv, pp * 3 + 1, none⟩ (.int .i64 z.i)).setCell ⟨gv, pp * 3 + 2, none⟩ (.string z.t)).ownsRow w5.heap.size 58 3 (.slice (some ⟨gv, 0, none⟩) N N) N (cellsR (vals.set pp z)) ∧
    Blk ((((wq.setCell ⟨gb, pp, none⟩ (.bool true)).setCell ⟨gv, pp * 3, none⟩ (.int .i64 z.k)).setCell ⟨gv, pp * 3 + 1, none⟩ (.int .i64 z.i)).setCell ⟨gv, pp * 3 + 2, none⟩ (.string z.t)) gb 4 (fl.set pp (.bool true)).toArray ∧
    Ext w5 ((((wq.setCell ⟨gb, pp, none⟩ (.bool true)).setCell ⟨gv, pp * 3, none⟩ (.int .i64 z.k)).setCell ⟨gv, pp * 3 + 1, none⟩ (.int .i64 z.i)).setCell ⟨gv, pp * 3 + 2, none⟩ (.string z.t)) ∧
    Blk ((((wq.setCell ⟨gb, pp, none⟩ (.bool true)).setCell ⟨gv, pp * 3, none⟩ (.int .i64 z.k)).setCell ⟨gv, pp * 3 + 1, none⟩ (.int .i64 z.i)).setCell ⟨gv, pp * 3 + 2, none⟩ (.string z.t)) gm 58 (cellsR out).toArray ∧
    OwnS w9 ((((wq.setCell ⟨gb, pp, none⟩ (.bool true)).setCell ⟨gv, pp * 3, none⟩ (.int .i64 z.k)).setCell ⟨gv, pp * 3 + 1, none⟩ (.int .i64 z.i)).setCell ⟨gv, pp * 3 + 2, none⟩ (.string z.t)) AV n cv xs := by
  have hgb : gb ≠ gv := fun e => own_ne_blk h1 h2 (by decide) (by rw [e]; rfl)
  have o1 := mine_set h1 h2 (by decide) pp (.bool true)
  obtain ⟨bv, e, _, hput⟩ := own_blkX o1 hp
  injection e with e
  injection e with e
  subst e
  have hgm : gm ≠ gb := fun e => by
    subst e
    have h6 : wq.heap[gm]? = some _ := h4
    have h7 : wq.heap[gm]? = some _ := h2
    rw [h6] at h7
    injection h7 with h7
    injection h7 with _ h7
    exact absurd h7 (by decide)
  obtain ⟨csv, hvb⟩ : ∃ cs, Blk (wq.setCell ⟨gb, pp, none⟩ (.bool true)) gv 58 cs := by
    rcases o1.2 with ⟨h6, _⟩ | ⟨g, cap, cur, h6, _, h7, _⟩
    · cases h6
    · injection h6 with h6
      injection h6 with h6
      injection h6 with h6
      subst h6
      exact ⟨cur, h7⟩
  refine ⟨(hput _ (Ext.refl _)).2.2 z, ?_, (((h3.setCell (p := ⟨gb, pp, none⟩) hb _).setCell (p := ⟨gv, pp * 3, none⟩) hv _).setCell (p := ⟨gv, pp * 3 + 1, none⟩) hv _).setCell (p := ⟨gv, pp * 3 + 2, none⟩) hv _,
    (((h4.far (p := ⟨gb, pp, none⟩) hgm _).far (p := ⟨gv, pp * 3, none⟩) (Ne.symm hm) _).far (p := ⟨gv, pp * 3 + 1, none⟩) (Ne.symm hm) _).far (p := ⟨gv, pp * 3 + 2, none⟩) (Ne.symm hm) _,
    h5.1, mine_set (mine_set (mine_set (mine_set h5.2 h2 (by decide) pp _) hvb (by decide) _ _) (hvb.set_ _ _) (by decide) _ _) ((hvb.set_ _ _).set_ _ _) (by decide) _ _⟩
  have h8 := (((h2.set_ pp (.bool true)).far (p := ⟨gv, pp * 3, none⟩) hgb (.int .i64 z.k)).far (p := ⟨gv, pp * 3 + 1, none⟩) hgb (.int .i64 z.i)).far (p := ⟨gv, pp * 3 + 2, none⟩) hgb (.string z.t)
  rw [List.setIfInBounds_toArray] at h8
  exact h8
theorem answersP_cost {q : Qy} {data : List Tbl} {most : Int} (h : (answersP q data most).2 = 0) : costP q data ≤ 131072 := by
  unfold answersP at h
  by_cases h1 : shapeQ q = 0
  · rw [if_pos h1] at h
    by_cases h2 : most < 0
    · rw [if_pos h2] at h; simp at h
    · rw [if_neg h2] at h
      by_cases h3 : costP q data ≤ 131072
      · exact h3
      · rw [if_neg h3] at h; simp at h
  · rw [if_neg h1] at h; exact absurd h h1
theorem answersP_bad {q : Qy} {data : List Tbl} {most : Int} (h : (answersP q data most).2 ≠ 0) : (answersP q data most).1 = [] := by
  unfold answersP at h ⊢
  by_cases h1 : shapeQ q = 0
  · rw [if_pos h1] at h ⊢
    by_cases h2 : most < 0
    · rw [if_pos h2]
    · rw [if_neg h2] at h ⊢
      by_cases h3 : costP q data ≤ 131072
      · rw [if_pos h3] at h ⊢
        by_cases h4 : most < (ansP q data).length
        · rw [if_pos h4]
        · rw [if_neg h4] at h; exact absurd rfl h
      · rw [if_neg h3]
  · rw [if_neg h1]
end Go.Proofs.Ytpfjkjmimmklcaa
