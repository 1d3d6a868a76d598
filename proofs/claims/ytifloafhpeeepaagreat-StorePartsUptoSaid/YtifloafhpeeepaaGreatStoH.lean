/-
  store: lay: all parts anew and empty.
-/
import Derived.Test.YtifloafhpeeepaaGreatStoG
namespace Go.Proofs.YtifloafhpeeepaaGreat
open Go.RowKit

open Classical in
noncomputable def Lab.with_ (lab : Lab) (j : Nat) (B : Nat → Prop) : Lab := fun b => if B b then some j else lab b
theorem Lab.with_own {lab : Lab} {j : Nat} {B : Nat → Prop} {b : Nat} (hb : B b) : (lab.with_ j B).own j b := by unfold Lab.own Lab.with_; rw [if_pos hb]
theorem Lab.with_old {lab : Lab} {i j : Nat} {B : Nat → Prop} (hB : ∀ b, B b → ¬ lab.dom b) {b : Nat} (hb : lab.own i b) : (lab.with_ j B).own i b := by
  unfold Lab.own Lab.with_
  rw [if_neg fun h => hB b h ⟨i, hb⟩]; exact hb
theorem Lab.with_dom {lab : Lab} {j : Nat} {B : Nat → Prop} {b : Nat} (h : (lab.with_ j B).dom b) : B b ∨ lab.dom b := by
  obtain ⟨i, hi⟩ := h
  unfold Lab.with_ at hi
  split at hi
  · exact .inl (by assumption)
  · exact .inr ⟨i, hi⟩
/-- a store in the making: the parts K are there -/
structure LMp (w0 w : World) (x : Nat) (Bg : Nat → Prop) (lab : Lab) (v : StV) (K : Nat → Prop) : Prop where
  lt : ∀ b i, lab b = some i → b < w.heap.size
  part : ∀ i, K i → part w (lab.own i) v i
  dom : ∀ b, lab.dom b → Bg b ∨ w0.heap.size ≤ b
  nx : ¬ lab.dom x
  chg : Chg (fun b => b = x) w0 w
section
variable {w0 w w' : World} {x : Nat} {Bg : Nat → Prop} {lab : Lab} {v v' : StV} {K : Nat → Prop}
theorem LMp.go (h : LMp w0 w x Bg lab v K) {C : Nat → Prop} (hw : Chg C w w') (hC : ∀ g, C g → g = x ∨ (w0.heap.size ≤ g ∧ ¬ lab.dom g)) : LMp w0 w' x Bg lab v K :=
  ⟨fun b i hb => Nat.lt_of_lt_of_le (h.lt b i hb) hw.size, fun i hi => part_chg hw (fun g hg hg2 => (hC g hg2).elim (fun e => h.nx ⟨i, by rw [← e]; exact hg⟩) fun h9 => h9.2 ⟨i, hg⟩) i (h.part i hi), h.dom, h.nx, h.chg.trans hw fun g hg hl => (hC g hg).elim id fun h9 => absurd h9.1 (by omega)⟩
theorem LMp.ext (h : LMp w0 w x Bg lab v K) (hw : Ext w w') : LMp w0 w' x Bg lab v K := h.go (C := fun _ => False) (Chg.of hw) fun _ h => h.elim
theorem LMp.set (h : LMp w0 w x Bg lab v K) (j : Nat) (u : Value) : LMp w0 (w.setCell ⟨x, j, none⟩ u) x Bg lab v K :=
  h.go (C := fun b => b = x) (Chg.setCell (B := fun b => b = x) (Chg.refl _ w) (p := ⟨x, j, none⟩) (.inl rfl) u) fun _ h => .inl h
theorem LMp.add (h : LMp w0 w x Bg lab v K) (j : Nat) {B' : Nat → Prop} (hB : ∀ b, B' b → w0.heap.size ≤ b ∧ b < w.heap.size ∧ ¬ lab.dom b ∧ b ≠ x) (hp : Proofs.YtifloafhpeeepaaGreat.part w B' v' j) (hs : ∀ i, K i → i ≠ j → Proofs.YtifloafhpeeepaaGreat.part w (lab.own i) v i → Proofs.YtifloafhpeeepaaGreat.part w (lab.own i) v' i) :
    LMp w0 w x Bg (lab.with_ j B') v' (fun i => i = j ∨ K i) := by
  have hlt : ∀ b i, lab.with_ j B' b = some i → b < w.heap.size := fun b i hb => (Lab.with_dom ⟨i, hb⟩).elim (fun h1 => (hB b h1).2.1) fun ⟨k, hk⟩ => h.lt b k hk
  refine ⟨hlt, fun i hi => ?_, fun b hb => (Lab.with_dom hb).elim (fun h1 => .inr (hB b h1).1) (h.dom b), fun hx => (Lab.with_dom hx).elim (fun h1 => (hB x h1).2.2.2 rfl) h.nx, h.chg⟩
  by_cases hij : i = j
  · subst hij
    exact part_mono (fun b hb => Lab.with_own hb) (fun b hb => hlt b _ hb) i hp
  · exact part_mono (fun b hb => Lab.with_old (fun b hb => (hB b hb).2.2.1) hb) (fun b hb => hlt b _ hb) i (hs i (hi.resolve_left hij) hij (h.part i (hi.resolve_left hij)))
/-- a new part, whose pointer is stored into the store's cell k -/
theorem LMp.new {w1 w2 : World} (h : LMp w0 w1 x Bg lab v K) (hxl : x < w0.heap.size) (hw : Ext w1 w2) (k : Nat) (u : Value) (j : Nat) {B' : Nat → Prop} (hB : ∀ b, B' b → w1.heap.size ≤ b ∧ b < w2.heap.size) (hp : Chg (fun b => b = x) w2 (w2.setCell ⟨x, k, none⟩ u) → (∀ b, B' b → ¬ b = x) → Proofs.YtifloafhpeeepaaGreat.part (w2.setCell ⟨x, k, none⟩ u) B' v' j) (hs : ∀ i, K i → i ≠ j → Proofs.YtifloafhpeeepaaGreat.part (w2.setCell ⟨x, k, none⟩ u) (lab.own i) v i → Proofs.YtifloafhpeeepaaGreat.part (w2.setCell ⟨x, k, none⟩ u) (lab.own i) v' i) :
    LMp w0 (w2.setCell ⟨x, k, none⟩ u) x Bg (lab.with_ j B') v' (fun i => i = j ∨ K i) := by
  have hsz := h.chg.size
  refine ((h.ext hw).set k u).add j (fun b hb => ⟨by have := (hB b hb).1; omega, by have := (hB b hb).2; simpa using this, fun ⟨i, hi⟩ => ?_, fun e => ?_⟩) (hp (Chg.setCell (B := fun b => b = x) (Chg.refl _ w2) (p := ⟨x, k, none⟩) (.inl rfl) u) fun b hb e => ?_) hs
  · have h1 := h.lt b i hi; have h2 := (hB b hb).1; omega
  · have h2 := (hB b hb).1; omega
  · have h2 := (hB b hb).1; omega
theorem LMp.mono (h : LMp w0 w x Bg lab v K) {K' : Nat → Prop} (hK : ∀ i, K' i → K i) : LMp w0 w x Bg lab v K' := ⟨h.lt, fun i hi => h.part i (hK i hi), h.dom, h.nx, h.chg⟩
end
/-- a store's cells while it is laid -/
def layC (width most L : Nat) (GA : Option Addr) (n cG : Nat) (c4 c5 c6 c7 c8 c9 c10 : Value) : Array Value := #[.int .i64 width, .int .i64 most, .int .i64 L, .slice GA n cG, c4, c5, c6, c7, c8, c9, c10, .bool false, .slice none 0 0]
def stvL (x width most : Nat) (gs : List (List Nat)) (GA : Option Addr) (cG xs rm xw : Nat) (gA : Option Addr) (gC : Nat) (gx : List Nat) (xl lm xo : Nat) : StV :=
  { x := x, width := width, most := most, gs := gs, GA := GA, cG := cG, xs := xs, sl := [], fr := [], lv := 0, rm := rm, refs := fun _ => none, xw := xw, E := [], gA := gA, gC := gC, gx := gx, G := fun _ => [], xl := xl, sL := [], fL := [], lL := 0, lm := lm, lrefs := fun _ => none, xo := xo, cont := fun _ => [], marked := false, uA := none, uC := 0, un := [], P := [], U := [], K := 0 }
theorem part_stvL {w : World} {B : Nat → Prop} {x width most : Nat} {gs : List (List Nat)} {GA gA gA' : Option Addr} {cG xs rm xw gC xl lm xo xs' rm' xw' gC' xl' lm' xo' : Nat} {gx gx' : List Nat} :
    ∀ i, i ≠ 0 → (i = 2 → xs = xs') → (i = 3 → rm = rm') → (i = 4 → xw = xw') → (i = 5 → xl = xl') → (i = 6 → lm = lm') → (i = 7 → xo = xo') → (i = 9 → gx = gx') → (∀ k, i = k + 10 → gx[k]? = gx'[k]?) → part w B (stvL x width most gs GA cG xs rm xw gA gC gx xl lm xo) i → part w B (stvL x width most gs GA cG xs' rm' xw' gA' gC' gx' xl' lm' xo') i
  | 0, h, _, _, _, _, _, _, _, _, _ => absurd rfl h
  | 1, _, _, _, _, _, _, _, _, _, h => h
  | 2, _, e, _, _, _, _, _, _, _, h => by obtain rfl := e rfl; exact h
  | 3, _, _, e, _, _, _, _, _, _, h => by obtain rfl := e rfl; exact h
  | 4, _, _, _, e, _, _, _, _, _, h => by obtain rfl := e rfl; exact h
  | 5, _, _, _, _, e, _, _, _, _, h => by obtain rfl := e rfl; exact h
  | 6, _, _, _, _, _, e, _, _, _, h => by obtain rfl := e rfl; exact h
  | 7, _, _, _, _, _, _, e, _, _, h => by obtain rfl := e rfl; exact h
  | 8, _, _, _, _, _, _, _, _, _, h => h
  | 9, _, _, _, _, _, _, _, e, _, h => by obtain rfl := e rfl; exact h
  | k + 10, _, _, _, _, _, _, _, _, e, h => fun xk hk => h xk ((e k rfl).trans hk)
/-- the indexes of the groupings: k of them are made -/
def LayG (w0 w : World) (x : Nat) (Bg : Nat → Prop) (width most : Nat) (gs : List (List Nat)) (GA : Option Addr) (gl cG xs rm xw : Nat) (c8 c9 c10 : Value) (K : Nat → Prop) (k : Nat) : Prop :=
  ∃ lab gA gC gx, gx.length = k ∧ LMp w0 w x Bg lab (stvL x width most gs GA cG xs rm xw gA gC gx 0 0 0) K ∧ Blk w x 78 (layC width most (gl + 1) GA gl cG (.pointer (some ⟨xs, 0, none⟩)) (.map (some rm)) (.pointer (some ⟨xw, 0, none⟩)) (.slice gA k gC) c8 c9 c10) ∧
    OwnH w (fun b => w0.heap.size ≤ b ∧ b < w.heap.size ∧ ¬ lab.dom b ∧ b ≠ x) 72 1 k (.slice gA k gC) (ptrC gx)
theorem LayO.up {w0 w w1 wx : World} {x : Nat} {lab : Lab} {k : Nat} {v : Value} {xs : List Value} (O : OwnH wx (fun b => w0.heap.size ≤ b ∧ b < w.heap.size ∧ ¬ lab.dom b ∧ b ≠ x) 72 1 k v xs) (h : w.heap.size ≤ w1.heap.size) : OwnH wx (fun b => w0.heap.size ≤ b ∧ b < w1.heap.size ∧ ¬ lab.dom b ∧ b ≠ x) 72 1 k v xs :=
  O.mono fun _ hg => ⟨hg.1, Nat.lt_of_lt_of_le hg.2.1 h, hg.2.2.1, hg.2.2.2⟩
/-- the indexes' row when a new part is there -/
theorem LayO.new {w0 w w1 : World} {x : Nat} {lab : Lab} {k : Nat} {v : Value} {xs : List Value} {cs : Array Value} (O : OwnH w1 (fun b => w0.heap.size ≤ b ∧ b < w.heap.size ∧ ¬ lab.dom b ∧ b ≠ x) 72 1 k v xs) (X : Blk w1 x 78 cs) {j : Nat} {B' : Nat → Prop} (c : Nat) (u : Value) (hB : ∀ b, B' b → w.heap.size ≤ b) :
    OwnH (w1.setCell ⟨x, c, none⟩ u) (fun b => w0.heap.size ≤ b ∧ b < (w1.setCell ⟨x, c, none⟩ u).heap.size ∧ ¬ (lab.with_ j B').dom b ∧ b ≠ x) 72 1 k v xs := by
  have h := O.far X (by decide) c u
  refine ⟨h.own, fun g hg => ?_⟩
  have h1 := O.inB g hg
  exact ⟨h1.1, h.lt g hg, fun hd => (Lab.with_dom hd).elim (fun h2 => by have := hB g h2; have := h1.2.1; omega) h1.2.2.1, h1.2.2.2⟩
/-- one index more -/
theorem LayG.push {w0 wr w1 w8 : World} {x : Nat} {Bg : Nat → Prop} {width most : Nat} {gs : List (List Nat)} {GA : Option Addr} {gl cG xs rm xw : Nat} {c8 c9 c10 : Value} {lab : Lab} {gA : Option Addr} {gC k xk : Nat} {gx : List Nat} (hxl : x < w0.heap.size) (hgx : gx.length = k)
    (M : LMp w0 wr x Bg lab (stvL x width most gs GA cG xs rm xw gA gC gx 0 0 0) (fun i => i = 4 ∨ i = 3 ∨ i = 2 ∨ i = 1 ∨ i = 8 ∨ 10 ≤ i))
    (X : Blk wr x 78 (layC width most (gl + 1) GA gl cG (.pointer (some ⟨xs, 0, none⟩)) (.map (some rm)) (.pointer (some ⟨xw, 0, none⟩)) (.slice gA k gC) c8 c9 c10))
    (O : OwnH wr (fun b => w0.heap.size ≤ b ∧ b < wr.heap.size ∧ ¬ lab.dom b ∧ b ≠ x) 72 1 k (.slice gA k gC) (ptrC gx))
    (R : HIx w1 (fun b => wr.heap.size ≤ b ∧ b < w1.heap.size) xk most 0 []) (hE : Ext wr w1) {o : Obj} {A8 : Option Addr} {g8 : Nat}
    (own8 : OwnH w8 (fun b => (w0.heap.size ≤ b ∧ b < wr.heap.size ∧ ¬ lab.dom b ∧ b ≠ x) ∨ b = (w1.alloc o).heap.size) 72 1 (k + 1) (.slice A8 (k + 1) g8) (ptrC gx ++ [.pointer (some ⟨xk, 0, none⟩)])) (G8 : (w1.alloc o).grownBy w8 (Value.slice gA k gC).ownBlock) (C8 : Chg (fun b => w0.heap.size ≤ b ∧ b < wr.heap.size ∧ ¬ lab.dom b ∧ b ≠ x) (w1.alloc o) w8) :
    LayG w0 (w8.setCell ⟨x, 7, none⟩ (.slice A8 (k + 1) g8)) x Bg width most gs GA gl cG xs rm xw c8 c9 c10 (fun i => i = 4 ∨ i = 3 ∨ i = 2 ∨ i = 1 ∨ i = 8 ∨ 10 ≤ i) (k + 1) := by
  have hw0 := M.chg.size
  have he := hE.size
  have ho : (w1.alloc o).heap.size = w1.heap.size + 1 := World.size_alloc w1 o
  have h8 := C8.size
  have X1 := (X.ext hE).ext (Ext.alloc w1 o)
  have hb8 := X1.grown G8 (own_ne_blk (((O.ext hE).ext (Ext.alloc w1 o)).own) X1 (by decide))
  have M8 := (((M.ext hE).ext (Ext.alloc w1 o)).go C8 (fun g hg => .inr ⟨hg.1, hg.2.2.1⟩)).set 7 (.slice A8 (k + 1) g8)
  have c9' : Chg (fun b => b = x) w8 (w8.setCell ⟨x, 7, none⟩ (.slice A8 (k + 1) g8)) := Chg.setCell (B := fun b => b = x) (Chg.refl _ w8) (p := ⟨x, 7, none⟩) (.inl rfl) _
  have R9 := ((R.far (C := fun _ => False) (Chg.of (Ext.alloc w1 o)) (fun _ _ h => h)).far C8 (fun g hg hg2 => by have := hg.1; have := hg2.2.1; omega)).far c9' (fun g hg e => by have := hg.1; omega)
  have hdom : ∀ b, lab.dom b → b < wr.heap.size := fun b ⟨i, hi⟩ => M.lt b i hi
  have hM := M8.add (v' := stvL x width most gs GA cG xs rm xw A8 g8 (gx ++ [xk]) 0 0 0) (k + 10) (B' := fun b => wr.heap.size ≤ b ∧ b < w1.heap.size)
    (fun b hb => ⟨by have := hb.1; omega, by have := hb.2; simp; omega, fun hd => by have := hdom b hd; have := hb.1; omega, fun e => by have := hb.1; omega⟩)
    (fun xk' hk' => by
      have h1 : (gx ++ [xk])[k]? = some xk' := hk'
      rw [List.getElem?_append_right (by omega), hgx, Nat.sub_self] at h1
      obtain rfl : xk = xk' := by simpa using h1
      exact ⟨0, Nat.le_refl _, R9⟩)
    (fun i hi hne h => part_stvL i (by omega) (fun _ => rfl) (fun _ => rfl) (fun _ => rfl) (fun _ => rfl) (fun _ => rfl) (fun _ => rfl) (fun e => by omega) (fun k' e => by
      rcases Nat.lt_trichotomy k' k with h1 | h1 | h1
      · rw [List.getElem?_append_left (by omega)]
      · omega
      · rw [List.getElem?_eq_none (by omega), List.getElem?_eq_none (by simp; omega)]) h)
  refine ⟨_, A8, g8, gx ++ [xk], by simp [hgx], hM.mono fun i hi => .inr hi, hb8.set_ 7 _, ?_⟩
  have h9 := own8.far hb8 (by decide) 7 (.slice A8 (k + 1) g8)
  have e : ptrC (gx ++ [xk]) = ptrC gx ++ [.pointer (some ⟨xk, 0, none⟩)] := by simp [ptrC]
  rw [e]
  refine ⟨h9.own, fun g hg => ?_⟩
  have hlt := h9.lt g hg
  rcases own8.inB g hg with h1 | h1
  · exact ⟨h1.1, hlt, fun hd => (Lab.with_dom hd).elim (fun h2 => by have := h2.1; have := h1.2.1; omega) h1.2.2.1, h1.2.2.2⟩
  · exact ⟨by omega, hlt, fun hd => (Lab.with_dom hd).elim (fun h2 => by have := h2.2; omega) fun h2 => by have := hdom g h2; omega, by omega⟩
/-- an empty store -/
structure Fresh (v : StV) (x0 width0 most0 : Nat) (gs0 : List (List Nat)) : Prop where
  x : v.x = x0
  width : v.width = width0
  most : v.most = most0
  gs : v.gs = gs0
  sl : v.sl = []
  fr : v.fr = []
  lv : v.lv = 0
  refs : v.refs = fun _ => none
  E : v.E = []
  gx : v.gx.length = gs0.length
  G : v.G = fun _ => []
  sL : v.sL = []
  fL : v.fL = []
  lL : v.lL = 0
  lrefs : v.lrefs = fun _ => none
  cont : v.cont = fun _ => []
  marked : v.marked = false
  uA : v.uA = none
  uC : v.uC = 0
  un : v.un = []
  P : v.P = []
  U : v.U = []
  K : v.K = 0
/-- all parts are there -/
theorem LMp.done {w0 w : World} {x width most : Nat} {Bg : Nat → Prop} {lab : Lab} {gs : List (List Nat)} {GA gA : Option Addr} {cG xs rm xw gC xl lm xo k : Nat} {gx : List Nat} {K : Nat → Prop}
    (h : LMp w0 w x Bg lab (stvL x width most gs GA cG xs rm xw gA gC gx xl lm xo) (fun i => i = 7 ∨ i = 6 ∨ i = 5 ∨ K i)) (X : Blk w x 78 (layC width most (k + 1) GA k cG (.pointer (some ⟨xs, 0, none⟩)) (.map (some rm)) (.pointer (some ⟨xw, 0, none⟩)) (.slice gA k gC) (.pointer (some ⟨xl, 0, none⟩)) (.map (some lm)) (.pointer (some ⟨xo, 0, none⟩))))
    (O : OwnH w (fun b => w0.heap.size ≤ b ∧ b < w.heap.size ∧ ¬ lab.dom b ∧ b ≠ x) 72 1 k (.slice gA k gC) (ptrC gx)) (hgx : gx.length = k) (hgs : gs.length = k) (hK : ∀ i, i = 4 ∨ i = 3 ∨ i = 2 ∨ i = 1 ∨ i = 8 ∨ 10 ≤ i → K i) :
    ∃ lab v, StM w lab v ∧ Fresh v x width most gs ∧ (∀ b, lab.dom b → b = x ∨ Bg b ∨ w0.heap.size ≤ b) ∧ Chg (fun b => b = x) w0 w := by
  subst hgx
  have hlt : ∀ b i, lab.with_ 0 (fun b => b = x ∨ (Value.slice gA gx.length gC).ownBlock = some b) b = some i → b < w.heap.size := fun b i hb => (Lab.with_dom ⟨i, hb⟩).elim (fun h1 => h1.elim (fun e => by rw [e]; exact X.lt) fun e => O.lt b e) fun ⟨j, hj⟩ => h.lt b j hj
  have hnd : ∀ b, (b = x ∨ (Value.slice gA gx.length gC).ownBlock = some b) → ¬ lab.dom b := fun b hb => hb.elim (fun e => by rw [e]; exact h.nx) fun e => (O.inB b e).2.2.1
  refine ⟨lab.with_ 0 (fun b => b = x ∨ (Value.slice gA gx.length gC).ownBlock = some b), stvL x width most gs GA cG xs rm xw gA gC gx xl lm xo, ⟨hlt, fun i => ?_⟩, ⟨rfl, rfl, rfl, rfl, rfl, rfl, rfl, rfl, rfl, hgs.symm, rfl, rfl, rfl, rfl, rfl, rfl, rfl, rfl, rfl, rfl, rfl, rfl, rfl⟩, fun b hb => ?_, h.chg⟩
  · have hold : ∀ i, (i = 7 ∨ i = 6 ∨ i = 5 ∨ K i) → Proofs.YtifloafhpeeepaaGreat.part w ((lab.with_ 0 (fun b => b = x ∨ (Value.slice gA gx.length gC).ownBlock = some b)).own i) (stvL x width most gs GA cG xs rm xw gA gC gx xl lm xo) i := fun i hi =>
      part_mono (fun b hb => Lab.with_old hnd hb) (fun b hb => hlt b _ hb) i (h.part i hi)
    match i with
    | 0 =>
      refine ⟨?_, Lab.with_own (.inl rfl), ⟨O.own, fun g hg => Lab.with_own (.inr hg)⟩, OwnH.nil _ _ _ _⟩
      have e : (stvL x width most gs GA cG xs rm xw gA gC gx xl lm xo).cells = layC width most (gx.length + 1) GA gx.length cG (.pointer (some ⟨xs, 0, none⟩)) (.map (some rm)) (.pointer (some ⟨xw, 0, none⟩)) (.slice gA gx.length gC) (.pointer (some ⟨xl, 0, none⟩)) (.map (some lm)) (.pointer (some ⟨xo, 0, none⟩)) := by
        simp only [StV.cells, stvL, layC, StV.L, hgs, List.length_nil]
      rw [e]; exact X
    | 1 => exact hold 1 (.inr (.inr (.inr (hK 1 (by omega)))))
    | 2 => exact hold 2 (.inr (.inr (.inr (hK 2 (by omega)))))
    | 3 => exact hold 3 (.inr (.inr (.inr (hK 3 (by omega)))))
    | 4 => exact hold 4 (.inr (.inr (.inr (hK 4 (by omega)))))
    | 5 => exact hold 5 (by omega)
    | 6 => exact hold 6 (by omega)
    | 7 => exact hold 7 (by omega)
    | 8 => exact hold 8 (.inr (.inr (.inr (hK 8 (by omega)))))
    | 9 => exact hgs.symm
    | m + 10 => exact hold (m + 10) (.inr (.inr (.inr (hK (m + 10) (by omega)))))
  · rcases Lab.with_dom hb with (h1 | h1) | h1
    · exact .inl h1
    · exact .inr (.inr (O.inB b h1).1)
    · exact .inr (h.dom b h1)
theorem Fresh.at_ {v : StV} {x width most : Nat} {gs : List (List Nat)} (h : Fresh v x width most gs) (hw : width ≤ 30) (hm : 1 ≤ most ∧ most ≤ 65536) (hg : gs.length ≤ 4) (hgs : ∀ g ∈ gs, g.length ≤ 30 ∧ ∀ c ∈ g, c < width) : StAt v (fun _ => []) 1 := by
  refine ⟨⟨by rw [h.width]; exact hw, by rw [h.most]; exact hm, by rw [h.gs]; exact hg, by rw [h.gs, h.width]; exact hgs, ?_, ?_, ?_, fun i => ?_, by rw [h.lv, h.P]; rfl, ?_, by rw [h.E, h.P]; exact .nil, by rw [h.gx, h.gs]⟩, ⟨?_, fun k g hg => ?_, ?_, ?_, ?_, ?_⟩, ⟨fun i => ?_, fun i => ?_⟩⟩
  · rw [h.P]; intro p hp; cases hp
  · rw [h.P]; exact List.nodup_nil
  · rw [h.P]; exact List.nodup_nil
  · rw [h.sl, h.P]; simp [thg]
  · rw [h.P]; intro p hp; cases hp
  · rw [h.cont, h.P]; rfl
  · rw [h.G, h.P, h.cont]
    exact ⟨.nil, List.nodup_nil, fun key => ⟨fun h1 => (by cases h1), fun ⟨p, hp, _⟩ => (by cases hp)⟩, fun d hd => (by cases hd)⟩
  · intro k j d e _ _ hd; cases hd
  · intro k d _ hd; cases hd
  · intro n _ _; rw [h.cont]
  · rw [h.lL]
    have : ∀ n : Nat, ((List.range n).map fun _ => ([] : List (List V × Nat)).length).sum = 0 := fun n => by
      induction n with
      | zero => rfl
      | succ n ih => rw [List.range_succ, List.map_append, List.sum_append, ih]; rfl
    exact (this _).symm
  · rw [h.sl]; simp [thg, genA]
  · rw [h.sL]; simp [thg, genA]
end Go.Proofs.YtifloafhpeeepaaGreat
