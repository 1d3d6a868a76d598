/-
  The document's Step: what its loops do, in plain words; a row of values of a call's own that is written into.
-/
import Derived.Test.YtpfjkjmimmklcaaNaiI
import Derived.Test.YtpfjkjmimmklcaaNaiJ
import Derived.Test.YtpfjkjmimmklcaaNaiQ
namespace Go.Proofs.Ytpfjkjmimmklcaa
open Go.RowKit

theorem stepR_take {l : Lv} {seen p : Nat} {parts : List (List V)} {vals : List V} (h : parts[p]? = some vals) : stepR l seen (parts.take (p + 1)) = stepR l seen (parts.take p) ++ l.rows.filterMap (oneR l seen vals) := by
  unfold stepR
  rw [take_next parts p vals h, List.flatMap_append]
  simp
theorem filterMap_take {f : List V → Option (List V)} {rows : List (List V)} {r : Nat} {x : List V} (h : rows[r]? = some x) : (rows.take (r + 1)).filterMap f = (rows.take r).filterMap f ++ (f x).toList := by
  rw [take_next rows r x h, List.filterMap_append]
  congr 1
theorem joinR_take (seen : Nat) : ∀ (ks : List Nat) (ms vals : List V) (ok : Bool) (k at_ : Nat) (y : V), ks[k]? = some at_ → ms[k]? = some y →
    joinR seen vals (ks.take (k + 1)) (ms.take (k + 1)) ok = ((joinR seen vals (ks.take k) (ms.take k) ok).1.set at_ y, if at_ < seen then (joinR seen vals (ks.take k) (ms.take k) ok).2 && getB (joinR seen vals (ks.take k) (ms.take k) ok).1 at_ y else (joinR seen vals (ks.take k) (ms.take k) ok).2)
  | [], _, _, _, _, _, _, h, _ => by simp at h
  | _ :: _, [], _, _, _, _, _, _, h => by simp at h
  | a :: ks, m :: ms, vals, ok, 0, at_, y, h1, h2 => by
    obtain rfl : a = at_ := by simpa using h1
    obtain rfl : m = y := by simpa using h2
    simp [joinR]
  | a :: ks, m :: ms, vals, ok, k + 1, at_, y, h1, h2 => by
    rw [List.take_succ_cons, List.take_succ_cons, List.take_succ_cons (i := k), List.take_succ_cons (i := k)]
    unfold joinR
    exact joinR_take seen ks ms _ _ k at_ y (by simpa using h1) (by simpa using h2)
theorem joinR_len (seen : Nat) : ∀ (ks : List Nat) (ms vals : List V) (ok : Bool), (joinR seen vals ks ms ok).1.length = vals.length
  | [], _, _, _ => by simp [joinR]
  | _ :: _, [], _, _ => by simp [joinR]
  | k :: ks, m :: ms, vals, ok => by
    unfold joinR
    rw [joinR_len seen ks ms _ _, List.length_set]

theorem own_blkV {w : World} {base N c : Nat} {A : Option Addr} {vals : List V} {p : Nat} {x : V} (h : w.ownsRow base 58 3 (.slice A N c) N (cellsR vals)) (hp : vals[p]? = some x) :
    ∃ (b : Nat), A = some ⟨b, 0, none⟩ ∧ base ≤ b ∧ b < w.heap.size ∧ (w.cell? ⟨b, p * 3, none⟩ = some (.int .i64 x.k) ∧ w.cell? ⟨b, p * 3 + 1, none⟩ = some (.int .i64 x.i) ∧ w.cell? ⟨b, p * 3 + 2, none⟩ = some (.string x.t)) ∧ (∀ i, w.frozen? ⟨b, i, none⟩ = false) ∧
      ∀ y : V, (((w.setCell ⟨b, p * 3, none⟩ (.int .i64 y.k)).setCell ⟨b, p * 3 + 1, none⟩ (.int .i64 y.i)).setCell ⟨b, p * 3 + 2, none⟩ (.string y.t)).ownsRow base 58 3 (.slice A N c) N (cellsR (vals.set p y)) := by
  obtain ⟨hlt, hx⟩ := List.getElem?_eq_some_iff.1 hp
  obtain ⟨h1, h2⟩ := h
  have hl : vals.length = N := by rw [cellsR_len] at h1; omega
  rcases h2 with ⟨_, h3⟩ | ⟨g, cap, cur, he, hb, hh, hn, hc, hs, ht⟩
  · omega
  · injection he with e1 e2 e3
    subst e1; subst e3
    have hB : Blk w g 58 cur := hh
    have hcell : ∀ j, j < 3 → w.cell? ⟨g, p * 3 + j, none⟩ = x.cells[j]? := fun j hj => by
      rw [hB.cell, ← cellsR_get vals p x j hp hj, ← ht, List.getElem?_take, if_pos (by omega)]
      simp
    refine ⟨g, rfl, hb, hB.lt, ⟨hcell 0 (by omega), hcell 1 (by omega), hcell 2 (by omega)⟩, hB.frozen, fun y => ⟨by rw [cellsR_len, List.length_set, ← hl], .inr ⟨g, c, _, rfl, hb, ((hB.set_ (p * 3) (.int .i64 y.k)).set_ (p * 3 + 1) (.int .i64 y.i)).set_ (p * 3 + 2) (.string y.t), hn, hc, by simp [hs], ?_⟩⟩⟩
    have e := cellsR_set vals p y
    rw [if_pos hlt] at e
    rw [← e, ← ht]
    simp only [Array.toList_setIfInBounds, List.take_set]
theorem own_blkX {w : World} {base N c : Nat} {A : Option Addr} {vals : List V} {p : Nat} {x : V} (h : w.ownsRow base 58 3 (.slice A N c) N (cellsR vals)) (hp : vals[p]? = some x) :
    ∃ (b : Nat), A = some ⟨b, 0, none⟩ ∧ base ≤ b ∧ ∀ w', Ext w w' → (w'.cell? ⟨b, p * 3, none⟩ = some (.int .i64 x.k) ∧ w'.cell? ⟨b, p * 3 + 1, none⟩ = some (.int .i64 x.i) ∧ w'.cell? ⟨b, p * 3 + 2, none⟩ = some (.string x.t)) ∧ (∀ i, w'.frozen? ⟨b, i, none⟩ = false) ∧
      ∀ y : V, (((w'.setCell ⟨b, p * 3, none⟩ (.int .i64 y.k)).setCell ⟨b, p * 3 + 1, none⟩ (.int .i64 y.i)).setCell ⟨b, p * 3 + 2, none⟩ (.string y.t)).ownsRow base 58 3 (.slice A N c) N (cellsR (vals.set p y)) := by
  obtain ⟨b, h1, h2, _⟩ := own_blkV h hp
  refine ⟨b, h1, h2, fun w' hw => ?_⟩
  obtain ⟨b', h3, h4, h5, h6, h7, h8⟩ := own_blkV (mine_ext h hw) hp
  rw [h1] at h3
  injection h3 with h3
  injection h3 with h3
  subst h3
  exact ⟨h6, h7, h8⟩

/-- what the document's Match hands back when the row matches -/
def MtIs (out : List V) (u : Value) (w : World) : Prop := ∃ g, u = .tuple #[.slice (some ⟨g, 0, none⟩) out.length out.length, .bool true] ∧ Blk w g 58 (cellsR out).toArray
def MvIs (out : List V) (u : Value) (w : World) : Prop := ∃ g, u = .slice (some ⟨g, 0, none⟩) out.length out.length ∧ Blk w g 58 (cellsR out).toArray
theorem MtIs.ext {out : List V} {u : Value} {w w' : World} (h : MtIs out u w) (hw : Ext w w') : MtIs out u w' := by
  obtain ⟨g, h1, h2⟩ := h
  exact ⟨g, h1, h2.ext hw⟩
theorem MvIs.ext {out : List V} {u : Value} {w w' : World} (h : MvIs out u w) (hw : Ext w w') : MvIs out u w' := by
  obtain ⟨g, h1, h2⟩ := h
  exact ⟨g, h1, h2.ext hw⟩
end Go.Proofs.Ytpfjkjmimmklcaa
