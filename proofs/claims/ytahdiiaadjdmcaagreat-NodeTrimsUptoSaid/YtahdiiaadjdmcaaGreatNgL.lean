/-
  law of node: scripts; rows that are told.
  node, plain: what is put on and taken off again.
-/
import Derived.Test.YtahdiiaadjdmcaaGreatNgJ
import Derived.Test.YtahdiiaadjdmcaaGreatNgK
import Derived.Test.YtahdiiaadjdmcaaGreatNgA
import Derived.Test.YtahdiiaadjdmcaaGreatGaK
namespace Go.Proofs.YtahdiiaadjdmcaaGreat
open Go.RowKit

/-- rows that are told, in P -/
def Told (w : World) (P : Nat → Prop) (A : Option Addr) (n c : Nat) (rows : List (List V)) : Prop :=
  n = rows.length ∧ ∃ cells, OwnH w P 28 1 n (.slice A n c) cells ∧ Els (fun w cs r => ∃ A n c, cs = [.slice A n c] ∧ OwnH w P 85 3 n (.slice A n c) (cellsR r)) 1 w cells rows
theorem Told.keep {w w' : World} {P Q : Nat → Prop} {A : Option Addr} {n c : Nat} {rows : List (List V)} (h : Told w P A n c rows) (hw : Keeps P w w') (hq : ∀ b, P b → Q b) : Told w' Q A n c rows := by
  obtain ⟨h1, cells, h2, h3⟩ := h
  refine ⟨h1, cells, (h2.chg hw fun g hg h => h hg).mono hq, h3.mono fun cs r hx => ?_⟩
  obtain ⟨A, n, c, e, ho⟩ := hx
  exact ⟨A, n, c, e, (ho.chg hw fun g hg h => h hg).mono hq⟩
theorem Told.ext {w w' : World} {P Q : Nat → Prop} {A : Option Addr} {n c : Nat} {rows : List (List V)} (h : Told w P A n c rows) (hw : Ext w w') (hq : ∀ b, P b → Q b) : Told w' Q A n c rows := h.keep (Chg.of hw) hq
theorem Told.lat {w : World} {P : Nat → Prop} {A : Option Addr} {n c : Nat} {rows : List (List V)} (h : Told w P A n c rows) : LAt RRow 1 w A n rows := by
  obtain ⟨h1, cells, h2, h3⟩ := h
  refine ⟨h1, cells, h3.mono fun cs r hx => ?_, Sl.own h2.own⟩
  obtain ⟨A, n, c, e, ho⟩ := hx
  exact ⟨A, n, c, e, RowAt.own ho.own⟩
theorem copy_argP {r : List V} {A : Option Addr} {n c : Nat} {w : World} (ha : ArgR w A n r) :
    Calls Tryz.prog 16 #[.slice A n c] w fun e w' => ∃ A' c', e = .returned (.slice A' n c') ∧ ArgR w' A' n r ∧ (∀ a, A' = some a → w.heap.size ≤ a.block ∧ a.block < w'.heap.size) ∧ Ext w w' := by
  have hl := ha.len
  refine (copy_any r A n c w ha.at_ (by omega)).mono ?_
  rintro e w' ⟨A', c', rfl, ho, hx⟩
  obtain rfl := ha.at_.len
  exact ⟨A', c', rfl, ⟨RowAt.own ho, hl, ha.small, ha.wf⟩, fun a ha => ho.lt a.block (by rw [ha]; rfl), hx⟩
/-- a row, in P, as an argument -/
def AP (w : World) (P : Nat → Prop) (A : Option Addr) (n : Nat) (r : List V) : Prop := ArgR w A n r ∧ ∀ a, A = some a → P a.block
theorem AP.keep {w w' : World} {P Q : Nat → Prop} {A : Option Addr} {n : Nat} {r : List V} (h : AP w P A n r) (hw : Keeps P w w') (hq : ∀ b, P b → Q b) : AP w' Q A n r :=
  ⟨h.1.chg (fun a ha hn => hn (h.2 a ha)) hw, fun a ha => hq _ (h.2 a ha)⟩
theorem AP.ext {w w' : World} {P Q : Nat → Prop} {A : Option Addr} {n : Nat} {r : List V} (h : AP w P A n r) (hw : Ext w w') (hq : ∀ b, P b → Q b) : AP w' Q A n r := h.keep (Chg.of hw) hq
theorem Told.argP {w : World} {P : Nat → Prop} {A : Option Addr} {n c : Nat} {rows : List (List V)} (h : Told w P A n c rows) {i : Nat} {r : List V} (hr : rows[i]? = some r) (h2 : r.length ≤ 1048576) (h3 : smallR r) (h4 : wfR r) :
    ∃ b off A9 c9, A = some ⟨b, off, none⟩ ∧ w.cell? ⟨b, off + i, none⟩ = some (.slice A9 r.length c9) ∧ AP w P A9 r.length r := by
  obtain ⟨k1, cells, k2, k3⟩ := h
  have hi := (List.getElem?_eq_some_iff.1 hr).1
  have hL : LAt (fun w cs r => ∃ A n c, cs = [.slice A n c] ∧ OwnH w P 85 3 n (.slice A n c) (cellsR r)) 1 w A n rows := ⟨k1, cells, k3, Sl.own k2.own⟩
  obtain ⟨b, off, r', cs, hA, hx, hb1, _, _, ⟨A9, n9, c9, rfl, hR⟩, hcell⟩ := hL.get (by omega) (i := i) (by omega)
  obtain rfl : r = r' := Option.some.inj (hr.symm.trans hx)
  have h0 := hcell 0 (by omega)
  rw [Nat.mul_one, Nat.add_zero] at h0
  have hat := RowAt.own hR.own
  obtain rfl := hat.len
  refine ⟨b, off, A9, c9, hA, h0, ⟨hat, h2, h3, h4⟩, fun a ha => ?_⟩
  subst ha
  exact hR.inB a.block rfl
structure OpS where
  kind : Int
  k : Int
  row : List V
def ROp : World → List Value → OpS → Prop := fun w cs o => ∃ A n c, cs = [.int .i64 o.kind, .int .i64 o.k, .slice A n c] ∧ RowAt w A n o.row
theorem ROp.stab : Stab ROp := fun _ _ _ _ hw ⟨A, n, c, e, h⟩ => ⟨A, n, c, e, h.ext hw⟩
theorem LAt.op {w : World} {A : Option Addr} {n : Nat} {ops : List OpS} (h : LAt ROp 3 w A n ops) {i : Nat} (hi : i < n) : ∃ b off o A9 c9, A = some ⟨b, off, none⟩ ∧ ops[i]? = some o ∧ b < w.heap.size ∧ w.cell? ⟨b, off + i * 3, none⟩ = some (.int .i64 o.kind) ∧ w.cell? ⟨b, off + i * 3 + 1, none⟩ = some (.int .i64 o.k) ∧ w.cell? ⟨b, off + i * 3 + 2, none⟩ = some (.slice A9 o.row.length c9) ∧ RowAt w A9 o.row.length o.row := by
  obtain ⟨b, off, o, cs, rfl, ho, hbl, _, _, ⟨A9, n9, c9, rfl, hr⟩, hcell⟩ := LAt.get (by omega) h hi
  obtain rfl := hr.len
  exact ⟨b, off, o, A9, c9, rfl, ho, hbl, hcell 0 (by omega), hcell 1 (by omega), hcell 2 (by omega), hr⟩
/-- a node that was made, and what stands beside it: the document's -/
theorem MadeN.np {s : SP} {w w' : World} {e : Ending} (h : MadeN s w w' e) : (s.good = false ∧ e = .returned (.tuple #[.pointer none, .pointer none, .bool true]) ∧ Ext w w') ∨
    (s.good = true ∧ ∃ n d l b, e = .returned (.tuple #[.pointer (some ⟨n, 0, none⟩), .pointer (some ⟨d, 0, none⟩), .bool true]) ∧ NP w w' n l (nkOf s) emptyN 262144 (fun x => b ≤ x ∧ x < w'.heap.size) ∧ w.heap.size ≤ b ∧ DocNew b w' d s) := by
  obtain ⟨hx, ⟨h1, h2⟩ | ⟨h1, n, d, B, b, h2, h3, h4, h5, h6⟩⟩ := h
  · exact .inl ⟨h1, h2, hx⟩
  · obtain ⟨lab, v, q1, q2, q3⟩ := h3.at_
    exact .inr ⟨h1, n, d, v.l, b, h2, ⟨h3.ok, h3.now, h3.old, ⟨lab, v, q1, q2, rfl, fun x hx => ⟨(h4 x (q3 x hx)).1, fun hp => by have := (h4 x (q3 x hx)).2; omega⟩⟩, hx, fun x hx => hx.2⟩, h5, h6⟩
end Go.Proofs.YtahdiiaadjdmcaaGreat

namespace Go.Proofs.YtahdiiaadjdmcaaGreat
open Go.RowKit

theorem NOk.liveLen {K : NK} (hK : NKOk K) {s : NSt} (h : NOk K s) : s.live.length ≤ 65536 := by
  have h1 := h.most; have h2 := hK.most
  by_cases h3 : K.kind = 3
  · have := nodup_sub_len h.lnd fun r hr => ((h.meet h3 r).1 hr).1
    omega
  · rw [h.plain h3]; omega
theorem NKOk.width {K : NK} (h : NKOk K) : K.width ≤ 30 := by
  have h1 := h.inn; have h2 := h.keep.1
  unfold NK.width
  split <;> omega
theorem fit_len {w : Nat} {r : List V} (h : Fit w r) (hw : w ≤ 30) : r.length ≤ 30 := by
  have h1 := h.1
  unfold fitsR at h1
  simp only [Bool.and_eq_true, decide_eq_true_eq] at h1
  omega
theorem turn_fail {K : NK} {s : NSt} {on : Bool} {f : Int} {r : List V} (h : (turnN K s on f r).2.2.2 ≠ 0) : (turnN K s on f r).1 = s ∧ (turnN K s on f r).2.1 = [] ∧ (turnN K s on f r).2.2.1 = [] := by
  revert h
  unfold turnN sideN sourceN leafN trimN
  repeat' split
  all_goals first | exact fun _ => ⟨rfl, rfl, rfl⟩ | exact fun h => absurd rfl h
/-- what a turn tells is small -/
def Little (l : List (List V)) : Prop := l.length ≤ 65536 ∧ ∀ q ∈ l, q.length ≤ 30
/-- what is flipped on is live more; what is taken off again is as it was -/
def BackOk (K : NK) (s : NSt) (t u : Turn) : Prop := t.1.live.length = s.live.length + t.2.1.length ∧ u.2.2.2 = 0 ∧ u.2.1 = t.2.1 ∧ u.2.2.1 = t.2.2.1 ∧ u.1.live = s.live ∧ storedN K u.1 = storedN K s
theorem stored_ne3 {K : NK} (h3 : K.kind ≠ 3) (s : NSt) : storedN K s = s.live.length := if_neg h3
end Go.Proofs.YtahdiiaadjdmcaaGreat
