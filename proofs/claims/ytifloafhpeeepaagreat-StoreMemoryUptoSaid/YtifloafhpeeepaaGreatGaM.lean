/-
  A store beside things that are told: what stands in P is let be.
  StoreParts: the law's first half.
-/
import Derived.Test.YtifloafhpeeepaaGreatGbP
import Derived.Test.YtifloafhpeeepaaGreatStaE
namespace Go.Proofs.YtifloafhpeeepaaGreat
open Go.RowKit

/-- a store that was made since w0; what stands in P is none of it -/
def FP (w0 w : World) (x : Nat) (S : SAbs) (N : Nat) (P : Nat → Prop) : Prop := ∃ B, StI w B x S N ∧ (∀ b, B b → w0.heap.size ≤ b ∧ b < w.heap.size ∧ ¬ P b) ∧ Ext w0 w ∧ ∀ b, P b → b < w.heap.size
/-- what stands in P is as it was -/
abbrev Keeps (P : Nat → Prop) (w w' : World) : Prop := Chg (fun b => ¬ P b) w w'
theorem FP.ext0 {w0 w : World} {x : Nat} {S : SAbs} {N : Nat} {P : Nat → Prop} (h : FP w0 w x S N P) : Ext w0 w := by
  obtain ⟨B, h1, h2, h3, h4⟩ := h
  exact h3
def And' (P : Nat → Prop) (a b : Nat) : Nat → Prop := fun g => P g ∨ (a ≤ g ∧ g < b)
/-- new memory is told -/
theorem FP.ext {w0 w w' : World} {x : Nat} {S : SAbs} {N : Nat} {P : Nat → Prop} (h : FP w0 w x S N P) (hw : Ext w w') : FP w0 w' x S N (And' P w.heap.size w'.heap.size) := by
  obtain ⟨B, h1, h2, h3, h4⟩ := h
  have hs := hw.size
  exact ⟨B, h1.ext hw, fun b hb => ⟨(h2 b hb).1, by have := (h2 b hb).2.1; omega, fun hp => hp.elim (h2 b hb).2.2 fun h => by have := (h2 b hb).2.1; omega⟩, h3.trans hw, fun b hb => hb.elim (fun h => by have := h4 b h; omega) fun h => h.2⟩
theorem FP.mono {w0 w : World} {x : Nat} {S : SAbs} {N : Nat} {P Q : Nat → Prop} (h : FP w0 w x S N P) (hq : ∀ b, Q b → P b) : FP w0 w x S N Q := by
  obtain ⟨B, h1, h2, h3, h4⟩ := h
  exact ⟨B, h1, fun b hb => ⟨(h2 b hb).1, (h2 b hb).2.1, fun h => (h2 b hb).2.2 (hq b h)⟩, h3, fun b hb => h4 b (hq b hb)⟩
theorem FP.of {w0 w : World} {B : Nat → Prop} {x : Nat} {S : SAbs} {N : Nat} (h : StI w B x S N) (h2 : ∀ b, B b → w0.heap.size ≤ b) (h3 : Ext w0 w) (hl : ∀ b, B b → b < w.heap.size) : FP w0 w x S N fun b => b < w0.heap.size :=
  ⟨B, h, fun b hb => ⟨h2 b hb, hl b hb, fun h => by have := h2 b hb; omega⟩, h3, fun b hb => Nat.lt_of_lt_of_le hb h3.size⟩
theorem FP.step {w0 w w' : World} {B P : Nat → Prop} {x : Nat} {S' : SAbs} {N' : Nat} (h2 : ∀ b, B b → w0.heap.size ≤ b ∧ b < w.heap.size ∧ ¬ P b) (h3 : Ext w0 w) (h4 : ∀ b, P b → b < w.heap.size) (h : StS w B x S' N' w') : FP w0 w' x S' N' P ∧ Keeps P w w' := by
  obtain ⟨B', k1, k2, k3, k4⟩ := h
  have h0 := h3.size
  refine ⟨⟨B', k1, fun b hb => ⟨(k2 b hb).elim (fun h => (h2 b h).1) fun h => by omega, k3 b hb, fun hp => (k2 b hb).elim (fun h => (h2 b h).2.2 hp) fun h => by have := h4 b hp; omega⟩, k4.ext h3 fun g hg => (h2 g hg).1, fun b hb => Nat.lt_of_lt_of_le (h4 b hb) k4.size⟩, k4.mono fun g hg _ => (h2 g hg).2.2⟩
/-- a step that tells things from M on -/
theorem FP.stepM {w0 w w' : World} {B P : Nat → Prop} {x : Nat} {S' : SAbs} {N' M : Nat} (h2 : ∀ b, B b → w0.heap.size ≤ b ∧ b < w.heap.size ∧ ¬ P b) (h3 : Ext w0 w) (h4 : ∀ b, P b → b < w.heap.size) (h : StSM w B x S' N' w' M) : FP w0 w' x S' N' (And' P M w'.heap.size) ∧ Keeps P w w' := by
  have hs := FP.step h2 h3 h4 h.sts
  refine ⟨?_, hs.2⟩
  obtain ⟨B', k1, k2, k3, k4, k5, k6⟩ := h
  have h0 := h3.size
  refine ⟨B', k1, fun b hb => ⟨(k2 b hb).elim (fun h => (h2 b h).1) fun h => by omega, by have := k3 b hb; omega, fun hp => hp.elim (fun hp => (k2 b hb).elim (fun h => (h2 b h).2.2 hp) fun h => by have := h4 b hp; omega) fun h => by have := k3 b hb; omega⟩, k4.ext h3 fun g hg => (h2 g hg).1, fun b hb => hb.elim (fun h => Nat.lt_of_lt_of_le (h4 b h) k4.size) fun h => h.2⟩
theorem FP.put {w0 w : World} {x : Nat} {S : SAbs} {N : Nat} {P : Nat → Prop} (h : FP w0 w x S N P) (hN : N + 1 ≤ 8388608) {r : List V} {A : Option Addr} {n : Nat} (c : Nat) (ha : ArgR w A n r) (hA : ∀ a, A = some a → P a.block) :
    Calls Tryz.prog 9 #[.pointer (some ⟨x, 0, none⟩), .slice A n c] w fun e w' => e = .returned (.tuple #[.bool (putS S r).2.1, .int .i64 (putS S r).2.2]) ∧ FP w0 w' x (putS S r).1 (N + 1) P ∧ Keeps P w w' := by
  obtain ⟨B, h1, h2, h3, h4⟩ := h
  refine (put_st h1 hN c ha (fun a ha hb => (h2 _ hb).2.2 (hA a ha))).mono ?_
  rintro e w' ⟨rfl, hs⟩
  exact ⟨rfl, FP.step h2 h3 h4 hs⟩
theorem FP.len {w0 w : World} {x : Nat} {S : SAbs} {N : Nat} {P : Nat → Prop} (h : FP w0 w x S N P) : Calls Tryz.prog 26 #[.pointer (some ⟨x, 0, none⟩)] w fun e w' => e = .returned (.int .i64 S.rows.length) ∧ Ext w w' := by
  obtain ⟨B, h1, h2, h3, h4⟩ := h
  exact lens_st h1
theorem FP.rows {w0 w : World} {x : Nat} {S : SAbs} {N : Nat} {P : Nat → Prop} (h : FP w0 w x S N P) :
    Calls Tryz.prog 12 #[.pointer (some ⟨x, 0, none⟩)] w fun e w' => ∃ A c M, e = .returned (.slice A S.rows.length c) ∧ MineV M w' A S.rows.length c S.rows ∧ FP w0 w' x S (N + 1) (And' P M w'.heap.size) ∧ Keeps P w w' := by
  obtain ⟨B, h1, h2, h3, h4⟩ := h
  refine (rows_st h1).mono ?_
  rintro e w' ⟨A, c, M, rfl, hm, hs⟩
  exact ⟨A, c, M, rfl, hm, FP.stepM h2 h3 h4 hs⟩
theorem FP.group {w0 w : World} {x : Nat} {S : SAbs} {N : Nat} {P : Nat → Prop} (h : FP w0 w x S N P) (hN : N ≤ 8388608) {k : Nat} (hk : k < S.gs.length) {r : List V} {A : Option Addr} {n : Nat} (c : Nat) (ha : ArgR w A n r) :
    Calls Tryz.prog 13 #[.pointer (some ⟨x, 0, none⟩), .int .i64 k, .slice A n c] w fun e w' => ∃ A' c' M, e = .returned (.tuple #[.slice A' (grpS S k r).length c', .int .i64 0]) ∧ MineV M w' A' (grpS S k r).length c' (grpS S k r) ∧ FP w0 w' x S (N + 1) (And' P M w'.heap.size) ∧ Keeps P w w' := by
  obtain ⟨B, h1, h2, h3, h4⟩ := h
  refine (group_st h1 hN hk c ha).mono ?_
  rintro e w' ⟨A', c', rfl, M, hm, hs⟩
  exact ⟨A', c', M, rfl, hm, FP.stepM h2 h3 h4 hs⟩
theorem FP.keys {w0 w : World} {x : Nat} {S : SAbs} {N : Nat} {P : Nat → Prop} (h : FP w0 w x S N P) {k : Nat} {g : List Nat} (hg : S.gs[k]? = some g) :
    Calls Tryz.prog 15 #[.pointer (some ⟨x, 0, none⟩), .int .i64 k] w fun e w' => ∃ A c K, KeysOk S g K ∧ e = .returned (.tuple #[.slice A K.length c, .int .i64 0]) ∧ MineV w.heap.size w' A K.length c K ∧ Ext w w' := by
  obtain ⟨B, h1, h2, h3, h4⟩ := h
  exact keys_st h1 hg
/-- one row is told, or none is -/
def OneP (w0 w : World) (x : Nat) (S : SAbs) (N : Nat) (P : Nat → Prop) (o : Option (List V)) (e : Ending) (w' : World) : Prop := match o with
  | none => e = .returned (.tuple #[.slice none 0 0, .bool false, .int .i64 0]) ∧ FP w0 w' x S N P ∧ Keeps P w w'
  | some r => ∃ A c Q, e = .returned (.tuple #[.slice A r.length c, .bool true, .int .i64 0]) ∧ RowAt w' A r.length r ∧ (∀ a, A = some a → Q a.block) ∧ (∀ b, P b → Q b) ∧ FP w0 w' x S N Q ∧ Keeps P w w'
theorem OneP.of {w0 w w' : World} {B P : Nat → Prop} {x : Nat} {S : SAbs} {N : Nat} {o : Option (List V)} {e : Ending} (h2 : ∀ b, B b → w0.heap.size ≤ b ∧ b < w.heap.size ∧ ¬ P b) (h3 : Ext w0 w) (h4 : ∀ b, P b → b < w.heap.size) (h : OneSays w B x S N o e w') : OneP w0 w x S N P o e w' := by
  cases o with
  | none =>
    obtain ⟨rfl, hs⟩ := h
    exact ⟨rfl, FP.step h2 h3 h4 hs⟩
  | some r =>
    obtain ⟨A, c, M, rfl, ho, hs⟩ := h
    obtain ⟨k1, k2⟩ := FP.stepM h2 h3 h4 hs
    refine ⟨A, c, _, rfl, RowAt.own ho, fun a ha => .inr ?_, fun b hb => .inl hb, k1, k2⟩
    have := ho.lt a.block (by rw [ha]; rfl)
    exact ⟨this.1, this.2⟩
theorem FP.first {w0 w : World} {x : Nat} {S : SAbs} {N : Nat} {P : Nat → Prop} (h : FP w0 w x S N P) (hN : N ≤ 8388608) {k : Nat} (hk : k < S.gs.length) {r : List V} {A : Option Addr} {n : Nat} (c : Nat) (ha : ArgR w A n r) :
    Calls Tryz.prog 17 #[.pointer (some ⟨x, 0, none⟩), .int .i64 k, .slice A n c] w (OneP w0 w x S (N + 1) P (grpS S k r).head?) := by
  obtain ⟨B, h1, h2, h3, h4⟩ := h
  exact (first_st h1 hN hk c ha).mono fun e w' h => OneP.of h2 h3 h4 h
theorem FP.next {w0 w : World} {x : Nat} {S : SAbs} {N : Nat} {P : Nat → Prop} (h : FP w0 w x S N P) (hN : N ≤ 8388608) {k : Nat} {g : List Nat} (hg : S.gs[k]? = some g) {r : List V} {A : Option Addr} {n : Nat} (c : Nat) (ha : ArgR w A n r) (hr : r ∈ S.rows) :
    Calls Tryz.prog 25 #[.pointer (some ⟨x, 0, none⟩), .int .i64 k, .slice A n c] w fun e w' => ∃ i, (grpS S k (keyR g r))[i]? = some r ∧ OneP w0 w x S (N + 1) P (grpS S k (keyR g r))[i + 1]? e w' := by
  obtain ⟨B, h1, h2, h3, h4⟩ := h
  refine (next_st h1 hN hg c ha).mono ?_
  rintro e w' (⟨hf, -⟩ | ⟨-, i, hi, ho⟩)
  · rw [inB_iff.2 hr] at hf; cases hf
  · exact ⟨i, hi, OneP.of h2 h3 h4 ho⟩
theorem FP.fit {w0 w : World} {x : Nat} {S : SAbs} {N : Nat} {P : Nat → Prop} (h : FP w0 w x S N P) : S.rows.length ≤ S.most ∧ (∀ r ∈ S.rows, fitsR S.width r = true ∧ smallR r ∧ wfR r) ∧ S.rows.Nodup := by
  obtain ⟨B, h1, h2, h3, h4⟩ := h
  have h5 := (show FI w0 w x S N w.heap.size from ⟨B, h1, fun b hb => ⟨(h2 b hb).1, (h2 b hb).2.1⟩, h3, Nat.le_refl _⟩).fit
  refine ⟨h5.1, h5.2, ?_⟩
  obtain ⟨lab, v, D, P0, F0, k1, k2, k3, k4⟩ := h1
  rw [k3.rows]
  exact k4.row.vals
/-- rows that are told, in P -/
def Told (w : World) (P : Nat → Prop) (A : Option Addr) (n c : Nat) (rows : List (List V)) : Prop :=
  n = rows.length ∧ ∃ cells, OwnH w P 30 1 n (.slice A n c) cells ∧ Els (fun w cs r => ∃ A n c, cs = [.slice A n c] ∧ OwnH w P 43 3 n (.slice A n c) (cellsR r)) 1 w cells rows
theorem MineV.told {M : Nat} {P : Nat → Prop} {w : World} {A : Option Addr} {n c : Nat} {rows : List (List V)} (h : MineV M w A n c rows) (hP : ∀ b, M ≤ b → b < w.heap.size → P b) : Told w P A n c rows := by
  obtain ⟨cells, h1, h2, h3⟩ := h
  refine ⟨h1, cells, ⟨own_base0 h2 (Nat.zero_le _), fun g hg => hP g (h2.lt g hg).1 (h2.lt g hg).2⟩, h3.mono fun cs r hx => ?_⟩
  obtain ⟨A, n, c, e, ho⟩ := hx
  exact ⟨A, n, c, e, own_base0 ho (Nat.zero_le _), fun g hg => hP g (ho.lt g hg).1 (ho.lt g hg).2⟩
theorem Told.keep {w w' : World} {P Q : Nat → Prop} {A : Option Addr} {n c : Nat} {rows : List (List V)} (h : Told w P A n c rows) (hw : Keeps P w w') (hq : ∀ b, P b → Q b) : Told w' Q A n c rows := by
  obtain ⟨h1, cells, h2, h3⟩ := h
  refine ⟨h1, cells, (h2.chg hw fun g hg h => h hg).mono hq, h3.mono fun cs r hx => ?_⟩
  obtain ⟨A, n, c, e, ho⟩ := hx
  exact ⟨A, n, c, e, (ho.chg hw fun g hg h => h hg).mono hq⟩
theorem Told.ext {w w' : World} {P Q : Nat → Prop} {A : Option Addr} {n c : Nat} {rows : List (List V)} (h : Told w P A n c rows) (hw : Ext w w') (hq : ∀ b, P b → Q b) : Told w' Q A n c rows := h.keep (Chg.of hw) hq
theorem Told.lat {w : World} {P : Nat → Prop} {A : Option Addr} {n c : Nat} {rows : List (List V)} (h : Told w P A n c rows) : LAt RRow 1 w A n rows := by
  obtain ⟨h1, cells, h2, h3⟩ := h
  refine ⟨h1, cells, h3.mono fun cs r hx => ?_, Sl.own h2.own⟩
  obtain ⟨A, n, c, e, ho⟩ := hx
  exact ⟨A, n, c, e, RowAt.own ho.own⟩
end Go.Proofs.YtifloafhpeeepaaGreat

namespace Go.Proofs.YtifloafhpeeepaaGreat
open Go.RowKit

theorem putS_same (S : SAbs) (r : List V) : (putS S r).1.width = S.width ∧ (putS S r).1.most = S.most ∧ (putS S r).1.gs = S.gs ∧ ((putS S r).2.1 = true → (putS S r).2.2 = 0 ∧ (putS S r).1.rows.length = S.rows.length + 1) ∧ ((putS S r).2.1 = false → (putS S r).1 = S) := by
  unfold putS
  split
  · split
    · exact ⟨rfl, rfl, rfl, fun h => by simp at h, fun _ => rfl⟩
    · split
      · exact ⟨rfl, rfl, rfl, fun _ => ⟨rfl, by rw [List.length_append]; rfl⟩, fun h => by simp at h⟩
      · exact ⟨rfl, rfl, rfl, fun h => by simp at h, fun _ => rfl⟩
  · exact ⟨rfl, rfl, rfl, fun h => by simp at h, fun _ => rfl⟩
set_option maxRecDepth 100000 in
theorem key_ref {w : World} {r : List V} {gN : List Nat} {A B : Option Addr} {n m : Nat} (c d : Nat) (ha : RowAt w A n r) (hb : NumAt w B m (gN.map Int.ofNat)) (hn : n ≤ 1048576) (hm : m ≤ 1048576) :
    Calls Tryz.prog 18 #[.slice A n c, .slice B m d] w fun e w' => ∃ A' c', e = .returned (.slice A' (keyR gN r).length c') ∧ RowAt w' A' (keyR gN r).length (keyR gN r) ∧ Ext w w' := by
  have HP := hide (ref_proj_any r (gN.map Int.ofNat) A B n m c d w ha hb hn hm)
  clear ha hb
  unfold keyR
  generalize projR r (gN.map Int.ofNat) = pr at *
  go_enter Tryz.func18, Tryz.ntmps18
  go_wp2_with ((with_reducible refine HP.out.mono ?_); rintro e w2 ⟨A', c', rfl, ho, hx⟩; have O2 := hide ho; have X2 := hide hx; clear ho hx)
  go_ret
  exact ⟨A', c', rfl, RowAt.own O2.out, X2.out⟩
theorem copy_argP {r : List V} {A : Option Addr} {n c : Nat} {w : World} (ha : ArgR w A n r) :
    Calls Tryz.prog 10 #[.slice A n c] w fun e w' => ∃ A' c', e = .returned (.slice A' n c') ∧ ArgR w' A' n r ∧ (∀ a, A' = some a → w.heap.size ≤ a.block ∧ a.block < w'.heap.size) ∧ Ext w w' := by
  have hl := ha.len
  refine (copy_any r A n c w ha.at_ (by omega)).mono ?_
  rintro e w' ⟨A', c', rfl, ho, hx⟩
  obtain rfl := ha.at_.len
  exact ⟨A', c', rfl, ⟨RowAt.own ho, hl, ha.small, ha.wf⟩, fun a ha => ho.lt a.block (by rw [ha]; rfl), hx⟩
/-- the numbers of the groups so far -/
def numG (S : SAbs) (K : List (List V)) (i : Nat) : Nat := ((K.take i).map fun k => (grpS S 0 k).length).sum
/-- a row, in P, as an argument -/
def AP (w : World) (P : Nat → Prop) (A : Option Addr) (n : Nat) (r : List V) : Prop := ArgR w A n r ∧ ∀ a, A = some a → P a.block
theorem AP.keep {w w' : World} {P Q : Nat → Prop} {A : Option Addr} {n : Nat} {r : List V} (h : AP w P A n r) (hw : Keeps P w w') (hq : ∀ b, P b → Q b) : AP w' Q A n r :=
  ⟨h.1.chg (fun a ha hn => hn (h.2 a ha)) hw, fun a ha => hq _ (h.2 a ha)⟩
theorem AP.ext {w w' : World} {P Q : Nat → Prop} {A : Option Addr} {n : Nat} {r : List V} (h : AP w P A n r) (hw : Ext w w') (hq : ∀ b, P b → Q b) : AP w' Q A n r := h.keep (Chg.of hw) hq
theorem Told.argP {w : World} {P : Nat → Prop} {A : Option Addr} {n c : Nat} {rows : List (List V)} (h : Told w P A n c rows) {i : Nat} {r : List V} (hr : rows[i]? = some r) (h2 : r.length ≤ 1048576) (h3 : smallR r) (h4 : wfR r) :
    ∃ b off A9 c9, A = some ⟨b, off, none⟩ ∧ w.cell? ⟨b, off + i, none⟩ = some (.slice A9 r.length c9) ∧ AP w P A9 r.length r := by
  obtain ⟨k1, cells, k2, k3⟩ := h
  have hi := (List.getElem?_eq_some_iff.1 hr).1
  have hL : LAt (fun w cs r => ∃ A n c, cs = [.slice A n c] ∧ OwnH w P 43 3 n (.slice A n c) (cellsR r)) 1 w A n rows := ⟨k1, cells, k3, Sl.own k2.own⟩
  obtain ⟨b, off, r', cs, hA, hx, hb1, _, _, ⟨A9, n9, c9, rfl, hR⟩, hcell⟩ := hL.get (by omega) (i := i) (by omega)
  obtain rfl : r = r' := Option.some.inj (hr.symm.trans hx)
  have h0 := hcell 0 (by omega)
  rw [Nat.mul_one, Nat.add_zero] at h0
  have hat := RowAt.own hR.own
  obtain rfl := hat.len
  refine ⟨b, off, A9, c9, hA, h0, ⟨hat, h2, h3, h4⟩, fun a ha => ?_⟩
  subst ha
  exact hR.inB a.block rfl
theorem key_small {g : List Nat} {r : List V} (h : KeyGood g r) : r.length ≤ 1048576 := by
  have := (key_parts h.ok).1
  omega
end Go.Proofs.YtifloafhpeeepaaGreat
