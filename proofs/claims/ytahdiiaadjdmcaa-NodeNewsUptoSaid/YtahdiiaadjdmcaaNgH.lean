/-
  node: Begin.
  node: Commit and Rollback.
  node: Support and Stored.
  A node beside things that are told: what stands in P is let be.
-/
import Derived.Test.YtahdiiaadjdmcaaNgG
import Derived.Test.YtahdiiaadjdmcaaGaD
namespace Go.Proofs.Ytahdiiaadjdmcaa
open Go.RowKit

/-- so many marks are set, but the live rows' first -/
def begT (K : NK) (a : NAbs) : Nat → Nat → SAbs
  | 0 => updT (tof K a) 1 (beginS (S1 K a)).1
  | i + 1 => updT (begT K a i) (i + 2) (beginS (tof K a (i + 2))).1
theorem beg_at (K : NK) (a : NAbs) {i : Nat} (hi : i < 2) : begT K a i (i + 2) = tof K a (i + 2) := by
  match i, hi with
  | 0, _ => rfl
  | 1, _ => rfl
theorem beg_all {K : NK} {a : NAbs} (ho : a.old = none) {L : Nat} (hL : L = if K.kind = 3 then 2 else 0) : begT K a L 1 = S1 K ⟨a.now, some a.now⟩ ∧ (K.kind = 3 → begT K a L 2 = S2 K ⟨a.now, some a.now⟩) ∧ (K.kind = 3 → begT K a L 3 = S3 K ⟨a.now, some a.now⟩) := by
  have e : ∀ S : SAbs, S.old = none → (beginS S).1 = { S with old := some S.rows } := fun S h => by unfold beginS; rw [h]
  have h1 : (beginS (S1 K a)).1 = S1 K ⟨a.now, some a.now⟩ := by rw [e _ (by unfold S1; rw [ho]; rfl)]; rfl
  have h2 : (beginS (S2 K a)).1 = S2 K ⟨a.now, some a.now⟩ := by rw [e _ (by unfold S2; rw [ho]; rfl)]; rfl
  have h3 : (beginS (S3 K a)).1 = S3 K ⟨a.now, some a.now⟩ := by rw [e _ (by unfold S3; rw [ho]; rfl)]; rfl
  by_cases hk : K.kind = 3
  · rw [if_pos hk] at hL
    subst hL
    exact ⟨by simp [begT, updT, h1], fun _ => by simp [begT, updT, tof, h2], fun _ => by simp [begT, updT, tof, h3]⟩
  · rw [if_neg hk] at hL
    subst hL
    exact ⟨by simp [begT, updT, h1], fun h => absurd h hk, fun h => absurd h hk⟩
theorem oth_len (K : NK) (v : NdV) : (othersN K v).length = if K.kind = 3 then 2 else 0 := by unfold othersN; split <;> rfl
theorem oth_at {K : NK} {v : NdV} {i x : Nat} (h : (othersN K v)[i]? = some x) : x = ptrX v (i + 2) ∧ i < 2 ∧ (K.kind = 3 ∧ (i + 2 = 2 ∨ i + 2 = 3)) := by
  unfold othersN at h
  by_cases hk : K.kind = 3
  · rw [if_pos hk] at h
    match i, h with
    | 0, h => exact ⟨by simpa [ptrX] using h.symm, by decide, hk, .inl rfl⟩
    | 1, h => exact ⟨by simpa [ptrX] using h.symm, by decide, hk, .inr rfl⟩
    | i + 2, h => simp at h
  · rw [if_neg hk] at h; simp at h
theorem sts_slice {b : Nat} {xs : List Nat} {u : Value} {w : World} (h : StsIs b xs u w) : ∃ A c, u = .slice A xs.length c ∧ ∀ (i x : Nat), xs[i]? = some x → ∃ g, b ≤ g ∧ A = some ⟨g, 0, none⟩ ∧ Blk w g 65 (ptrC xs).toArray := by
  rcases h with ⟨rfl, rfl⟩ | ⟨h, g, hg, rfl, hb⟩
  · exact ⟨none, 0, rfl, fun i x hx => by simp at hx⟩
  · exact ⟨_, _, rfl, fun i x hx => ⟨g, hg, rfl, hb⟩⟩
theorem NdQ.openS {w : World} {lab : Lab} {K : NK} {v : NdV} {a : NAbs} {N : Nat} {S : SAbs} (h : NdQ w lab K v a S N) : NdO w lab K v a (updT (tof K a) 1 S) N := ⟨h.r.lt, h.r.part 0, h.s, h.r.part 2, h.r.part 3, h.r.part 4, h.r.part 5⟩
theorem tof_old {K : NK} {a : NAbs} (ho : a.old = none) (j : Nat) : (tof K a j).old = none := by
  unfold tof
  split
  · unfold S1; rw [ho]; rfl
  · split
    · unfold S2; rw [ho]; rfl
    · unfold S3; rw [ho]; rfl
theorem beg_zero {S : SAbs} (h : S.old = none) : (beginS S).2 = 0 := by unfold beginS; rw [h]
section
variable {w : World} {lab : Lab} {K : NK} {v : NdV} {a : NAbs} {N : Nat}
end
end Go.Proofs.Ytahdiiaadjdmcaa

namespace Go.Proofs.Ytahdiiaadjdmcaa
open Go.RowKit

theorem commit_tof (K : NK) (a : NAbs) : (commitS (S1 K a)).1 = S1 K (commitN a).1 ∧ (commitS (S2 K a)).1 = S2 K (commitN a).1 ∧ (commitS (S3 K a)).1 = S3 K (commitN a).1 := by
  obtain ⟨n, o⟩ := a
  cases o <;> exact ⟨rfl, rfl, rfl⟩
theorem roll_tof (K : NK) (a : NAbs) : (rollS (S1 K a)).1 = S1 K (rollN a).1 ∧ (rollS (S2 K a)).1 = S2 K (rollN a).1 ∧ (rollS (S3 K a)).1 = S3 K (rollN a).1 := by
  obtain ⟨n, o⟩ := a
  cases o <;> exact ⟨rfl, rfl, rfl⟩
theorem mark_code (a : NAbs) : (if a.old.isSome then (0 : Int) else 65) = (commitN a).2 ∧ (if a.old.isSome then (0 : Int) else 65) = (rollN a).2 := by
  obtain ⟨n, o⟩ := a
  cases o <;> exact ⟨rfl, rfl⟩
section
variable {w : World} {lab : Lab} {K : NK} {v : NdV} {a : NAbs} {N : Nat}
end
end Go.Proofs.Ytahdiiaadjdmcaa

namespace Go.Proofs.Ytahdiiaadjdmcaa
open Go.RowKit

section
variable {w : World} {lab : Lab} {K : NK} {v : NdV} {a : NAbs} {N : Nat}
set_option maxRecDepth 100000 in
theorem node_stored (h : NdQ w lab K v a (S1 K a) N) (hK : NKOk K) :
    Calls Try.prog 6 #[.pointer (some ⟨v.n, 0, none⟩)] w fun e w' => e = .returned (.int .i64 (storedN K a.now : Nat)) ∧ Ext w w' := by
  have n1 := h.r.kind.2.1
  have n0 := h.r.kind.1
  have a6 := h.r.rows6
  have H1 := lens_st h.s
  by_cases hk : K.kind = 3
  · have hta2 : ∀ v w, (Instr.typeAssert (.iface (workT K) v) 36 64 true).run Try.prog w = .ok (.tuple #[v, .bool true]) w := fun v w => by rw [ta_meet hK v w, if_pos hk, decide_eq_true hk]
    have H2 := lens_st (h.r.part 2 hk)
    have k1 := (h.r.meet hk).2.1
    rw [show (S2 K a).rows.length = storedN K a.now by unfold storedN; rw [if_pos hk]; rfl] at H2
    have H2 := hide H2
    clear h hK H1
    go_enter Try.func6, Try.ntmps6
    go_wp2_with ((with_reducible refine H2.out.mono ?_); rintro e w2 ⟨rfl, h2⟩; have S2 := hide h2; clear h2)
    go_ret
    exact ⟨rfl, S2.out⟩
  · have hta2 : ∀ v w, (Instr.typeAssert (.iface (workT K) v) 36 64 true).run Try.prog w = .ok (.tuple #[.pointer none, .bool false]) w := fun v w => by rw [ta_meet hK v w, if_neg hk, decide_eq_false hk]
    rw [show (S1 K a).rows.length = storedN K a.now by unfold storedN; rw [if_neg hk]; rfl] at H1
    have H1 := hide H1
    clear h hK
    go_enter Try.func6, Try.ntmps6
    go_wp2_with ((with_reducible refine H1.out.mono ?_); rintro e w2 ⟨rfl, h2⟩; have S2 := hide h2; clear h2)
    go_ret
    exact ⟨rfl, S2.out⟩
end
end Go.Proofs.Ytahdiiaadjdmcaa

namespace Go.Proofs.Ytahdiiaadjdmcaa
open Go.RowKit

/-- what stands in P is as it was -/
abbrev Keeps (P : Nat → Prop) (w w' : World) : Prop := Chg (fun b => ¬ P b) w w'
def And' (P : Nat → Prop) (a b : Nat) : Nat → Prop := fun g => P g ∨ (a ≤ g ∧ g < b)
/-- a node that was made since w0; what stands in P is none of it -/
structure NP (w0 w : World) (n l : Nat) (K : NK) (a : NAbs) (N : Nat) (P : Nat → Prop) : Prop where
  ok : NKOk K
  now : NOk K a.now
  old : ∀ o, a.old = some o → NOk K o
  at_ : ∃ lab v, NdQ w lab K v a (S1 K a) N ∧ v.n = n ∧ v.l = l ∧ ∀ b, lab.dom b → w0.heap.size ≤ b ∧ ¬ P b
  ext0 : Ext w0 w
  lt : ∀ b, P b → b < w.heap.size
section
variable {w0 w w' : World} {n l : Nat} {K : NK} {a : NAbs} {N : Nat} {P Q : Nat → Prop}
theorem NP.of {B : Nat → Prop} (h : NdI w B n K a N) (hb : ∀ b, B b → w0.heap.size ≤ b) (he : Ext w0 w) : ∃ l, NP w0 w n l K a N fun _ => False := by
  obtain ⟨lab, v, h1, h2, h3⟩ := h.at_
  exact ⟨v.l, h.ok, h.now, h.old, ⟨lab, v, h1, h2, rfl, fun b hx => ⟨hb b (h3 b hx), id⟩⟩, he, fun b hx => hx.elim⟩
theorem NP.mono (h : NP w0 w n l K a N P) (hq : ∀ b, Q b → P b) : NP w0 w n l K a N Q := by
  obtain ⟨lab, v, h1, h2, h3, h4⟩ := h.at_
  exact ⟨h.ok, h.now, h.old, ⟨lab, v, h1, h2, h3, fun b hb => ⟨(h4 b hb).1, fun hp => (h4 b hb).2 (hq b hp)⟩⟩, h.ext0, fun b hb => h.lt b (hq b hb)⟩
theorem NP.more (h : NP w0 w n l K a N P) {M : Nat} (hM : N ≤ M) : NP w0 w n l K a M P := by
  obtain ⟨lab, v, h1, h2, h3, h4⟩ := h.at_
  exact ⟨h.ok, h.now, h.old, ⟨lab, v, h1.more hM, h2, h3, h4⟩, h.ext0, h.lt⟩
/-- new memory is told -/
theorem NP.ext (h : NP w0 w n l K a N P) (hw : Ext w w') : NP w0 w' n l K a N (And' P w.heap.size w'.heap.size) := by
  obtain ⟨lab, v, h1, h2, h3, h4⟩ := h.at_
  have hs := hw.size
  exact ⟨h.ok, h.now, h.old, ⟨lab, v, h1.ext hw, h2, h3, fun b hb => ⟨(h4 b hb).1, fun hp => hp.elim (h4 b hb).2 fun hx => by obtain ⟨i, hi⟩ := hb; have := h1.r.lt b i hi; omega⟩⟩, h.ext0.trans hw, fun b hb => hb.elim (fun hx => Nat.lt_of_lt_of_le (h.lt b hx) hs) fun hx => hx.2⟩
/-- what is told is written -/
theorem NP.chgP (h : NP w0 w n l K a N P) (hc : Chg Q w w') (hQ : ∀ b, Q b → P b) (hQ0 : ∀ b, Q b → w0.heap.size ≤ b) : NP w0 w' n l K a N (And' P w.heap.size w'.heap.size) := by
  obtain ⟨lab, v, h1, h2, h3, h4⟩ := h.at_
  have hs := hc.size
  exact ⟨h.ok, h.now, h.old, ⟨lab, v, h1.chg hc fun g hg hq => (h4 g hg).2 (hQ g hq), h2, h3, fun b hb => ⟨(h4 b hb).1, fun hp => hp.elim (h4 b hb).2 fun hx => by obtain ⟨i, hi⟩ := hb; have := h1.r.lt b i hi; omega⟩⟩, hc.ext h.ext0 hQ0, fun b hb => hb.elim (fun hx => Nat.lt_of_lt_of_le (h.lt b hx) hs) fun hx => hx.2⟩
theorem NP.size0 (h : NP w0 w n l K a N P) : w0.heap.size ≤ w.heap.size := h.ext0.size
theorem NP.cell0 (h : NP w0 w n l K a N P) : w.cell? ⟨n, 0, none⟩ = some (ptr l) := by
  obtain ⟨lab, v, h1, rfl, rfl, h4⟩ := h.at_
  exact h1.r.kind.1
theorem NP.step {lab : Lab} {v' : NdV} {a' : NAbs} {N' : Nat} (h : NP w0 w n l K a N P) (hn : v'.n = n) (h4 : ∀ b, lab.dom b → w0.heap.size ≤ b ∧ ¬ P b) (o1 : NOk K a'.now) (o2 : ∀ o, a'.old = some o → NOk K o) {lab' : Lab} (hq : NdQ w' lab' K v' a' (S1 K a') N') (hs : Step w lab w' lab') : NP w0 w' n v'.l K a' N' P ∧ Keeps P w w' := by
  have h0 := h.size0
  exact ⟨⟨h.ok, o1, o2, ⟨lab', v', hq, hn, rfl, fun b hb => (hs.1 b hb).elim (h4 b) fun hx => ⟨by omega, fun hp => by have := h.lt b hp; omega⟩⟩, hs.2.ext h.ext0 fun g hg => (h4 g hg).1, fun b hb => Nat.lt_of_lt_of_le (h.lt b hb) hs.2.size⟩, hs.2.mono fun g hg _ => (h4 g hg).2⟩
theorem NP.stepT {lab : Lab} {v : NdV} {N' : Nat} (h : NP w0 w n l K a N P) (hn : v.n = n) (hl : v.l = l) (h4 : ∀ b, lab.dom b → w0.heap.size ≤ b ∧ ¬ P b) (hq : NdT w lab K v a (S1 K a) N' w') : NP w0 w' n l K a N' P ∧ Keeps P w w' := by
  obtain ⟨lab', h1, h2⟩ := hq
  subst hl
  exact h.step hn h4 h.now h.old h1 h2
theorem NP.stepM {lab : Lab} {v : NdV} {N' M : Nat} (h : NP w0 w n l K a N P) (hn : v.n = n) (hl : v.l = l) (h4 : ∀ b, lab.dom b → w0.heap.size ≤ b ∧ ¬ P b) (hq : NdTM w lab K v a (S1 K a) N' w' M) : NP w0 w' n l K a N' (And' P M w'.heap.size) ∧ Keeps P w w' ∧ w.heap.size ≤ M := by
  have hs := h.stepT hn hl h4 hq.ndt
  obtain ⟨lab', h1, h2, h3, h5, h6⟩ := hq
  have h0 := h.size0
  refine ⟨⟨h.ok, h.now, h.old, ⟨lab', v, h1, hn, hl, fun b hb => ⟨(h2.1 b hb).elim (fun hx => (h4 b hx).1) fun hx => by omega, fun hp => hp.elim (fun hp => (h2.1 b hb).elim (fun hx => (h4 b hx).2 hp) fun hx => by have := h.lt b hp; omega) fun hx => by have := h3 b hb; omega⟩⟩, hs.1.ext0, fun b hb => hb.elim (fun hx => hs.1.lt b hx) fun hx => hx.2⟩, hs.2, h5⟩
theorem S1_gs (K : NK) (a : NAbs) : (S1 K a).gs = [K.up] := rfl
theorem S1_rows (K : NK) (a : NAbs) : (S1 K a).rows = a.now.live := rfl
theorem NP.has (h : NP w0 w n l K a N P) (hN : N + 1 ≤ 8796093022208) {r : List V} {A : Option Addr} {m : Nat} (c : Nat) (ha : ArgR w A m r) :
    Calls Try.prog 14 #[.pointer (some ⟨l, 0, none⟩), .slice A m c] w fun e w' => e = .returned (.bool (inB a.now.live r)) ∧ NP w0 w' n l K a (N + 1) P ∧ Keeps P w w' := by
  obtain ⟨lab, v, h1, h2, h3, h4⟩ := h.at_
  have hc := live_has h1 hN c ha
  rw [h3] at hc
  refine hc.mono ?_
  rintro e w' ⟨rfl, ht⟩
  exact ⟨rfl, h.stepT h2 h3 h4 ht⟩
theorem NP.rows (h : NP w0 w n l K a N P) :
    Calls Try.prog 7 #[.pointer (some ⟨l, 0, none⟩)] w fun e w' => ∃ A c M, e = .returned (.slice A a.now.live.length c) ∧ MineA M w' A a.now.live.length c a.now.live ∧ NP w0 w' n l K a (N + 1) (And' P M w'.heap.size) ∧ Keeps P w w' ∧ w.heap.size ≤ M := by
  obtain ⟨lab, v, h1, h2, h3, h4⟩ := h.at_
  have hc := live_rows h1
  rw [h3] at hc
  refine hc.mono ?_
  rintro e w' ⟨A, c, M, rfl, hm, ht⟩
  exact ⟨A, c, M, rfl, hm, h.stepM h2 h3 h4 ht⟩
/-- one row is told, or none is -/
def OneP (w0 w : World) (n l : Nat) (K : NK) (a : NAbs) (N : Nat) (P : Nat → Prop) (o : Option (List V)) (f : Value → Bool → Ending) (e : Ending) (w' : World) : Prop := match o with
  | none => e = f (.slice none 0 0) false ∧ NP w0 w' n l K a N P ∧ Keeps P w w'
  | some r => ∃ A c Q, e = f (.slice A r.length c) true ∧ RowAt w' A r.length r ∧ (∀ x, A = some x → Q x.block) ∧ (∀ b, P b → Q b) ∧ (∀ b, Q b → P b ∨ w.heap.size ≤ b) ∧ NP w0 w' n l K a N Q ∧ Keeps P w w'
theorem OneP.of {lab : Lab} {v : NdV} {N' : Nat} {o : Option (List V)} {f : Value → Bool → Ending} {e : Ending} (h : NP w0 w n l K a N P) (hn : v.n = n) (hl : v.l = l) (h4 : ∀ b, lab.dom b → w0.heap.size ≤ b ∧ ¬ P b) (hq : OneN w lab K v a (S1 K a) N' o f e w') : OneP w0 w n l K a N' P o f e w' := by
  cases o with
  | none =>
    obtain ⟨rfl, ht⟩ := hq
    exact ⟨rfl, h.stepT hn hl h4 ht⟩
  | some r =>
    obtain ⟨A, c, M, rfl, ho, ht⟩ := hq
    obtain ⟨k1, k2, k3⟩ := h.stepM hn hl h4 ht
    refine ⟨A, c, _, rfl, RowAt.own ho, fun x hx => .inr ?_, fun b hb => .inl hb, fun b hb => hb.imp id fun hx => by omega, k1, k2⟩
    exact ho.lt x.block (by rw [hx]; rfl)
/-- what Next answers -/
def NextP (w0 w : World) (n l : Nat) (K : NK) (a : NAbs) (N : Nat) (P : Nat → Prop) (r : List V) (e : Ending) (w' : World) : Prop :=
  (inB a.now.live r = false ∧ e = .returned (.tuple #[.slice none 0 0, .bool false, .int .i64 62]) ∧ NP w0 w' n l K a N P ∧ Keeps P w w') ∨
  (inB a.now.live r = true ∧ ∃ i, (grpS (S1 K a) 0 (keyR K.up r))[i]? = some r ∧ OneP w0 w n l K a N P (grpS (S1 K a) 0 (keyR K.up r))[i + 1]? nextE e w')
theorem NP.stored (h : NP w0 w n l K a N P) : Calls Try.prog 6 #[.pointer (some ⟨n, 0, none⟩)] w fun e w' => e = .returned (.int .i64 (storedN K a.now : Nat)) ∧ Ext w w' := by
  obtain ⟨lab, v, h1, h2, h3, h4⟩ := h.at_
  have hc := node_stored h1 h.ok
  rw [h2] at hc
  exact hc
theorem begin_code (a : NAbs) : (beginN a).2 = if a.old.isSome then 64 else 0 := by
  obtain ⟨x, o⟩ := a
  cases o <;> rfl
/-- what a turn told, in P, from T on -/
def MovedIn (P : Nat → Prop) (T : Nat) (w : World) (F U : List (List V)) (y : Value) : Prop :=
  ∃ A c A2 c2 X Y, y = .agg #[.slice A F.length c, .slice A2 U.length c2] ∧ ToldA w X A F.length c F ∧ ToldA w Y A2 U.length c2 U ∧ (∀ b, X b → ¬ Y b) ∧ ∀ b, X b ∨ Y b → P b ∧ T ≤ b
theorem MovedIn.chg {C : Nat → Prop} {T : Nat} {F U : List (List V)} {y : Value} (h : MovedIn P T w F U y) (hw : Chg C w w') (hC : ∀ b, P b → ¬ C b) (hq : ∀ b, P b → Q b) : MovedIn Q T w' F U y := by
  obtain ⟨A, c, A2, c2, X, Y, e, h1, h2, h3, h4⟩ := h
  exact ⟨A, c, A2, c2, X, Y, e, h1.chg hw (fun b hb => hC b (h4 b (.inl hb)).1) (fun _ h => h), h2.chg hw (fun b hb => hC b (h4 b (.inr hb)).1) (fun _ h => h), h3, fun b hb => ⟨hq b (h4 b hb).1, (h4 b hb).2⟩⟩
theorem MovedIn.keep {T : Nat} {F U : List (List V)} {y : Value} (h : MovedIn P T w F U y) (hw : Keeps P w w') (hq : ∀ b, P b → Q b) : MovedIn Q T w' F U y := h.chg hw (fun _ hb hn => hn hb) hq
theorem MovedIn.ext {T : Nat} {F U : List (List V)} {y : Value} (h : MovedIn P T w F U y) (hw : Ext w w') (hq : ∀ b, P b → Q b) : MovedIn Q T w' F U y := h.keep (Chg.of hw) hq
/-- a turn leaves the node and what it told -/
def TurnP (w0 w : World) (n l : Nat) (K : NK) (a : NAbs) (N : Nat) (P : Nat → Prop) (t : Turn) (e : Ending) (w' : World) : Prop :=
  ∃ y Q, e = .returned (.tuple #[y, .int .i64 t.2.2.2]) ∧ NP w0 w' n l K { a with now := t.1 } (N + 1048576) Q ∧ Keeps P w w' ∧ (∀ b, P b → Q b) ∧ (∀ b, Q b → P b ∨ w.heap.size ≤ b) ∧ MovedIn Q w.heap.size w' t.2.1 t.2.2.1 y
theorem TurnP.of {lab : Lab} {v : NdV} {t : Turn} {e : Ending} (h : NP w0 w n l K a N P) (hn : v.n = n) (hl : v.l = l) (h4 : ∀ b, lab.dom b → w0.heap.size ≤ b ∧ ¬ P b) (ho : NOk K t.1) (hq : TurnAt w lab K v a (N + 1048576) t e w') : TurnP w0 w n l K a N P t e w' := by
  obtain ⟨y, lab', rfl, h1, h2, A, c, A2, c2, X, Y, rfl, m1, m2, m3, m4⟩ := hq
  have h0 := h.size0
  have hs := h.step hn h4 (a' := { a with now := t.1 }) ho h.old h1 h2
  obtain ⟨lab9, v9, -⟩ := hs.1.at_
  refine ⟨_, fun b => P b ∨ (X b ∨ Y b), rfl, ⟨h.ok, ho, h.old, ⟨lab', v, h1, hn, hl, fun b hb => ⟨(h2.1 b hb).elim (fun hx => (h4 b hx).1) fun hx => by omega, fun hp => hp.elim (fun hp => (h2.1 b hb).elim (fun hx => (h4 b hx).2 hp) fun hx => by have := h.lt b hp; omega) fun hx => (m4 b hx).2.2 hb⟩⟩, hs.1.ext0, fun b hb => hb.elim (hs.1.lt b) fun hx => (m4 b hx).2.1⟩, hs.2, fun b hb => .inl hb, fun b hb => hb.imp id fun hx => (m4 b hx).1, A, c, A2, c2, X, Y, rfl, m1, m2, m3, fun b hb => ⟨.inr hb, (m4 b hb).1⟩⟩
theorem NP.on (h : NP w0 w n l K a N P) (hN : N + 1048576 ≤ 8796093022208) (from_ : Int) {r : List V} {A : Option Addr} {m : Nat} (c : Nat) (ha : ArgR w A m r) (hA : ∀ x, A = some x → P x.block) :
    Calls Try.prog 12 #[.pointer (some ⟨n, 0, none⟩), .int .i64 from_, .slice A m c] w (TurnP w0 w n l K a N P (turnN K a.now true from_ r)) := by
  obtain ⟨lab, v, h1, h2, h3, h4⟩ := h.at_
  have hc := node_on h1 h.ok h.now hN from_ c ha (fun x hx hb => (h4 _ hb).2 (hA x hx)) fun x hx => h.lt _ (hA x hx)
  rw [h2] at hc
  exact hc.mono fun e w' hq => TurnP.of h h2 h3 h4 (turn_ok h.ok h.now true from_ ha.small ha.wf) hq
end
end Go.Proofs.Ytahdiiaadjdmcaa
