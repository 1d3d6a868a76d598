/-
  store: slices.Backward; Rollback.
  store: Rollback.
  store: Rollback's walk.
-/
import Derived.Test.YtahdiiaadjdmcaaGbB
import Derived.Test.YtahdiiaadjdmcaaGaD
import Derived.TacticsInMore
import Derived.OwnWalkIn
import Derived.Test.YtahdiiaadjdmcaaGbN
namespace Go.Proofs.Ytahdiiaadjdmcaa
open Go.RowKit

def rollS (S : SAbs) : SAbs × Int := match S.old with
  | none => (S, 65)
  | some o => ({ S with rows := o, old := none }, 0)
/-- one round of a range that hands over two values -/
theorem range_round2 {F : Fence} {n l : Nat} {P : Program} {r : Loop} {W : World} {x y : Value} {R : Ending → World → Prop} (hl : W.heap[l]? = some (.loop r)) (hr : r.state = .ready) (hp : r.pending = none) (hps : r.params.size = 2) (hF : F.fn r.fn)
    (h : r.assign.wpIn (F.inRound l) n P (Exit.then (fun a₁ w₁ => w₁.heap[l]? = some (.loop r) ∧ r.body.wpIn (F.inRound l) n P (roundQ l r R) a₁ (w₁.putObj l (.loop { r with state := .busy }))) (fun _ _ _ => False))
      { tmps := (r.params.zip #[x, y]).foldl (fun tmps (t, a) => tmps.setIfInBounds t a) r.tmps, defers := [] } W) :
    ∃ fn tmps assign body, (Instr.yield l #[x, y]).run P W = .ok (.round l fn tmps assign body) W ∧ RoundIn F n P l fn tmps assign body W R := by
  have hrr : ({ r with state := .ready, pending := none } : Loop) = r := by
    obtain ⟨a, b⟩ := r
    simp only at hr hp
    subst hr hp
    rfl
  refine ⟨r.fn, _, r.assign, r.body, run_yield hl (by simp [hps]), roundIn_of_wpIn hF (wpIn_mono h ?_)⟩
  intro e a₁ w₁ hq
  cases e with
  | normal =>
    obtain ⟨hl1, hb⟩ := hq
    refine ⟨_, run_beginRound hl1 hr, wpIn_mono hb ?_⟩
    intro e a₂ w₂ hq
    cases e with
    | normal => exact ⟨_, _, run_endRound none hq.1, by simpa [hrr] using hq.2⟩
    | ret => exact ⟨_, _, run_endRound (some .ret) hq.1, hq.2⟩
    | exit id => exact ⟨_, _, run_endRound (some (.exit id)) hq.1, hq.2⟩
    | goto t => exact hq.elim
    | panic c => exact hq.elim
    | outgrown => exact hq.elim
  | ret => exact hq.elim
  | exit id => exact hq.elim
  | goto t => exact hq.elim
  | panic c => exact hq.elim
  | outgrown => exact hq.elim
end Go.Proofs.Ytahdiiaadjdmcaa

namespace Go.Proofs.Ytahdiiaadjdmcaa
open Go.RowKit

theorem take_snoc {U : List Und} {j : Nat} {z : Und} (h : U[j]? = some z) : U.take (j + 1) = U.take j ++ [z] := by rw [List.take_add_one, h]; rfl
/-- what stood there and is none of the store's is as it was -/
def SameB (W0 : World) (lab : Lab) (W w' : World) : Prop := ∀ g, g < W0.heap.size → ¬ lab.dom g → w'.heap[g]? = W.heap[g]?
theorem runs_take (U : List Und) : ∀ j, runs (U.take j) ≤ runs (U.take (j + 1))
  | j => by
    rw [List.take_add_one]
    cases h : U[j]? with
    | none => simp
    | some z => exact runs_le _ _
theorem runs_take_le (U : List Und) (j : Nat) : runs (U.take j) ≤ runs U := by
  have h : ∀ k, runs (U.take j) ≤ runs (U.take (j + k)) := fun k => by
    induction k with
    | zero => exact Nat.le_refl _
    | succ k ih => exact Nat.le_trans ih (runs_take U (j + k))
  rcases Nat.lt_or_ge j U.length with hl | hl
  · have := h (U.length - j)
    rw [show j + (U.length - j) = U.length by omega, List.take_length] at this
    exact this
  · rw [List.take_of_length_le hl]; exact Nat.le_refl _
/-- the slots' generations when a rollback has come down to j: within a row of Puts they may all be at their bound -/
def RbG (U : List Und) (g j : Nat) (v' : StV) : Prop :=
  (∀ i, genA v'.sl i + (if lastP (U.take j) then 0 else if (thg v'.sl i).isSome then 0 else 1) ≤ g - runs (U.take j)) ∧
  (∀ i, genA v'.sL i + (if lastP (U.take j) then 0 else if (thg v'.sL i).isSome then 0 else 1) ≤ g - runs (U.take j))
/-- a rollback that has come down to j -/
structure RbI (W0 : World) (lab : Lab) (v : StV) (N : Nat) (P0 : List SRow) (F0 : List Nat) (l : Nat) (j : Nat) (w' : World) (lab' : Lab) (v' : StV) (D' : Nat → List (List V × Nat)) : Prop where
  m : StM w' lab' v'
  dm : ∀ b, lab'.dom b → lab.dom b ∨ W0.heap.size ≤ b
  ch : Chg (fun g => lab.dom g ∨ g = l) W0 w'
  kept : Kept v v'
  row : StRow v'
  lan : StLan v'.L v'.gs v'.G v'.cont v'.sL v'.lL v'.lrefs D' (fun _ => v'.P)
  gen : RbG v.U (gN N) j v'
  K : v'.K + 64 * j ≤ kBound N
  hist : Hist (RowsOk v.width v.most) v.gs P0 F0 (v.U.take j) v'.P (fsOf v'.most v'.sl v'.fr)
def Rb (W0 : World) (lab : Lab) (v : StV) (N : Nat) (P0 : List SRow) (F0 : List Nat) (l : Nat) (j : Nat) (w' : World) : Prop := ∃ lab' v' D', RbI W0 lab v N P0 F0 l j w' lab' v' D'
theorem RbI.on {W0 : World} {lab : Lab} {v : StV} {N j l : Nat} {P0 : List SRow} {F0 : List Nat} {W w' : World} {lab' lab2 : Lab} {v' : StV} {D' : Nat → List (List V × Nat)} (h : RbI W0 lab v N P0 F0 l j W lab' v' D') (d2 : ∀ b, lab2.dom b → lab'.dom b ∨ W.heap.size ≤ b) (c2 : Chg lab'.dom W w') : (∀ b, lab2.dom b → lab.dom b ∨ W0.heap.size ≤ b) ∧ Chg (fun g => lab.dom g ∨ g = l) W0 w' :=
  ⟨fun b hb => (d2 b hb).elim (h.dm b) fun h9 => .inr (Nat.le_trans h.ch.size h9), h.ch.trans c2 fun g hg hl => .inl ((h.dm g hg).resolve_right (by omega))⟩
theorem Rb.same {W0 : World} {lab : Lab} {v : StV} {N j l : Nat} {P0 : List SRow} {F0 : List Nat} {W w' : World} {lab' : Lab} {v' v'' : StV} {D' : Nat → List (List V × Nat)} (h : RbI W0 lab v N P0 F0 l j W lab' v' D') (hs : StR W lab' w' v'') : SameB W0 lab W w' := fun g h1 h2 => by
  obtain ⟨lab2, -, -, hc⟩ := hs
  exact hc.block g (Nat.lt_of_lt_of_le h1 h.ch.size) fun hd => (h.dm g hd).elim h2 fun h3 => by omega
theorem rb_put {W0 : World} {lab : Lab} {v : StV} {N j l : Nat} {P0 : List SRow} {F0 : List Nat} {W : World} (h : Rb W0 lab v N P0 F0 l (j + 1) W) (hN : N ≤ 8796093022208) (hpu : runs v.U ≤ gN N) {u : Value} {r : List V} {A : Option Addr} {n c : Nat} (hu : v.un[j]? = some u) (hz : v.U[j]? = some (.put r A n c)) :
    ∃ sb kb, u = .func (.func 78) #[] #[.pointer (some ⟨sb, 0, none⟩), .pointer (some ⟨kb, 0, none⟩)] ∧
      Calls Try.prog 78 #[.pointer (some ⟨sb, 0, none⟩), .pointer (some ⟨kb, 0, none⟩)] W fun e w' => e = .returned (.tuple #[]) ∧ Rb W0 lab v N P0 F0 l j w' ∧ SameB W0 lab W w' := by
  obtain ⟨lab', v', D', hi⟩ := h
  have hu' : v'.un[j]? = some u := by rw [hi.kept.un]; exact hu
  have hz' : v'.U[j]? = some (.put r A n c) := by rw [hi.kept.U]; exact hz
  obtain ⟨sb, kb, rfl, -⟩ := hi.m.und hu' hz'
  have htk := take_snoc hz
  have hp1 : runs (v.U.take (j + 1)) = rsv (v.U.take j) := by rw [htk, runs_put _ rfl]
  have hl1 : lastP (v.U.take (j + 1)) = true := by rw [htk, lastP_snoc]; rfl
  have hp2 := runs_take_le v.U (j + 1)
  have hp3 := runs_rsv (v.U.take j)
  obtain ⟨P', s, hP, hh⟩ := hi.hist.put_inv htk
  have hK := hi.K
  have hk := kBound_le hN
  have hgl := gN_le hN
  have hgen := hi.gen
  unfold RbG at hgen
  rw [hl1, hp1] at hgen
  simp only [if_true, Nat.add_zero] at hgen
  refine ⟨sb, kb, rfl, (undo_put hi.m (N := gN N + 1) (M := gN N - rsv (v.U.take j) + 1) ⟨hi.row, hi.lan, ⟨fun i => by have h9 := hgen.1 i; split <;> omega, fun i => by have h9 := hgen.2 i; split <;> omega⟩⟩ (fun i => by have h9 := hgen.1 i; omega) (fun i => by have h9 := hgen.2 i; omega) (by omega) (by omega) hu' hz' hP).mono ?_⟩
  rintro e w' ⟨rfl, v'', D'', hU, hR, hA⟩
  refine ⟨rfl, ?_, Rb.same hi hR⟩
  obtain ⟨lab2, m2, d2, c2⟩ := hR
  have hKU := hU.K
  rw [show (v'.tick 1).K = v'.K + 1 from rfl] at hKU
  refine ⟨lab2, v'', D'', m2, (hi.on d2 c2).1, (hi.on d2 c2).2, hi.kept.trans (Kept.trans (show Kept v' (v'.tick 1) from ⟨rfl, rfl, rfl, rfl, rfl, rfl, rfl, rfl, rfl⟩) hU.kept), hA.row, hA.lan, ?_, by omega, ?_⟩
  · have hs9 : ∀ i, genA v''.sl i ≤ gN N - rsv (v.U.take j) := fun i => by rw [hU.gs i]; exact hgen.1 i
    have hL9 : ∀ i, genA v''.sL i ≤ gN N - rsv (v.U.take j) := fun i => by rw [hU.gL i]; exact hgen.2 i
    have hrs : rsv (v.U.take j) = runs (v.U.take j) + if lastP (v.U.take j) then 0 else 1 := rfl
    cases hl : lastP (v.U.take j) with
    | true =>
      rw [hl] at hrs
      simp only [if_true, Nat.add_zero] at hrs
      rw [hrs] at hs9 hL9
      exact ⟨fun i => by rw [hl]; exact hs9 i, fun i => by rw [hl]; exact hL9 i⟩
    | false =>
      rw [hl] at hrs
      simp only [Bool.false_eq_true, if_false] at hrs
      exact ⟨fun i => by rw [hl]; have h9 := hs9 i; simp only [Bool.false_eq_true, if_false]; split <;> omega, fun i => by rw [hl]; have h9 := hL9 i; simp only [Bool.false_eq_true, if_false]; split <;> omega⟩
  rw [hU.P, hU.fs]
  exact hh
/-- the rounds of Rollback -/
structure JRb (W0 : World) (lab : Lab) (v : StV) (N : Nat) (P0 : List SRow) (F0 : List Nat) (l D0 gb : Nat) (rec : Loop) (j : Nat) (W : World) : Prop where
  lp : W.heap[l]? = some (.loop rec)
  mark : W.heap[D0]? = some (.deferred (some []))
  box : Blk W gb 89 #[.slice v.uA v.un.length v.uC]
  rb : Rb W0 lab v N P0 F0 l j W
theorem JRb.read {W0 : World} {lab : Lab} {v : StV} {N : Nat} {P0 : List SRow} {F0 : List Nat} {l D0 gb : Nat} {rec : Loop} {j : Nat} {W : World} (h : JRb W0 lab v N P0 F0 l D0 gb rec j W) : W.cell? ⟨gb, 0, none⟩ = some (.slice v.uA v.un.length v.uC) ∧ ∀ (i : Nat) (u : Value), v.un[i]? = some u → ∃ g, v.uA = some ⟨g, 0, none⟩ ∧ W.cell? ⟨g, i, none⟩ = some u := by
  refine ⟨h.box.cell 0, fun i u hu => ?_⟩
  obtain ⟨lab', v', D', hi⟩ := h.rb
  have h1 := (hi.m.part 0).2.2.2
  rw [hi.kept.un, hi.kept.uA, hi.kept.uC] at h1
  have hl := (List.getElem?_eq_some_iff.1 hu).1
  obtain ⟨g, e, -, -, hc, -⟩ := h1.at_ (by omega)
  exact ⟨g, e, hc i u hu⟩
theorem Rb.put {W0 : World} {lab : Lab} {v : StV} {N j l : Nat} {P0 : List SRow} {F0 : List Nat} {W : World} (h : Rb W0 lab v N P0 F0 l j W) {o : Obj} (hl : l < W0.heap.size) (hd : ¬ lab.dom l) : Rb W0 lab v N P0 F0 l j (W.putObj l o) := by
  obtain ⟨lab', v', D', hi⟩ := h
  have hc : Chg (fun g => g = l) W (W.putObj l o) := ⟨rfl, rfl, rfl, by simp, fun k h1 h2 => World.putObj_heap_other fun e => h2 e⟩
  have hn : ∀ g, lab'.dom g → ¬ g = l := fun g hg e => by
    subst e
    exact (hi.dm g hg).elim hd fun h => by omega
  exact ⟨lab', v', D', hi.m.chg hc hn, hi.dm, hi.ch.trans hc fun g hg _ => .inr hg, hi.kept, hi.row, hi.lan, hi.gen, hi.K, hi.hist⟩
end Go.Proofs.Ytahdiiaadjdmcaa

namespace Go.Proofs.Ytahdiiaadjdmcaa
open Go.RowKit
attribute [local go_sem] Oper.semAt_some

end Go.Proofs.Ytahdiiaadjdmcaa
