/-
  node: a trim's turns, off; what leans on a row.
  node: a meet's turn of all rows of a side's row.
-/
import Derived.Test.YtahdiiaadjdmcaaNgC
namespace Go.Proofs.Ytahdiiaadjdmcaa
open Go.RowKit Classical
section
variable {w : World} {lab : Lab} {K : NK} {v : NdV} {a : NAbs} {N : Nat}
end
end Go.Proofs.Ytahdiiaadjdmcaa

namespace Go.Proofs.Ytahdiiaadjdmcaa
open Go.RowKit

theorem workC_meet {K : NK} (hk : K.kind = 3) (v : NdV) : workS K = 67 ∧ workC K v = #[ptr v.l, ptr v.x2, ptr v.x3] := by
  unfold workS workC
  rw [if_neg (by omega), if_pos hk, if_neg (by omega), if_pos hk]
  exact ⟨rfl, rfl⟩
theorem NdR.meet {w : World} {lab : Lab} {K : NK} {v : NdV} {a : NAbs} {N : Nat} (h : NdR w lab K v a N) (hk : K.kind = 3) : w.cell? ⟨v.k, 0, none⟩ = some (.pointer (some ⟨v.l, 0, none⟩)) ∧ w.cell? ⟨v.k, 1, none⟩ = some (.pointer (some ⟨v.x2, 0, none⟩)) ∧ w.cell? ⟨v.k, 2, none⟩ = some (.pointer (some ⟨v.x3, 0, none⟩)) := by
  have hb := h.wk
  rw [(workC_meet hk v).2] at hb
  exact ⟨hb.cell 0, hb.cell 1, hb.cell 2⟩
/-- a live rows' store in whatever state, beside the rest -/
structure LiveG (G : World → (Nat → Prop) → Prop) : Prop where
  chg : ∀ w w' B C, G w B → Chg C w w' → (∀ g, B g → ¬ C g) → G w' B
  mono : ∀ w B C, G w B → (∀ g, B g → C g) → G w C
/-- a call of the live rows' store beside the rest -/
theorem NdR.liveG {w w' : World} {lab : Lab} {K : NK} {v : NdV} {a : NAbs} {N : Nat} {G : World → (Nat → Prop) → Prop} (hG : LiveG G) (h : NdR w lab K v a N) {B' : Nat → Prop} (h1 : G w' B') (h2 : ∀ b, B' b → lab.own 1 b ∨ w.heap.size ≤ b) (h3 : ∀ b, B' b → b < w'.heap.size) (h4 : Chg (lab.own 1) w w') : ∃ lab', NdR w' lab' K v a N ∧ G w' (lab'.own 1) ∧ Step w lab w' lab' := by
  obtain ⟨lab', r1, r2, r3, r4, r5⟩ := h.turn 1 (v' := v) (a' := a) (N' := N) h2 h3 h4 (fun i hi hp => hp) trivial
  exact ⟨lab', r1, hG.mono _ _ _ h1 r2, r5⟩
/-- a call of the source's store that tells rows from T on -/
theorem NdR.groupM {w w' : World} {lab : Lab} {K : NK} {v : NdV} {a : NAbs} {N M T : Nat} {G : World → (Nat → Prop) → Prop} (hG : LiveG G) (h : NdR w lab K v a N) (hg : G w (lab.own 1)) (hM : N ≤ M) (hs : StSM w (lab.own 2) v.x2 (S2 K a) M w' T) : ∃ lab', NdR w' lab' K v a M ∧ G w' (lab'.own 1) ∧ Step w lab w' lab' ∧ (∀ b, lab'.dom b → b < T) ∧ w.heap.size ≤ T ∧ T ≤ w'.heap.size := by
  obtain ⟨B', h1, h2, h3', h4, h5, h6⟩ := hs
  obtain ⟨lab', r1, r2, r3, r4, r5⟩ := h.turn 2 (v' := v) (a' := a) (N' := M) h2 (fun b hb => by have := h3' b hb; omega) h4 (fun i hi hp => npart_mono (fun _ h => h) hM i hp) (fun _ => h1)
  exact ⟨lab', r1, by rw [r3 1 (by decide)]; exact hG.chg _ _ _ _ hg h4 (own_apart (by decide)), r5, fun b hb => (r4 b hb).elim (fun ⟨i, hi⟩ => by have := h.lt b i hi; omega) (h3' b), h5, h6⟩
theorem infoRw2 : (Try.prog.info? 62).map (fun i => (i.zero, i.size, i.bytes)) = some (some (.slice none 0 0), 1, 24) := by kernel_rfl
/-- rows that were told, cell by cell -/
theorem ToldA.cells {w : World} {P : Nat → Prop} {A : Option Addr} {n c : Nat} {rows : List (List V)} (h : ToldA w P A n c rows) : ∃ cells : List Value, cells.length = n ∧ OwnH w P 62 1 n (.slice A n c) cells ∧ Apart cells ∧ ∀ (i : Nat) (r : List V), rows[i]? = some r → ∃ Ai ci, cells[i]? = some (.slice Ai r.length ci) ∧ OwnH w P 59 3 r.length (.slice Ai r.length ci) (cellsR r) := by
  obtain ⟨h1, cells, h2, h3, h4⟩ := h
  refine ⟨cells, by have := h2.own.1; omega, h2, h4, fun i r hr => ?_⟩
  obtain ⟨cs, e1, -, ⟨Ai, ni, ci, e2, ho⟩, e4⟩ := h3.get hr
  have hn : ni = r.length := by have := ho.own.1; rw [cellsR_len] at this; omega
  subst hn
  refine ⟨Ai, ci, ?_, ho⟩
  have := e4 0 (by decide)
  rw [e2] at this
  simpa using this
/-- what the loop has gathered: the first i rows flipped (their memory is the group's), the first i rows touched -/
structure MtI (w0 wr : World) (D : Nat → Prop) (Pg : Nat → Prop) (ob rb i : Nat) (L : List (List V)) (cells : List Value) : Prop where
  out : ∃ AF cF AT cT PF PT cT2, Blk wr ob 53 #[.slice AF i cF, .slice AT i cT] ∧ OwnH wr PF 62 1 i (.slice AF i cF) (cells.take i) ∧
    OwnH wr PT 62 1 i (.slice AT i cT) cT2 ∧ Els (fun w cs r => ∃ A n c, cs = [.slice A n c] ∧ OwnH w PT 59 3 n (.slice A n c) (cellsR r)) 1 wr cT2 (L.take i) ∧ Apart cT2 ∧
    (∀ b, PF b → ¬ PT b) ∧ (∀ b, PF b ∨ PT b → w0.heap.size ≤ b ∧ b < wr.heap.size ∧ ¬ D b ∧ ¬ Pg b ∧ b ≠ ob ∧ b ≠ rb)
end Go.Proofs.Ytahdiiaadjdmcaa
