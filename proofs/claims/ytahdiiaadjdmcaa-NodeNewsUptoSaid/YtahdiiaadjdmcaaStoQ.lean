/-
  A store as a thing of its own: its rows, its mark, what a rollback will undo.
-/
import Derived.Test.YtahdiiaadjdmcaaGbL
namespace Go.Proofs.Ytahdiiaadjdmcaa
open Go.RowKit

/-- what a store is, seen from outside -/
structure SAbs where
  width : Nat
  most : Nat
  gs : List (List Nat)
  rows : List (List V)
  old : Option (List (List V))
def isPut : Und → Bool
  | .put .. => true
  | .drop .. => false
/-- was a Put the last thing? -/
def lastGo (b : Bool) (U : List Und) : Bool := U.foldl (fun _ z => isPut z) b
def lastP (U : List Und) : Bool := lastGo false U
/-- how often a row of Puts begins -/
def runsGo : Bool → List Und → Nat
  | _, [] => 0
  | b, z :: l => (if isPut z && !b then 1 else 0) + runsGo (isPut z) l
def runs (U : List Und) : Nat := runsGo false U
theorem runsGo_snoc (z : Und) : ∀ (b : Bool) (U : List Und), runsGo b (U ++ [z]) = runsGo b U + (if isPut z && !lastGo b U then 1 else 0)
  | b, [] => by simp [runsGo, lastGo]
  | b, y :: U => by
    show (if isPut y && !b then 1 else 0) + runsGo (isPut y) (U ++ [z]) = ((if isPut y && !b then 1 else 0) + runsGo (isPut y) U) + (if isPut z && !lastGo (isPut y) U then 1 else 0)
    rw [runsGo_snoc z (isPut y) U, Nat.add_assoc]
theorem runs_snoc (U : List Und) (z : Und) : runs (U ++ [z]) = runs U + (if isPut z && !lastP U then 1 else 0) := runsGo_snoc z false U
theorem lastP_snoc (U : List Und) (z : Und) : lastP (U ++ [z]) = isPut z := by simp [lastP, lastGo]
/-- what a row of Puts wants to be undone -/
def rsv (U : List Und) : Nat := runs U + if lastP U then 0 else 1
theorem rsv_put (U : List Und) {z : Und} (hz : isPut z = true) : rsv (U ++ [z]) = rsv U := by
  unfold rsv
  rw [runs_snoc, lastP_snoc, hz]
  cases lastP U <;> simp
theorem runs_put (U : List Und) {z : Und} (hz : isPut z = true) : runs (U ++ [z]) = rsv U := by
  unfold rsv
  rw [runs_snoc, hz]
  cases lastP U <;> simp
theorem runs_drop (U : List Und) {z : Und} (hz : isPut z = false) : runs (U ++ [z]) = runs U := by rw [runs_snoc, hz]; rfl
theorem runs_rsv (U : List Und) : runs U ≤ rsv U ∧ rsv U ≤ runs U + 1 := by unfold rsv; split <;> omega
theorem runs_le (U : List Und) (z : Und) : runs U ≤ runs (U ++ [z]) := by rw [runs_snoc]; omega
/-- the work of N calls may take a slot so often -/
def gN (N : Nat) : Nat := N / 262144
theorem gN_mono {N M : Nat} (h : N ≤ M) : gN N ≤ gN M := Nat.div_le_div_right h
theorem gN_add (N : Nat) {m : Nat} (h : 262144 ≤ m) : gN N + 1 ≤ gN (N + m) := by unfold gN; omega
theorem gN_le {N : Nat} (h : N ≤ 8796093022208) : gN N ≤ 33554432 := by unfold gN; omega
/-- rows that a store may hold -/
def RowsOk (wd most : Nat) (P : List SRow) : Prop := (∀ p ∈ P, fitsR wd p.2 = true ∧ smallR p.2 ∧ wfR p.2) ∧ (P.map (·.2)).Nodup ∧ P.length ≤ most
/-- how the rows and the slots came from those at the mark -/
inductive Hist (G : List SRow → Prop) (gs : List (List Nat)) (P0 : List SRow) (F0 : List Nat) : List Und → List SRow → List Nat → Prop
  | nil : Hist G gs P0 F0 [] P0 F0
  | put {U : List Und} {P : List SRow} {F : List Nat} {s : Nat} {r : List V} {A : Option Addr} {n c : Nat} : Hist G gs P0 F0 U P (s :: F) → Hist G gs P0 F0 (U ++ [.put r A n c]) (P ++ [(s, r)]) F
  | drop {U : List Und} {P1 P2 : List SRow} {F : List Nat} {s : Nat} {r : List V} {A : Option Addr} {n c : Nat} {H : Option Addr} {m d : Nat} : G (P1 ++ (s, r) :: P2) → Hist G gs P0 F0 U (P1 ++ (s, r) :: P2) F → Hist G gs P0 F0 (U ++ [.drop r A n c (aheads gs r P2) H m d]) (P1 ++ P2) (s :: F)
theorem Hist.nil_inv {G : List SRow → Prop} {gs : List (List Nat)} {P0 P : List SRow} {F0 F : List Nat} {U : List Und} (h : Hist G gs P0 F0 U P F) (hU : U = []) : P = P0 ∧ F = F0 := by
  cases h with
  | nil => exact ⟨rfl, rfl⟩
  | put h => simp at hU
  | drop _ h => simp at hU
theorem Hist.put_inv {G : List SRow → Prop} {gs : List (List Nat)} {P0 P : List SRow} {F0 F : List Nat} {U0 U : List Und} {r : List V} {A : Option Addr} {n c : Nat} (h : Hist G gs P0 F0 U0 P F) (hU : U0 = U ++ [.put r A n c]) : ∃ P' s, P = P' ++ [(s, r)] ∧ Hist G gs P0 F0 U P' (s :: F) := by
  cases h with
  | nil => simp at hU
  | put h =>
    obtain ⟨e1, e2⟩ := List.append_inj' hU rfl
    subst e1
    injection e2 with e2
    injection e2 with e2 e3 e4 e5
    subst e2
    exact ⟨_, _, rfl, h⟩
  | drop hg h =>
    obtain ⟨e1, e2⟩ := List.append_inj' hU rfl
    injection e2 with e2
    cases e2
theorem Hist.drop_inv {G : List SRow → Prop} {gs : List (List Nat)} {P0 P : List SRow} {F0 F : List Nat} {U0 U : List Und} {r : List V} {A : Option Addr} {n c : Nat} {ah : List Int} {H : Option Addr} {m d : Nat} (h : Hist G gs P0 F0 U0 P F) (hU : U0 = U ++ [.drop r A n c ah H m d]) : ∃ P1 P2 s F', P = P1 ++ P2 ∧ F = s :: F' ∧ ah = aheads gs r P2 ∧ G (P1 ++ (s, r) :: P2) ∧ Hist G gs P0 F0 U (P1 ++ (s, r) :: P2) F' := by
  cases h with
  | nil => simp at hU
  | put h =>
    obtain ⟨e1, e2⟩ := List.append_inj' hU rfl
    injection e2 with e2
    cases e2
  | drop hg h =>
    obtain ⟨e1, e2⟩ := List.append_inj' hU rfl
    subst e1
    injection e2 with e2
    injection e2 with e2 e3 e4 e5 e6 e7 e8 e9
    subst e2
    exact ⟨_, _, _, _, rfl, rfl, e6.symm, hg, h⟩
/-- the work of N calls is bounded -/
def kBound (N : Nat) : Nat := N * 262144
theorem kBound_add (N : Nat) {m : Nat} (h : 1 ≤ m) : kBound N + 262144 ≤ kBound (N + m) := by unfold kBound; omega
theorem kBound_le {N : Nat} (h : N ≤ 8796093022208) : kBound N ≤ 2305843009213693952 := by unfold kBound; omega
/-- all that is known of a store's parts between calls; N calls were made -/
structure StOk (v : StV) (D : Nat → List (List V × Nat)) (N : Nat) (P0 : List SRow) (F0 : List Nat) : Prop where
  row : StRow v
  lan : StLan v.L v.gs v.G v.cont v.sL v.lL v.lrefs D (fun _ => v.P)
  gen : StGen v.sl v.sL (gN N - runs v.U)
  pu : runs v.U ≤ gN N
  K : v.K + 64 * v.U.length ≤ kBound N
  ul : v.U.length ≤ N
  hist : Hist (RowsOk v.width v.most) v.gs P0 F0 v.U v.P (fsOf v.most v.sl v.fr)
  idle : v.marked = false → v.U = [] ∧ v.un = [] ∧ v.uA = none ∧ v.uC = 0
structure SEq (S : SAbs) (x : Nat) (v : StV) (P0 : List SRow) : Prop where
  x : v.x = x
  width : S.width = v.width
  most : S.most = v.most
  gs : S.gs = v.gs
  rows : S.rows = v.P.map (·.2)
  mark : v.marked = S.old.isSome
  old : ∀ o, S.old = some o → o = P0.map (·.2)
/-- a store in the blocks B -/
def StI (w : World) (B : Nat → Prop) (x : Nat) (S : SAbs) (N : Nat) : Prop :=
  ∃ lab v D P0 F0, StM w lab v ∧ (∀ b, lab.dom b → B b) ∧ SEq S x v P0 ∧ StOk v D N P0 F0
/-- what a call leaves of it -/
def StS (w : World) (B : Nat → Prop) (x : Nat) (S : SAbs) (N : Nat) (w' : World) : Prop :=
  ∃ B', StI w' B' x S N ∧ (∀ b, B' b → B b ∨ w.heap.size ≤ b) ∧ (∀ b, B' b → b < w'.heap.size) ∧ Chg B w w'
theorem StOk.at_ {v : StV} {D : Nat → List (List V × Nat)} {N : Nat} {P0 : List SRow} {F0 : List Nat} (h : StOk v D N P0 F0) : StAt v D (gN N) :=
  ⟨h.row, h.lan, ⟨fun i => Nat.le_trans (h.gen.s i) (Nat.sub_le _ _), fun i => Nat.le_trans (h.gen.L i) (Nat.sub_le _ _)⟩⟩
theorem StI.ext {w w' : World} {B : Nat → Prop} {x : Nat} {S : SAbs} {N : Nat} (h : StI w B x S N) (hw : Ext w w') : StI w' B x S N := by
  obtain ⟨lab, v, D, P0, F0, h1, h2⟩ := h
  exact ⟨lab, v, D, P0, F0, h1.ext hw, h2⟩
theorem StI.chg {w w' : World} {B C : Nat → Prop} {x : Nat} {S : SAbs} {N : Nat} (h : StI w B x S N) (hw : Chg C w w') (hC : ∀ g, B g → ¬ C g) : StI w' B x S N := by
  obtain ⟨lab, v, D, P0, F0, h1, h2, h3⟩ := h
  exact ⟨lab, v, D, P0, F0, h1.chg hw fun g hg => hC g (h2 g hg), h2, h3⟩
/-- a step of the parts is a step of the store -/
theorem StS.of {w w' : World} {B : Nat → Prop} {x : Nat} {S : SAbs} {N : Nat} {lab : Lab} {v' : StV} {D : Nat → List (List V × Nat)} {P0 : List SRow} {F0 : List Nat} (hB : ∀ b, lab.dom b → B b) (h : StR w lab w' v') (he : SEq S x v' P0) (ho : StOk v' D N P0 F0) : StS w B x S N w' := by
  obtain ⟨lab', h1, h2, h3⟩ := h
  exact ⟨lab'.dom, ⟨lab', v', D, P0, F0, h1, fun b hb => hb, he, ho⟩, fun b hb => (h2 b hb).imp (hB b) id, fun b ⟨i, hi⟩ => h1.lt b i hi, h3.mono fun g hg _ => hB g hg⟩
theorem Fresh.sti {w : World} {lab : Lab} {v : StV} {x width most : Nat} {gs : List (List Nat)} (h : StM w lab v) (hf : Fresh v x width most gs) (hw : width ≤ 30) (hm : 1 ≤ most ∧ most ≤ 65536) (hg : gs.length ≤ 4) (hgs : ∀ g ∈ gs, g.length ≤ 30 ∧ ∀ c ∈ g, c < width) : StI w lab.dom x ⟨width, most, gs, [], none⟩ 262144 := by
  have ha := hf.at_ hw hm hg hgs
  refine ⟨lab, v, _, [], fsOf v.most v.sl v.fr, h, fun _ hb => hb, ⟨hf.x, hf.width.symm, hf.most.symm, hf.gs.symm, by rw [hf.P]; rfl, hf.marked, fun o ho => (by cases ho)⟩, ha.row, ha.lan, ?_, ?_, ?_, ?_, ?_, fun _ => ⟨hf.U, hf.un, hf.uA, hf.uC⟩⟩
  · rw [hf.U]; exact ha.gen
  · rw [hf.U]; exact Nat.zero_le _
  · rw [hf.U, hf.K]; decide
  · rw [hf.U]; exact Nat.zero_le _
  · rw [hf.U, hf.P]; exact .nil
/-- other work was done: all else is the same -/
theorem StOk.tick {v : StV} {D : Nat → List (List V × Nat)} {N : Nat} {P0 : List SRow} {F0 : List Nat} (h : StOk v D N P0 F0) (k m : Nat) (hk : k ≤ 1024) (hm : 1 ≤ m) : StOk (v.tick k) D (N + m) P0 F0 := by
  have hr := h.row
  refine ⟨⟨hr.width, hr.most, hr.gsl, hr.gs, hr.rows, hr.slots, hr.vals, hr.alive, hr.lv, hr.refs, hr.ents, hr.gx⟩, h.lan, ⟨fun i => ?_, fun i => ?_⟩, Nat.le_trans h.pu (gN_mono (Nat.le_add_right _ _)), ?_, ?_, h.hist, h.idle⟩
  · exact Nat.le_trans (h.gen.s i) (by show gN N - runs v.U ≤ gN (N + m) - runs v.U; have := gN_mono (Nat.le_add_right N m); omega)
  · exact Nat.le_trans (h.gen.L i) (by show gN N - runs v.U ≤ gN (N + m) - runs v.U; have := gN_mono (Nat.le_add_right N m); omega)
  · have h1 := h.K; have h2 := kBound_add N hm; show v.K + k + 64 * v.U.length ≤ kBound (N + m); omega
  · exact Nat.le_trans h.ul (Nat.le_add_right _ _)
/-- a store in the blocks B in which a row of Puts has begun -/
def StP (w : World) (B : Nat → Prop) (x : Nat) (S : SAbs) (N : Nat) : Prop :=
  ∃ lab v D P0 F0 Y, StM w lab v ∧ (∀ b, lab.dom b → B b) ∧ SEq S x v P0 ∧ StOk v D N P0 F0 ∧ StGen v.sl v.sL Y ∧ Y + rsv v.U ≤ gN N
def StPS (w : World) (B : Nat → Prop) (x : Nat) (S : SAbs) (N : Nat) (w' : World) : Prop :=
  ∃ B', StP w' B' x S N ∧ (∀ b, B' b → B b ∨ w.heap.size ≤ b) ∧ (∀ b, B' b → b < w'.heap.size) ∧ Chg B w w'
theorem StP.sti {w : World} {B : Nat → Prop} {x : Nat} {S : SAbs} {N : Nat} (h : StP w B x S N) : StI w B x S N := by
  obtain ⟨lab, v, D, P0, F0, Y, h1, h2, h3, h4, h5⟩ := h
  exact ⟨lab, v, D, P0, F0, h1, h2, h3, h4⟩
theorem StPS.sts {w w' : World} {B : Nat → Prop} {x : Nat} {S : SAbs} {N : Nat} (h : StPS w B x S N w') : StS w B x S N w' := by
  obtain ⟨B', h1, h2⟩ := h
  exact ⟨B', h1.sti, h2⟩
theorem StPS.of {w w' : World} {B : Nat → Prop} {x : Nat} {S : SAbs} {N Y : Nat} {lab : Lab} {v' : StV} {D : Nat → List (List V × Nat)} {P0 : List SRow} {F0 : List Nat} (hB : ∀ b, lab.dom b → B b) (h : StR w lab w' v') (he : SEq S x v' P0) (ho : StOk v' D N P0 F0) (hy : StGen v'.sl v'.sL Y ∧ Y + rsv v'.U ≤ gN N) : StPS w B x S N w' := by
  obtain ⟨lab', h1, h2, h3⟩ := h
  exact ⟨lab'.dom, ⟨lab', v', D, P0, F0, Y, h1, fun b hb => hb, he, ho, hy⟩, fun b hb => (h2 b hb).imp (hB b) id, fun b ⟨i, hi⟩ => h1.lt b i hi, h3.mono fun g hg _ => hB g hg⟩
theorem StP.ext {w w' : World} {B : Nat → Prop} {x : Nat} {S : SAbs} {N : Nat} (h : StP w B x S N) (hw : Ext w w') : StP w' B x S N := by
  obtain ⟨lab, v, D, P0, F0, Y, h1, h2⟩ := h
  exact ⟨lab, v, D, P0, F0, Y, h1.ext hw, h2⟩
theorem StP.chg {w w' : World} {B C : Nat → Prop} {x : Nat} {S : SAbs} {N : Nat} (h : StP w B x S N) (hw : Chg C w w') (hC : ∀ g, B g → ¬ C g) : StP w' B x S N := by
  obtain ⟨lab, v, D, P0, F0, Y, h1, h2, h3⟩ := h
  exact ⟨lab, v, D, P0, F0, Y, h1.chg hw fun g hg => hC g (h2 g hg), h2, h3⟩
/-- a row of Puts begins -/
theorem StI.stp {w : World} {B : Nat → Prop} {x : Nat} {S : SAbs} {N : Nat} (h : StI w B x S N) : StP w B x S (N + 262144) := by
  obtain ⟨lab, v, D, P0, F0, h1, h2, h3, h4⟩ := h
  have h5 := h4.tick 0 262144 (by omega) (by omega)
  refine ⟨lab, v.tick 0, D, P0, F0, gN N - runs v.U, h1.tick 0, h2, ?_, h5, h4.gen, ?_⟩
  · exact ⟨h3.x, h3.width, h3.most, h3.gs, h3.rows, h3.mark, h3.old⟩
  · show gN N - runs v.U + rsv v.U ≤ gN (N + 262144)
    have h6 := gN_add N (Nat.le_refl 262144)
    have h7 := h4.pu
    have h8 := runs_rsv v.U
    omega
theorem SEq.tick {S : SAbs} {x : Nat} {v : StV} {P0 : List SRow} (h : SEq S x v P0) (k : Nat) : SEq S x (v.tick k) P0 := ⟨h.x, h.width, h.most, h.gs, h.rows, h.mark, h.old⟩
/-- what a row's slot says -/
theorem SlotAt.spec {v : StV} (hr : StRow v) {r : List V} (hwf : wfR r) {o : Option Int} (h : SlotAt v r o) : (∀ z, o = some z → ∃ s : Nat, z = s ∧ (s, r) ∈ v.P) ∧ (o = none → r ∉ v.P.map (·.2)) := by
  unfold SlotAt at h
  split at h
  · rename_i hf
    have hval : ∀ p ∈ v.P, validR p.2 = true ∧ wfR p.2 := fun p hp => by
      have h1 := hr.rows p hp
      have h2 := h1.1
      unfold fitsR at h2
      rw [Bool.and_eq_true] at h2
      exact ⟨h2.2, h1.2.2⟩
    unfold fitsR at hf
    rw [Bool.and_eq_true] at hf
    refine ⟨fun z hz => ?_, fun hn hm => ?_⟩
    · obtain ⟨p, hp, e⟩ := List.mem_map.1 (hr.ents.mem_iff.1 (h.1 z hz))
      injection e with e1 e2
      have h1 := hval p hp
      obtain rfl := pk_inj h1.1 h1.2 hf.2 hwf e1
      exact ⟨p.1, e2.symm, hp⟩
    · obtain ⟨p, hp, rfl⟩ := List.mem_map.1 hm
      exact h.2 hn _ (hr.ents.mem_iff.2 (List.mem_map.2 ⟨p, hp, rfl⟩))
  · rename_i hf
    subst h
    refine ⟨fun z hz => (by cases hz), fun _ hm => ?_⟩
    obtain ⟨p, hp, rfl⟩ := List.mem_map.1 hm
    exact hf (hr.rows p hp).1
/-- blocks that come to the rows and the undo closures -/
theorem StM.adopt {w : World} {lab : Lab} {v : StV} (h : StM w lab v) {C : Nat → Prop} (hC : ∀ b, C b → b < w.heap.size ∧ ¬ lab.dom b) : StM w (lab.with_ 8 C) v := by
  have hlt : ∀ b i, lab.with_ 8 C b = some i → b < w.heap.size := fun b i hb => (Lab.with_dom ⟨i, hb⟩).elim (fun h1 => (hC b h1).1) fun ⟨k, hk⟩ => h.lt b k hk
  exact ⟨hlt, fun i => part_mono (fun b hb => Lab.with_old (fun b hb => (hC b hb).2) hb) (fun b hb => hlt b _ hb) i (h.part i)⟩
/-- one closure more -/
theorem StM.push {w w8 : World} {lab : Lab} {v : StV} (h : StM w lab v) {u : Value} {z : Und} (hz : UndAt w (lab.own 8) v.x u z) {A8 : Option Addr} {c8 : Nat} (own8 : OwnH w8 (fun b => lab.own 0 b ∨ b = w.heap.size) 1 1 (v.un.length + 1) (.slice A8 (v.un.length + 1) c8) (v.un ++ [u])) (G8 : w.grownBy w8 (Value.slice v.uA v.un.length v.uC).ownBlock) (C8 : Chg (lab.own 0) w w8) :
    StR w lab (w8.setCell ⟨v.x, 12, none⟩ (.slice A8 (v.un.length + 1) c8)) { v with uA := A8, uC := c8, un := v.un ++ [u], U := v.U ++ [z] } := by
  obtain ⟨hx, hxB, hgr, hun⟩ := h.part 0
  have hC : Chg (lab.own 0) w (w8.setCell ⟨v.x, 12, none⟩ (.slice A8 (v.un.length + 1) c8)) := C8.setCell (p := ⟨v.x, 12, none⟩) (.inl hxB) _
  have hx8 := hx.grown G8 (own_ne_blk hun.own hx (by decide))
  have hne : ∀ b, lab.own 8 b → ¬ lab.own 0 b := fun b h1 h2 => by
    have h6 : some 8 = some 0 := h1.symm.trans h2
    injection h6 with h6
    omega
  have o9 := own8.far hx8 (by decide) 12 (.slice A8 (v.un.length + 1) c8)
  refine h.chg1 0 (B' := fun b => (lab.own 0 b ∨ b = w.heap.size) ∧ b < (w8.setCell ⟨v.x, 12, none⟩ (.slice A8 (v.un.length + 1) c8)).heap.size) (fun b hb => hb.1.imp id fun e => by omega) (fun b hb => hb.2) hC (fun i hi => ?_) ?_
  · match i, hi with
    | 0, hi => exact absurd rfl hi
    | 1, _ => exact id
    | 2, _ => exact id
    | 3, _ => exact id
    | 4, _ => exact id
    | 5, _ => exact id
    | 6, _ => exact id
    | 7, _ => exact id
    | 8, _ =>
      rintro ⟨h1, h2, h3⟩
      refine ⟨h1, by simp [h2], fun i u' z' hu hz' => ?_⟩
      have h2' : v.U.length = v.un.length := h2
      rcases Nat.lt_or_ge i v.un.length with hi | hi
      · have hu' : (v.un ++ [u])[i]? = some u' := hu
        have hz2 : (v.U ++ [z])[i]? = some z' := hz'
        rw [List.getElem?_append_left hi] at hu'
        rw [List.getElem?_append_left (by omega)] at hz2
        exact h3 i u' z' hu' hz2
      · have hu' : (v.un ++ [u])[i]? = some u' := hu
        have hz2 : (v.U ++ [z])[i]? = some z' := hz'
        rw [List.getElem?_append_right hi] at hu'
        rw [List.getElem?_append_right (by omega)] at hz2
        have hi0 : i - v.un.length = 0 := by
          have := (List.getElem?_eq_some_iff.1 hu').1
          simp at this; omega
        rw [hi0] at hu'
        rw [h2', hi0] at hz2
        obtain rfl : u = u' := by simpa using hu'
        obtain rfl : z = z' := by simpa using hz2
        exact hz.chg hC hne
    | 9, _ => exact id
    | m + 10, _ => exact id
  · refine ⟨?_, ⟨.inl hxB, Blk.lt (hx8.set_ 12 _)⟩, ?_, ?_⟩
    · have h9 := hx8.set_ 12 (.slice A8 (v.un.length + 1) c8)
      have e : v.cells.setIfInBounds 12 (.slice A8 (v.un.length + 1) c8) = ({ v with uA := A8, uC := c8, un := v.un ++ [u], U := v.U ++ [z] } : StV).cells := by
        simp only [StV.cells, StV.L, List.length_append, List.length_singleton]
        rfl
      rw [e] at h9
      exact h9
    · have hg8 := ((hgr.grown hun.own (by decide) G8).far hx8 (by decide) 12 (.slice A8 (v.un.length + 1) c8))
      exact ⟨hg8.own, fun g hg => ⟨.inl (hgr.inB g hg), hg8.lt g hg⟩⟩
    · have o10 : OwnH (w8.setCell ⟨v.x, 12, none⟩ (.slice A8 (v.un.length + 1) c8)) (fun b => (lab.own 0 b ∨ b = w.heap.size) ∧ b < (w8.setCell ⟨v.x, 12, none⟩ (.slice A8 (v.un.length + 1) c8)).heap.size) 1 1 (v.un ++ [u]).length (.slice A8 (v.un ++ [u]).length c8) (v.un ++ [u]) := by
        rw [List.length_append, List.length_singleton]
        exact ⟨o9.own, fun g hg => ⟨o9.inB g hg, o9.lt g hg⟩⟩
      exact o10
end Go.Proofs.Ytahdiiaadjdmcaa
