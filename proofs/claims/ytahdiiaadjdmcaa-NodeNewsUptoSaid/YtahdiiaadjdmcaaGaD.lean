/-
  
  Lists of rows: are they the same; a copy of them.
  A range over a function: which blocks turn; its record in memory; one round; rows that are collected.
-/
import Derived.Test.YtahdiiaadjdmcaaGround
import Derived.RangeFuncLeaves
import Derived.RangeFuncRecord
import Derived.RecoverIn
import Derived.ControlIn
import Derived.Shelf.Abstract
namespace Go.Proofs.Ytahdiiaadjdmcaa
open Go.RowKit

theorem toList_iff (a b : ByteArray) : a.toList = b.toList ↔ a = b :=
  ⟨fun h => by
    rw [ByteArray.toList_eq, ByteArray.toList_eq] at h
    obtain ⟨a⟩ := a; obtain ⟨b⟩ := b
    exact congrArg ByteArray.mk (Array.toList_inj.1 h), fun h => by rw [h]⟩

theorem infoV : (Try.prog.info? 59).map (fun i => (i.zero, i.size, i.bytes)) = some (some (.agg #[.int .i64 0, .int .i64 0, .string .empty]), 3, 32) := by kernel_rfl
theorem sizeV : (Try.prog.info? 59).map (·.size) = some 3 := by kernel_rfl

theorem splice_all {L cs : List Value} (h : L.length = cs.length) : splice L 0 cs = cs := by
  simp [splice, h]

end Go.Proofs.Ytahdiiaadjdmcaa

namespace Go.Proofs.Ytahdiiaadjdmcaa
open Go.RowKit

def sameRs : List (List V) → List (List V) → Bool
  | [], [] => true
  | [], _ :: _ => false
  | _ :: _, [] => false
  | a :: l, b :: m => sameR a b && sameRs l m
theorem sameRs_iff : ∀ {r s : List (List V)}, sameRs r s = true ↔ r = s
  | [], [] => by simp [sameRs]
  | [], _ :: _ => by simp [sameRs]
  | _ :: _, [] => by simp [sameRs]
  | a :: r, b :: s => by simp [sameRs, sameR_iff, sameRs_iff]
theorem sameRs_len {r s : List (List V)} (h : r.length ≠ s.length) : sameRs r s = false := by
  cases he : sameRs r s with
  | false => rfl
  | true => exact absurd (congrArg List.length (sameRs_iff.1 he)) h
theorem sameRs_drop (r s : List (List V)) (k : Nat) (a b : List V) (ha : r[k]? = some a) (hb : s[k]? = some b) : sameRs (r.drop k) (s.drop k) = (sameR a b && sameRs (r.drop (k + 1)) (s.drop (k + 1))) := by
  rw [List.getElem?_eq_some_iff] at ha hb
  obtain ⟨ha, ea⟩ := ha
  obtain ⟨hb, eb⟩ := hb
  rw [List.drop_eq_getElem_cons ha, List.drop_eq_getElem_cons hb, ea, eb]; rfl
theorem LAt.row_ {w : World} {A : Option Addr} {n : Nat} {xs : List (List V)} (h : LAt RRow 1 w A n xs) {i : Nat} (hi : i < n) :
    ∃ b off r A9 n9 c9, A = some ⟨b, off, none⟩ ∧ xs[i]? = some r ∧ b < w.heap.size ∧ w.cell? ⟨b, off + i, none⟩ = some (.slice A9 n9 c9) ∧ RowAt w A9 n9 r := by
  obtain ⟨b, off, r, cs, hA, hx, hb1, _, _, ⟨A9, n9, c9, rfl, hR⟩, hcell⟩ := h.get (by omega) hi
  have := hcell 0 (by omega)
  rw [Nat.mul_one, Nat.add_zero] at this
  exact ⟨b, off, r, A9, n9, c9, hA, hx, hb1, this, hR⟩

/-- a row of the call's own -/
def RMine (base : Nat) : World → List Value → List V → Prop := fun w cs r => ∃ A n c, cs = [.slice A n c] ∧ w.ownsRow base 59 3 (.slice A n c) n (cellsR r)
theorem RMine.row {base : Nat} {w : World} {cs : List Value} {r : List V} (h : RMine base w cs r) : RRow w cs r := by
  obtain ⟨A, n, c, h1, h2⟩ := h
  exact ⟨A, n, c, h1, RowAt.own h2⟩
theorem mine_ext {w w' : World} {base : Nat} {e : TypeId} {s n : Nat} {v : Value} {xs : List Value} (h : w.ownsRow base e s v n xs) (hw : Ext w w') : w'.ownsRow base e s v n xs :=
  h.kept (row := none) ⟨Below.os hw, Below.tape hw, Below.output hw, hw.size, fun _ hk _ => hw.block hk⟩ (by cases hv : v.ownBlock <;> simp)
theorem mine_base {w : World} {b b' : Nat} {e : TypeId} {s n : Nat} {v : Value} {xs : List Value} (h : w.ownsRow b' e s v n xs) (hb : b ≤ b') : w.ownsRow b e s v n xs := by
  refine ⟨h.1, ?_⟩
  rcases h.2 with h1 | ⟨g, cap, cur, h1, h2, h3⟩
  · exact .inl h1
  · exact .inr ⟨g, cap, cur, h1, Nat.le_trans hb h2, h3⟩
theorem mine_set {w : World} {base g : Nat} {e t : TypeId} {size n : Nat} {v : Value} {xs : List Value} {cs : Array Value} (h : w.ownsRow base e size v n xs) (hb : Blk w g t cs) (hne : e ≠ t) (j : Nat) (u : Value) : (w.setCell ⟨g, j, none⟩ u).ownsRow base e size v n xs :=
  h.kept (row := some g) ⟨rfl, rfl, rfl, by simp, fun k _ hk => Below.heap_setCell _ _ _ _ (fun e => hk (by rw [e]))⟩ (.inr (Ne.symm (own_ne_blk h hb hne)))
theorem mine_other {w w' : World} {b1 b2 : Nat} {e1 e2 : TypeId} {s1 s2 n1 n2 : Nat} {v1 v2 : Value} {x1 x2 : List Value} (h2 : w.ownsRow b2 e2 s2 v2 n2 x2) (h1 : w.ownsRow b1 e1 s1 v1 n1 x1) (hne : e1 ≠ e2) (hg : w.grownBy w' v1.ownBlock) : w'.ownsRow b2 e2 s2 v2 n2 x2 := by
  refine h2.kept hg ?_
  rcases h1.2 with ⟨rfl, _⟩ | ⟨g1, cap, cur, rfl, _, hh, _⟩
  · cases hk : v2.ownBlock <;> simp [Value.ownBlock]
  · have := own_ne_blk h2 (show Blk w g1 e1 cur from hh) (Ne.symm hne)
    exact .inr (Ne.symm this)
theorem RMine.stab (base : Nat) : Stab (RMine base) := fun _ _ _ _ hw ⟨A, n, c, h1, h2⟩ => ⟨A, n, c, h1, mine_ext h2 hw⟩
theorem RMine.base {b b' : Nat} {w : World} {cs : List Value} {r : List V} (h : RMine b' w cs r) (hb : b ≤ b') : RMine b w cs r := by
  obtain ⟨A, n, c, h1, h2⟩ := h
  exact ⟨A, n, c, h1, mine_base h2 hb⟩
theorem RMine.set_ {b g : Nat} {w : World} {t : TypeId} {ds : Array Value} {cs : List Value} {r : List V} (h : RMine b w cs r) (hb : Blk w g t ds) (hne : 59 ≠ t) (j : Nat) (u : Value) : RMine b (w.setCell ⟨g, j, none⟩ u) cs r := by
  obtain ⟨A, n, c, h1, h2⟩ := h
  exact ⟨A, n, c, h1, mine_set h2 hb hne j u⟩
/-- rows of the call's own are handed back -/
def RetRows (w0 : World) (rows : List (List V)) (en : Ending) (w' : World) : Prop :=
  ∃ A n c cells, en = .returned (.slice A n c) ∧ n = rows.length ∧ w'.ownsRow w0.heap.size 62 1 (.slice A n c) n cells ∧ Els (RMine w0.heap.size) 1 w' cells rows ∧ Ext w0 w'
theorem mine_lat {base : Nat} {w : World} {A : Option Addr} {n c : Nat} {cells : List Value} {rows : List (List V)} (hn : n = rows.length) (ho : w.ownsRow base 62 1 (.slice A n c) n cells) (he : Els (RMine base) 1 w cells rows) : LAt RRow 1 w A n rows :=
  LAt.own hn (he.mono fun _ _ h => h.row) ho
theorem infoRw : (Try.prog.info? 62).map (fun i => (i.zero, i.size, i.bytes)) = some (some (.slice none 0 0), 1, 24) := by kernel_rfl
theorem sizeRw : (Try.prog.info? 62).map (·.size) = some 1 := by kernel_rfl

/-- a block of rows that is being filled from its head on -/
structure CpR (w0 w : World) (g : Nat) (rows : List (List V)) (n i : Nat) : Prop where
  blk : ∃ cs : List Value, cs.length = i ∧ Blk w g 62 (cs ++ List.replicate (n - i) (Value.slice none 0 0)).toArray ∧ Els (RMine w0.heap.size) 1 w cs (rows.take i)
  ext : Ext w0 w
theorem CpR.go {w0 w w' : World} {g n i : Nat} {rows : List (List V)} (h : CpR w0 w g rows n i) (hw : Ext w w') : CpR w0 w' g rows n i := by
  obtain ⟨cs, h1, h2, h3⟩ := h.blk
  exact ⟨⟨cs, h1, h2.ext hw, h3.ext (RMine.stab _) hw⟩, h.ext.trans hw⟩
theorem CpR.at_ {w0 w : World} {g n i : Nat} {rows : List (List V)} (h : CpR w0 w g rows n i) (hi : i < n) : w.cell? ⟨g, i, none⟩ = some (.slice none 0 0) ∧ w.frozen? ⟨g, i, none⟩ = false := by
  obtain ⟨cs, h1, h2, _⟩ := h.blk
  refine ⟨?_, h2.frozen i⟩
  rw [h2.cell i]
  subst h1
  rw [show n - cs.length = (n - cs.length - 1) + 1 by omega, List.replicate_succ]
  simp
theorem CpR.put {w0 w : World} {g n i : Nat} {rows : List (List V)} {r : List V} {A : Option Addr} {k c : Nat} (h : CpR w0 w g rows n i) (hi : i < n) (hr : rows[i]? = some r) (hg : w0.heap.size ≤ g) (ho : w.ownsRow w0.heap.size 59 3 (.slice A k c) k (cellsR r)) :
    CpR w0 (w.setCell ⟨g, i, none⟩ (.slice A k c)) g rows n (i + 1) := by
  obtain ⟨cs, h1, h2, h3⟩ := h.blk
  have e : rows.take (i + 1) = rows.take i ++ [r] := by rw [List.take_add_one, hr]; rfl
  refine ⟨⟨cs ++ [.slice A k c], by simp [h1], ?_, ?_⟩, h.ext.setCell (p := ⟨g, i, none⟩) hg _⟩
  · have h5 := h2.set_ i (.slice A k c)
    rw [List.setIfInBounds_toArray] at h5
    subst h1
    rw [show n - cs.length = (n - (cs.length + 1)) + 1 by omega, List.replicate_succ] at h5
    simpa using h5
  · rw [e]
    refine Els.snoc (h3.mono fun c' x hx => hx.set_ h2 (by decide) _ _) rfl (fun v hv => by obtain rfl := List.mem_singleton.1 hv; rfl) ⟨A, k, c, rfl, mine_set ho h2 (by decide) _ _⟩
theorem CpR.done {w0 w : World} {g n : Nat} {rows : List (List V)} (h : CpR w0 w g rows n n) (hn : n = rows.length) (hm : n ≤ maxLen) (hg : w0.heap.size ≤ g) : RetRows w0 rows (.returned (.slice (some ⟨g, 0, none⟩) n n)) w := by
  obtain ⟨cs, h1, h2, h3⟩ := h.blk
  rw [Nat.sub_self] at h2
  simp only [List.replicate_zero, List.append_nil] at h2
  rw [List.take_of_length_le (by omega)] at h3
  exact ⟨_, _, _, cs, rfl, hn, ⟨by omega, .inr ⟨g, n, _, rfl, hg, h2, Nat.le_refl _, hm, by simp [h1], List.take_of_length_le (by simp [h1])⟩⟩, h3, h.ext⟩

end Go.Proofs.Ytahdiiaadjdmcaa

namespace Go.Proofs.Ytahdiiaadjdmcaa
open Go.RowKit

/-- only blocks of S turn, and new ones -/
structure Fr (S : Nat → Prop) (w w' : World) : Prop where
  os : w'.os = w.os
  tape : w'.tape = w.tape
  output : w'.output = w.output
  size : w.heap.size ≤ w'.heap.size
  block : ∀ k, k < w.heap.size → ¬ S k → w'.heap[k]? = w.heap[k]?
section
variable {S T : Nat → Prop} {w w' w'' : World}
theorem Fr.refl (S : Nat → Prop) (w : World) : Fr S w w := ⟨rfl, rfl, rfl, Nat.le_refl _, fun _ _ _ => rfl⟩
theorem Fr.trans (h : Fr S w w') (k : Fr S w' w'') : Fr S w w'' :=
  ⟨k.os.trans h.os, k.tape.trans h.tape, k.output.trans h.output, Nat.le_trans h.size k.size, fun g h1 h2 => (k.block g (Nat.lt_of_lt_of_le h1 h.size) h2).trans (h.block g h1 h2)⟩
theorem Fr.mono (h : Fr S w w') (k : ∀ g, g < w.heap.size → S g → T g) : Fr T w w' := ⟨h.os, h.tape, h.output, h.size, fun g h1 h2 => h.block g h1 fun h3 => h2 (k g h1 h3)⟩
theorem Fr.of_ext (h : Ext w w') : Fr S w w' := ⟨Below.os h, Below.tape h, Below.output h, h.size, fun _ h1 _ => h.block h1⟩
theorem Fr.ext (h : Fr S w w') (k : Ext w' w'') : Fr S w w'' := h.trans (Fr.of_ext k)
theorem Fr.setCell (h : Fr S w w') {p : Addr} (hp : S p.block ∨ w.heap.size ≤ p.block) (u : Value) : Fr S w (w'.setCell p u) :=
  ⟨h.os, h.tape, h.output, by simpa using h.size, fun g h1 h2 => (Below.heap_setCell w' p u g (fun e => by subst e; rcases hp with hp | hp; exact h2 hp; omega)).trans (h.block g h1 h2)⟩
theorem Fr.alloc (h : Fr S w w') (o : Obj) : Fr S w (w'.alloc o) := h.ext (Ext.alloc _ _)
theorem Fr.drew (h : Fr S w w') : Fr S w w'.drew := h.ext (Ext.drew _)
theorem Blk.fr {g : Nat} {t : TypeId} {cs : Array Value} (h : Blk w g t cs) (k : Fr S w w') (hg : ¬ S g) : Blk w' g t cs := (k.block g h.lt hg).trans h
/-- what turns is new -/
theorem Fr.out (h : Fr S w w') (hS : ∀ k, S k → w.heap.size ≤ k) : Ext w w' := ⟨h.os, h.tape, h.output, h.size, fun k hk => h.block k hk fun hs => by have := hS k hs; omega⟩
theorem own_fr {base : Nat} {e : TypeId} {s n : Nat} {v : Value} {xs : List Value} (h : w.ownsRow base e s v n xs) (k : Fr S w w') (hS : ∀ g, v.ownBlock = some g → ¬ S g) : w'.ownsRow base e s v n xs := by
  refine ⟨h.1, ?_⟩
  rcases h.2 with h1 | ⟨g, cap, cur, rfl, h2, h3, h4⟩
  · exact .inl h1
  · exact .inr ⟨g, cap, cur, rfl, h2, (k.block g (Blk.lt h3) (hS g rfl)).trans h3, h4⟩
end

/-- .. and rows of rows that were laid since -/
def rowBlk (w : World) (k : Nat) : Prop := ∃ cs f, w.heap[k]? = some (.cells cs 62 f)
structure Fq (S : Nat → Prop) (base : Nat) (w w' : World) : Prop where
  os : w'.os = w.os
  tape : w'.tape = w.tape
  output : w'.output = w.output
  size : w.heap.size ≤ w'.heap.size
  block : ∀ k, k < w.heap.size → ¬ S k → ¬ (base ≤ k ∧ rowBlk w k) → w'.heap[k]? = w.heap[k]?
section
variable {S T : Nat → Prop} {base : Nat} {w w' w'' : World}
theorem Fq.of_fr (h : Fr S w w') : Fq S base w w' := ⟨h.os, h.tape, h.output, h.size, fun k h1 h2 _ => h.block k h1 h2⟩
theorem Fq.of_ext (h : Ext w w') : Fq S base w w' := Fq.of_fr (Fr.of_ext h)
theorem Fq.mono (h : Fq S base w w') (k : ∀ g, S g → T g) : Fq T base w w' := ⟨h.os, h.tape, h.output, h.size, fun g h1 h2 => h.block g h1 fun h3 => h2 (k g h3)⟩
theorem Fq.trans (h : Fq S base w w') (k : Fq S base w' w'') : Fq S base w w'' :=
  ⟨k.os.trans h.os, k.tape.trans h.tape, k.output.trans h.output, Nat.le_trans h.size k.size, fun g h1 h2 h3 => by
    have e := h.block g h1 h2 h3
    refine (k.block g (Nat.lt_of_lt_of_le h1 h.size) h2 fun h4 => h3 ⟨h4.1, ?_⟩).trans e
    obtain ⟨cs, f, h5⟩ := h4.2
    exact ⟨cs, f, by rw [← e]; exact h5⟩⟩
theorem Fr.fq {w0 : World} (h : Fr S w0 w) (k : Fq S w0.heap.size w w') : Fr S w0 w' :=
  ⟨k.os.trans h.os, k.tape.trans h.tape, k.output.trans h.output, Nat.le_trans h.size k.size, fun g h1 h2 => (k.block g (Nat.lt_of_lt_of_le h1 h.size) h2 (fun h3 => by have := h3.1; omega)).trans (h.block g h1 h2)⟩
theorem Blk.fq {g : Nat} {t : TypeId} {cs : Array Value} (h : Blk w g t cs) (k : Fq S base w w') (hg : ¬ S g) (hb : g < base ∨ t ≠ 62) : Blk w' g t cs :=
  (k.block g h.lt hg fun h3 => by
    rcases hb with hb | hb
    · have := h3.1; omega
    · obtain ⟨cs', f, h5⟩ := h3.2
      have h6 : w.heap[g]? = some _ := h
      rw [h6] at h5
      injection h5 with h5
      injection h5 with _ h5
      exact hb h5).trans h
theorem own_fq {b : Nat} {e : TypeId} {s n : Nat} {v : Value} {xs : List Value} (h : w.ownsRow b e s v n xs) (k : Fq S base w w') (hS : ∀ g, v.ownBlock = some g → ¬ S g) (he : e ≠ 62) : w'.ownsRow b e s v n xs := by
  refine ⟨h.1, ?_⟩
  rcases h.2 with h1 | ⟨g, cap, cur, rfl, h2, h3, h4⟩
  · exact .inl h1
  · exact .inr ⟨g, cap, cur, rfl, h2, Blk.fq h3 k (hS g rfl) (.inr he), h4⟩
end

section
variable {S : Nat → Prop} {base : Nat} {w w' : World} {l : Nat} {o : Obj}
theorem Fr.putObj (h : Fr S w w') (hl : S l ∨ w.heap.size ≤ l) : Fr S w (w'.putObj l o) :=
  ⟨h.os, h.tape, h.output, by simpa using h.size, fun g h1 h2 => (World.putObj_heap_other (fun e => by subst e; rcases hl with hp | hp; exact h2 hp; omega)).trans (h.block g h1 h2)⟩
theorem Fq.putObj (h : Fq S base w w') (hl : S l) : Fq S base w (w'.putObj l o) :=
  ⟨h.os, h.tape, h.output, by simpa using h.size, fun g h1 h2 h3 => (World.putObj_heap_other (fun e => by subst e; exact h2 hl)).trans (h.block g h1 h2 h3)⟩
theorem Blk.putObj {g : Nat} {t : TypeId} {cs : Array Value} (h : Blk w g t cs) (hne : g ≠ l) : Blk (w.putObj l o) g t cs := (World.putObj_heap_other hne).trans h
theorem own_putObj {b : Nat} {e : TypeId} {s n : Nat} {v : Value} {xs : List Value} (h : w.ownsRow b e s v n xs) (hl : ∀ g, v.ownBlock = some g → g ≠ l) : (w.putObj l o).ownsRow b e s v n xs := by
  refine ⟨h.1, ?_⟩
  rcases h.2 with h1 | ⟨g, cap, cur, rfl, h2, h3, h4⟩
  · exact .inl h1
  · exact .inr ⟨g, cap, cur, rfl, h2, Blk.putObj h3 (hl g rfl), h4⟩
end

/-- how a round's body is left -/
def roundQ (l : Nat) (r : Loop) (R : Ending → World → Prop) : Exit → Act → World → Prop
  | .normal, _, W => W.heap[l]? = some (.loop { r with state := .busy }) ∧ R (.returned (.bool true)) (W.putObj l (.loop r))
  | .ret, _, W => W.heap[l]? = some (.loop { r with state := .busy }) ∧ R (.returned (.bool false)) (W.putObj l (.loop { r with state := .done, pending := some .ret }))
  | .exit id, _, W => W.heap[l]? = some (.loop { r with state := .busy }) ∧ R (.returned (.bool false)) (W.putObj l (.loop { r with state := .done, pending := some (.exit id) }))
  | _, _, _ => False
/-- one round -/
theorem range_round {F : Fence} {n l : Nat} {P : Program} {r : Loop} {W : World} {x : Value} {R : Ending → World → Prop} (hl : W.heap[l]? = some (.loop r)) (hr : r.state = .ready) (hp : r.pending = none) (hps : r.params.size = 1) (hF : F.fn r.fn)
    (h : r.assign.wpIn (F.inRound l) n P (Exit.then (fun a₁ w₁ => w₁.heap[l]? = some (.loop r) ∧ r.body.wpIn (F.inRound l) n P (roundQ l r R) a₁ (w₁.putObj l (.loop { r with state := .busy }))) (fun _ _ _ => False))
      { tmps := (r.params.zip #[x]).foldl (fun tmps (t, a) => tmps.setIfInBounds t a) r.tmps, defers := [] } W) :
    ∃ fn tmps assign body, (Instr.yield l #[x]).run P W = .ok (.round l fn tmps assign body) W ∧ RoundIn F n P l fn tmps assign body W R := by
  have hrr : ({ r with state := .ready, pending := none } : Loop) = r := by
    obtain ⟨a, b⟩ := r
    simp only at hr hp
    subst hr hp
    rfl
  refine ⟨r.fn, _, r.assign, r.body, run_yield hl (by simp [hps]), roundIn_of_wpIn hF (wpIn_mono h ?_)⟩
  intro e a₁ w₁ hq
  cases e with
  | normal =>
    obtain ⟨hl1, hb⟩ := hq
    refine ⟨_, run_beginRound hl1 hr, wpIn_mono hb ?_⟩
    intro e a₂ w₂ hq
    cases e with
    | normal => exact ⟨_, _, run_endRound none hq.1, by simpa [hrr] using hq.2⟩
    | ret => exact ⟨_, _, run_endRound (some .ret) hq.1, hq.2⟩
    | exit id => exact ⟨_, _, run_endRound (some (.exit id)) hq.1, hq.2⟩
    | goto t => exact hq.elim
    | panic c => exact hq.elim
    | outgrown => exact hq.elim
  | ret => exact hq.elim
  | exit id => exact hq.elim
  | goto t => exact hq.elim
  | panic c => exact hq.elim
  | outgrown => exact hq.elim

/-- the record of a range over a function -/
def recOf (fn : FuncId) (tmps : Array Value) (ps : Array Tmp) (assign body : Code) (d : Nat) : Loop := { state := .ready, pending := none, fn, tmps, params := ps, assign, body, defers := d }
/-- the statement -/
theorem wp_range {n : Nat} {P : Program} {g : Operand} {ps : Array Tmp} {assign body : Code} {Q : Exit → Act → World → Prop} {a : Act} {w : World} {gf : Nat} {lb : Array Value} (hg : a.eval g = .func (.func gf) #[] lb) (eg : Enters P gf)
    (h : ∀ fn, CallsIn Fence.wide (n - 1) P gf (#[.func (.yield (w.heap.size + 1)) #[] #[]] ++ lb) ((w.alloc (.deferred (some []))).alloc (.loop (recOf fn a.tmps ps assign body w.heap.size)))
      (rangePost Fence.wide n P (w.heap.size + 1) Q { a with defers := [{ target := .collected w.heap.size, args := #[] }] ++ a.defers })) :
    (Code.rangeFunc g ps assign body).wpIn Fence.wide n P Q a w := by
  refine wpIn_rangeFunc ?_
  intro fn hfn
  have h2 := h fn
  have e2 := eg (#[.func (.yield (w.heap.size + 1)) #[] #[]] ++ lb)
  have h1 := run_enterLoop_outer (P := P) (w := w) fn a.tmps ps assign body
  generalize hW : (w.alloc (.deferred (some []))).alloc (.loop (recOf fn a.tmps ps assign body w.heap.size)) = W1 at h2
  have hW' : (w.alloc (.deferred (some []))).alloc (.loop { state := .ready, pending := none, fn, tmps := a.tmps, params := ps, assign, body, defers := w.heap.size }) = W1 := hW
  rw [hW'] at h1
  have k1 : (resolve a.eval (rangeCall g (w.heap.size + 1)) 0).run P W1 = .ok { target := .fn (.func gf) lb, args := #[.func (.yield (w.heap.size + 1)) #[] #[]] } W1 := by
    simp only [resolve, hg]
    simp [go_sem]
  have k2 : (invoke (.fn (.func gf) lb) #[.func (.yield (w.heap.size + 1)) #[] #[]]).run P W1 = .ok (.enter gf (#[.func (.yield (w.heap.size + 1)) #[] #[]] ++ lb)) W1 := by
    simp [invoke, go_sem, e2]
  have h1' : (Instr.enterLoop fn a.tmps ps assign body Fence.wide.round).run P w = .ok (w.heap.size + 1, [{ target := .collected w.heap.size, args := #[] }]) W1 := h1
  have k3 : Fence.wide.depth.isSome = true → 1 ≤ n := fun h => absurd h (by simp [Fence.wide])
  refine ⟨w.heap.size + 1, [{ target := .collected w.heap.size, args := #[] }], W1, { target := .fn (.func gf) lb, args := #[.func (.yield (w.heap.size + 1)) #[] #[]] }, W1, gf,
    #[.func (.yield (w.heap.size + 1)) #[] #[]] ++ lb, W1, ?_, ?_, ?_, ?_, ?_, ?_⟩
  · exact h1'
  · exact k1
  · exact fun _ _ => trivial
  · exact k2
  · exact k3
  · exact h2
theorem range_ended {n l : Nat} {P : Program} {Q : Exit → Act → World → Prop} {a' : Act} {v : Value} {W : World} {r : Loop} (hl : W.heap[l]? = some (.loop r)) (hb : r.state ≠ .busy)
    (h : match r.pending with | none => Q .normal a' (W.putObj l (.loop { r with state := .exhausted })) | some c => c.wpIn Fence.wide n P Q a' (W.putObj l (.loop { r with state := .exhausted }))) :
    rangePost Fence.wide n P l Q a' (.returned v) W := ⟨_, _, run_endLoop hl hb, h⟩

theorem Fr.fq' {S : Nat → Prop} {base : Nat} {w0 w w' : World} (h : Fr S w0 w) (k : Fq S base w w') (hb : w0.heap.size ≤ base) : Fr S w0 w' :=
  ⟨k.os.trans h.os, k.tape.trans h.tape, k.output.trans h.output, Nat.le_trans h.size k.size, fun g h1 h2 => (k.block g (Nat.lt_of_lt_of_le h1 h.size) h2 (fun h3 => by have := h3.1; omega)).trans (h.block g h1 h2)⟩
theorem rec_laid (w : World) (r : Loop) : ((w.alloc (.deferred (some []))).alloc (.loop r)).heap[w.heap.size + 1]? = some (.loop r) ∧ ((w.alloc (.deferred (some []))).alloc (.loop r)).heap[w.heap.size]? = some (.deferred (some [])) ∧
    Ext w ((w.alloc (.deferred (some []))).alloc (.loop r)) ∧ ((w.alloc (.deferred (some []))).alloc (.loop r)).heap.size = w.heap.size + 2 := by
  refine ⟨?_, ?_, (Ext.alloc _ _).alloc' _, by rw [World.size_alloc, World.size_alloc]⟩
  · have := World.alloc_heap_new (w.alloc (.deferred (some []))) (.loop r)
    rwa [World.size_alloc] at this
  · exact (Below.heap_alloc _ _ _ (by simp)).trans (World.alloc_heap_new w _)
/-- rows of values of the call's own -/
def MineV (b : Nat) (w : World) (A : Option Addr) (n c : Nat) (rows : List (List V)) : Prop := ∃ cells, n = rows.length ∧ w.ownsRow b 62 1 (.slice A n c) n cells ∧ Els (RMine b) 1 w cells rows
theorem RMine.fr {S : Nat → Prop} {b : Nat} {w w' : World} {cs : List Value} {r : List V} (h : RMine b w cs r) (hF : Fr S w w') (hS : ∀ g, S g → g < b) : RMine b w' cs r := by
  obtain ⟨A, n, c, h1, h2⟩ := h
  exact ⟨A, n, c, h1, own_fr h2 hF fun g hg hs => by have := (h2.lt g hg).1; have := hS g hs; omega⟩
theorem MineV.fr {S : Nat → Prop} {b : Nat} {w w' : World} {A : Option Addr} {n c : Nat} {rows : List (List V)} (h : MineV b w A n c rows) (hF : Fr S w w') (hS : ∀ g, S g → g < b) : MineV b w' A n c rows := by
  obtain ⟨cells, h1, h2, h3⟩ := h
  exact ⟨cells, h1, own_fr h2 hF fun g hg hs => (by have := (h2.lt g hg).1; have := hS g hs; omega), h3.mono fun cs x hx => hx.fr hF hS⟩
theorem MineV.nil (b : Nat) (w : World) : MineV b w none 0 0 [] := ⟨[], rfl, World.ownsRow_nil _ _ _ _, .nil⟩
theorem Fq.of_grown {S : Nat → Prop} {base : Nat} {w w' : World} {v : Value} {n : Nat} {xs : List Value} (h : w.ownsRow base 62 1 v n xs) (hg : w.grownBy w' v.ownBlock) : Fq S base w w' :=
  ⟨hg.os, hg.tape, hg.output, hg.size, fun k h1 _ h3 => hg.block k h1 fun e => h3 (by
    rcases h.2 with ⟨rfl, _⟩ | ⟨g, cap, cur, rfl, h4, h5, _⟩
    · simp [Value.ownBlock] at e
    · have e2 : k = g := by simpa [Value.ownBlock] using e
      subst e2
      exact ⟨h4, _, _, h5⟩)⟩
theorem RMine.other {b b1 : Nat} {e1 : TypeId} {s1 n1 : Nat} {v1 : Value} {x1 : List Value} {w w' : World} {cs : List Value} {r : List V} (h : RMine b w cs r) (h1 : w.ownsRow b1 e1 s1 v1 n1 x1) (hne : e1 ≠ 59) (hg : w.grownBy w' v1.ownBlock) : RMine b w' cs r := by
  obtain ⟨A, n, c, h2, h3⟩ := h
  exact ⟨A, n, c, h2, mine_other h3 h1 hne hg⟩
end Go.Proofs.Ytahdiiaadjdmcaa
