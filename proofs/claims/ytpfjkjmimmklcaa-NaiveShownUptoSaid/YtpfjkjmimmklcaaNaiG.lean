/-
  The walk's memory: which blocks may turn; the walk's struct, its values, what is bound, what was tried.
  The walk binds variables and frees them.
  What the walk reads, whatever of its own memory turns.
  The walk through the atoms, whatever is yielded to.
  The walk through the atoms, whatever is yielded to: all levels.
  A range over a function, its record in memory: one round; the statement; the walk's iterator.
  A walk that gave up: what the deferred function makes of it.
-/
import Derived.Test.YtpfjkjmimmklcaaNaiM
import Derived.Test.YtpfjkjmimmklcaaRowsG
import Derived.Test.YtpfjkjmimmklcaaRefB
import Derived.RangeFuncIn
import Derived.WalkKit
import Derived.TacticsIn
import Derived.BigFrameIn
import Derived.Deep.DeepCutAuto
import Derived.RangeFuncLeaves
import Derived.RangeFuncRecord
import Derived.RecoverIn
import Derived.ControlIn
import Derived.Shelf.Abstract
namespace Go.Proofs.Ytpfjkjmimmklcaa
open Go.RowKit

/-- only blocks of S turn, and new ones -/
structure Fr (S : Nat → Prop) (w w' : World) : Prop where
  os : w'.os = w.os
  tape : w'.tape = w.tape
  output : w'.output = w.output
  size : w.heap.size ≤ w'.heap.size
  block : ∀ k, k < w.heap.size → ¬ S k → w'.heap[k]? = w.heap[k]?
section
variable {S T : Nat → Prop} {w w' w'' : World}
theorem Fr.refl (S : Nat → Prop) (w : World) : Fr S w w := ⟨rfl, rfl, rfl, Nat.le_refl _, fun _ _ _ => rfl⟩
theorem Fr.trans (h : Fr S w w') (k : Fr S w' w'') : Fr S w w'' :=
  ⟨k.os.trans h.os, k.tape.trans h.tape, k.output.trans h.output, Nat.le_trans h.size k.size, fun g h1 h2 => (k.block g (Nat.lt_of_lt_of_le h1 h.size) h2).trans (h.block g h1 h2)⟩
theorem Fr.mono (h : Fr S w w') (k : ∀ g, g < w.heap.size → S g → T g) : Fr T w w' := ⟨h.os, h.tape, h.output, h.size, fun g h1 h2 => h.block g h1 fun h3 => h2 (k g h1 h3)⟩
theorem Fr.of_ext (h : Ext w w') : Fr S w w' := ⟨Below.os h, Below.tape h, Below.output h, h.size, fun _ h1 _ => h.block h1⟩
theorem Fr.ext (h : Fr S w w') (k : Ext w' w'') : Fr S w w'' := h.trans (Fr.of_ext k)
theorem Fr.setCell (h : Fr S w w') {p : Addr} (hp : S p.block ∨ w.heap.size ≤ p.block) (u : Value) : Fr S w (w'.setCell p u) :=
  ⟨h.os, h.tape, h.output, by simpa using h.size, fun g h1 h2 => (Below.heap_setCell w' p u g (fun e => by subst e; rcases hp with hp | hp; exact h2 hp; omega)).trans (h.block g h1 h2)⟩
theorem Fr.alloc (h : Fr S w w') (o : Obj) : Fr S w (w'.alloc o) := h.ext (Ext.alloc _ _)
theorem Fr.drew (h : Fr S w w') : Fr S w w'.drew := h.ext (Ext.drew _)
theorem Blk.fr {g : Nat} {t : TypeId} {cs : Array Value} (h : Blk w g t cs) (k : Fr S w w') (hg : ¬ S g) : Blk w' g t cs := (k.block g h.lt hg).trans h
/-- what turns is new -/
theorem Fr.out (h : Fr S w w') (hS : ∀ k, S k → w.heap.size ≤ k) : Ext w w' := ⟨h.os, h.tape, h.output, h.size, fun k hk => h.block k hk fun hs => by have := hS k hs; omega⟩
theorem own_fr {base : Nat} {e : TypeId} {s n : Nat} {v : Value} {xs : List Value} (h : w.ownsRow base e s v n xs) (k : Fr S w w') (hS : ∀ g, v.ownBlock = some g → ¬ S g) : w'.ownsRow base e s v n xs := by
  refine ⟨h.1, ?_⟩
  rcases h.2 with h1 | ⟨g, cap, cur, rfl, h2, h3, h4⟩
  · exact .inl h1
  · exact .inr ⟨g, cap, cur, rfl, h2, (k.block g (Blk.lt h3) (hS g rfl)).trans h3, h4⟩
end

/-- .. and rows of rows that were laid since -/
def rowBlk (w : World) (k : Nat) : Prop := ∃ cs f, w.heap[k]? = some (.cells cs 35 f)
structure Fq (S : Nat → Prop) (base : Nat) (w w' : World) : Prop where
  os : w'.os = w.os
  tape : w'.tape = w.tape
  output : w'.output = w.output
  size : w.heap.size ≤ w'.heap.size
  block : ∀ k, k < w.heap.size → ¬ S k → ¬ (base ≤ k ∧ rowBlk w k) → w'.heap[k]? = w.heap[k]?
section
variable {S T : Nat → Prop} {base : Nat} {w w' w'' : World}
theorem Fq.of_fr (h : Fr S w w') : Fq S base w w' := ⟨h.os, h.tape, h.output, h.size, fun k h1 h2 _ => h.block k h1 h2⟩
theorem Fq.of_ext (h : Ext w w') : Fq S base w w' := Fq.of_fr (Fr.of_ext h)
theorem Fq.mono (h : Fq S base w w') (k : ∀ g, S g → T g) : Fq T base w w' := ⟨h.os, h.tape, h.output, h.size, fun g h1 h2 => h.block g h1 fun h3 => h2 (k g h3)⟩
theorem Fq.trans (h : Fq S base w w') (k : Fq S base w' w'') : Fq S base w w'' :=
  ⟨k.os.trans h.os, k.tape.trans h.tape, k.output.trans h.output, Nat.le_trans h.size k.size, fun g h1 h2 h3 => by
    have e := h.block g h1 h2 h3
    refine (k.block g (Nat.lt_of_lt_of_le h1 h.size) h2 fun h4 => h3 ⟨h4.1, ?_⟩).trans e
    obtain ⟨cs, f, h5⟩ := h4.2
    exact ⟨cs, f, by rw [← e]; exact h5⟩⟩
theorem Fr.fq {w0 : World} (h : Fr S w0 w) (k : Fq S w0.heap.size w w') : Fr S w0 w' :=
  ⟨k.os.trans h.os, k.tape.trans h.tape, k.output.trans h.output, Nat.le_trans h.size k.size, fun g h1 h2 => (k.block g (Nat.lt_of_lt_of_le h1 h.size) h2 (fun h3 => by have := h3.1; omega)).trans (h.block g h1 h2)⟩
theorem Blk.fq {g : Nat} {t : TypeId} {cs : Array Value} (h : Blk w g t cs) (k : Fq S base w w') (hg : ¬ S g) (hb : g < base ∨ t ≠ 35) : Blk w' g t cs :=
  (k.block g h.lt hg fun h3 => by
    rcases hb with hb | hb
    · have := h3.1; omega
    · obtain ⟨cs', f, h5⟩ := h3.2
      have h6 : w.heap[g]? = some _ := h
      rw [h6] at h5
      injection h5 with h5
      injection h5 with _ h5
      exact hb h5).trans h
theorem own_fq {b : Nat} {e : TypeId} {s n : Nat} {v : Value} {xs : List Value} (h : w.ownsRow b e s v n xs) (k : Fq S base w w') (hS : ∀ g, v.ownBlock = some g → ¬ S g) (he : e ≠ 35) : w'.ownsRow b e s v n xs := by
  refine ⟨h.1, ?_⟩
  rcases h.2 with h1 | ⟨g, cap, cur, rfl, h2, h3, h4⟩
  · exact .inl h1
  · exact .inr ⟨g, cap, cur, rfl, h2, Blk.fq h3 k (hS g rfl) (.inr he), h4⟩
end

/-- where the walk lies: its struct, values, what is bound, what was tried; the query, the rows, the variables' numbers, the head's -/
structure WLoc where
  gw : Nat
  gv : Nat
  gb : Nat
  gt : Nat
  nm : ByteArray
  L : QLoc
  R : Value
  Vs : Value
  H : Value
def WLoc.cells (D : WLoc) (N k c : Nat) : List Value :=
  [.string D.nm, .slice D.L.A D.L.n D.L.c, .slice D.L.B D.L.m D.L.d, D.R, D.Vs, D.H, .slice (some ⟨D.gv, 0, none⟩) N N, .slice (some ⟨D.gb, 0, none⟩) N N, .slice (some ⟨D.gt, 0, none⟩) k k, .int .i64 c]
/-- flags -/
def flagsF (N : Nat) (p : Nat → Bool) : List Value := (List.range N).map fun i => .bool (p i)
theorem flagsF_len (N : Nat) (p : Nat → Bool) : (flagsF N p).length = N := by simp [flagsF]
theorem flagsF_get {N : Nat} {p : Nat → Bool} {i : Nat} (h : i < N) : (flagsF N p)[i]? = some (.bool (p i)) := by simp [flagsF, h]
theorem flagsF_set (N : Nat) (p p' : Nat → Bool) (v : Nat) (b : Bool) (h : ∀ i, i < N → p' i = if i = v then b else p i) : (flagsF N p).toArray.setIfInBounds v (.bool b) = (flagsF N p').toArray := by
  apply Array.toList_inj.1
  rw [Array.toList_setIfInBounds]
  apply List.ext_getElem?
  intro i
  rw [List.getElem?_set]
  by_cases hi : i < N
  · have h2 := h i hi
    rw [show (flagsF N p').toArray.toList[i]? = some (.bool (p' i)) from flagsF_get hi, h2]
    by_cases hv : v = i
    · subst hv
      simp [flagsF, hi]
    · have hv' : i ≠ v := fun e => hv e.symm
      rw [if_neg hv, if_neg hv']
      exact flagsF_get hi
  · have e1 : (flagsF N p').toArray.toList[i]? = none := by simp [flagsF]; omega
    have e2 : (flagsF N p).toArray.toList[i]? = none := by simp [flagsF]; omega
    rw [e1, e2]
    by_cases hv : v = i
    · subst hv
      simp [flagsF, hi]
    · simp [hv]
theorem flagsF_congr {N : Nat} {p p' : Nat → Bool} (h : ∀ i, i < N → p i = p' i) : flagsF N p = flagsF N p' := by
  unfold flagsF
  exact List.map_congr_left fun i hi => by rw [h i (List.mem_range.1 hi)]
/-- the walk's state: so many variables are bound -/
structure WSt (D : WLoc) (N k : Nat) (w : World) (val : List V) (tr : List Value) (c : Nat) : Prop where
  st : Blk w D.gw 136 (D.cells N k c).toArray
  vals : ∃ cs : Array Value, Blk w D.gv 58 cs ∧ cs.size = N * 3 ∧ cs.toList.take (val.length * 3) = cellsR val
  flags : Blk w D.gb 4 (flagsF N fun i => decide (i < val.length)).toArray
  tried : ∃ ts : Array Value, Blk w D.gt 35 ts ∧ ts.size = k ∧ ts.toList.take tr.length = tr
  le : val.length ≤ N

theorem Fr.grown {S : Nat → Prop} {w0 w w' : World} {row : Option Nat} (h : Fr S w0 w) (hg : w.grownBy w' row) (hr : ∀ k, row = some k → S k ∨ w0.heap.size ≤ k) : Fr S w0 w' :=
  ⟨hg.os.trans h.os, hg.tape.trans h.tape, hg.output.trans h.output, Nat.le_trans h.size hg.size, fun g h1 h2 => (hg.block g (Nat.lt_of_lt_of_le h1 h.size) (fun e => by rcases hr g e.symm with h3 | h3; exact h2 h3; omega)).trans (h.block g h1 h2)⟩
theorem Fr.of_grown {w w' : World} {row : Option Nat} (hg : w.grownBy w' row) : Fr (fun g => row = some g) w w' :=
  ⟨hg.os, hg.tape, hg.output, hg.size, fun g h1 h2 => hg.block g h1 (fun e => h2 e.symm)⟩
/-- none of the walk's four -/
def WLoc.away (D : WLoc) (S : Nat → Prop) : Prop := ¬ S D.gw ∧ ¬ S D.gv ∧ ¬ S D.gb ∧ ¬ S D.gt
theorem WSt.fr {D : WLoc} {N k c : Nat} {w w' : World} {val : List V} {tr : List Value} {S : Nat → Prop} (h : WSt D N k w val tr c) (hF : Fr S w w') (hS : D.away S) : WSt D N k w' val tr c := by
  obtain ⟨cs, h1, h2⟩ := h.vals
  obtain ⟨ts, h3, h4⟩ := h.tried
  exact ⟨h.st.fr hF hS.1, ⟨cs, h1.fr hF hS.2.1, h2⟩, h.flags.fr hF hS.2.2.1, ⟨ts, h3.fr hF hS.2.2.2, h4⟩, h.le⟩
theorem WSt.ext {D : WLoc} {N k c : Nat} {w w' : World} {val : List V} {tr : List Value} (h : WSt D N k w val tr c) (hE : Ext w w') : WSt D N k w' val tr c :=
  h.fr (S := fun _ => False) (Fr.of_ext hE) ⟨id, id, id, id⟩
theorem WSt.fq {D : WLoc} {N k c base : Nat} {w w' : World} {val : List V} {tr : List Value} {S : Nat → Prop} (h : WSt D N k w val tr c) (hF : Fq S base w w') (hS : D.away S) (hb : D.gt < base) : WSt D N k w' val tr c := by
  obtain ⟨cs, h1, h2⟩ := h.vals
  obtain ⟨ts, h3, h4⟩ := h.tried
  exact ⟨h.st.fq hF hS.1 (.inr (by decide)), ⟨cs, h1.fq hF hS.2.1 (.inr (by decide)), h2⟩, h.flags.fq hF hS.2.2.1 (.inr (by decide)), ⟨ts, h3.fq hF hS.2.2.2 (.inl hb), h4⟩, h.le⟩
theorem blk_ne' {w : World} {g g' : Nat} {t t' : TypeId} {cs cs' : Array Value} (h : Blk w g t cs) (h' : Blk w g' t' cs') (hne : t ≠ t') : g ≠ g' := fun e => by
  subst e
  have h1 : w.heap[g]? = some _ := h
  have h2 : w.heap[g]? = some _ := h'
  rw [h1] at h2
  injection h2 with h2
  injection h2 with _ h2
  exact hne h2
/-- the four are four -/
structure WLoc.Four (D : WLoc) : Prop where
  wv : D.gw ≠ D.gv
  wb : D.gw ≠ D.gb
  wt : D.gw ≠ D.gt
  vb : D.gv ≠ D.gb
  vt : D.gv ≠ D.gt
  bt : D.gb ≠ D.gt
theorem WSt.four {D : WLoc} {N k c : Nat} {w : World} {val : List V} {tr : List Value} (h : WSt D N k w val tr c) : D.Four := by
  obtain ⟨cs, h1, _⟩ := h.vals
  obtain ⟨ts, h3, _⟩ := h.tried
  exact ⟨blk_ne' h.st h1 (by decide), blk_ne' h.st h.flags (by decide), blk_ne' h.st h3 (by decide), blk_ne' h1 h.flags (by decide), blk_ne' h1 h3 (by decide), blk_ne' h.flags h3 (by decide)⟩
theorem WSt.lt {D : WLoc} {N k c : Nat} {w : World} {val : List V} {tr : List Value} (h : WSt D N k w val tr c) : D.gw < w.heap.size ∧ D.gv < w.heap.size ∧ D.gb < w.heap.size ∧ D.gt < w.heap.size := by
  obtain ⟨cs, h1, _⟩ := h.vals
  obtain ⟨ts, h3, _⟩ := h.tried
  exact ⟨h.st.lt, h1.lt, h.flags.lt, h3.lt⟩
theorem take3 {cs : List Value} {n : Nat} (h : n * 3 + 3 ≤ cs.length) : ∃ c0 c1 c2, cs.take ((n + 1) * 3) = cs.take (n * 3) ++ [c0, c1, c2] := by
  have e0 := take_snoc' cs (n * 3) cs[n * 3] (List.getElem?_eq_getElem (by omega))
  have e1 := take_snoc' cs (n * 3 + 1) cs[n * 3 + 1] (List.getElem?_eq_getElem (by omega))
  have e2 := take_snoc' cs (n * 3 + 2) cs[n * 3 + 2] (List.getElem?_eq_getElem (by omega))
  refine ⟨cs[n * 3], cs[n * 3 + 1], cs[n * 3 + 2], ?_⟩
  have e1' : cs.take (n * 3 + 2) = cs.take (n * 3 + 1) ++ [cs[n * 3 + 1]] := e1
  have e3 : (n + 1) * 3 = n * 3 + 2 + 1 := by omega
  rw [e3, e2, e1', e0, List.append_assoc, List.append_assoc]
  rfl
/-- one variable more is bound -/
theorem WSt.push {D : WLoc} {N k c : Nat} {w : World} {val : List V} {tr : List Value} (h : WSt D N k w val tr c) (hv : val.length < N) (y : V) :
    WSt D N k ((((w.setCell ⟨D.gb, val.length, none⟩ (.bool true)).setCell ⟨D.gv, val.length * 3, none⟩ (.int .i64 y.k)).setCell ⟨D.gv, val.length * 3 + 1, none⟩ (.int .i64 y.i)).setCell ⟨D.gv, val.length * 3 + 2, none⟩ (.string y.t)) (val ++ [y]) tr c := by
  have h4 := h.four
  obtain ⟨cs, h1, h2, h3⟩ := h.vals
  obtain ⟨ts, t1, t2⟩ := h.tried
  refine ⟨?_, ?_, ?_, ⟨ts, ?_, t2⟩, by simp; omega⟩
  · exact (((h.st.far (p := ⟨D.gb, _, none⟩) h4.wb _).far (p := ⟨D.gv, _, none⟩) h4.wv _).far (p := ⟨D.gv, _, none⟩) h4.wv _).far (p := ⟨D.gv, _, none⟩) h4.wv _
  · refine ⟨_, (((h1.far (p := ⟨D.gb, _, none⟩) h4.vb _).set_ _ _).set_ _ _).set_ _ _, by simp [h2], ?_⟩
    have hlen : (cellsR val).length = val.length * 3 := cellsR_len val
    obtain ⟨c0, c1, c2, hc⟩ := take3 (cs := cs.toList) (n := val.length) (by simp; omega)
    rw [h3] at hc
    rw [Array.toList_setIfInBounds, Array.toList_setIfInBounds, Array.toList_setIfInBounds, List.length_append, List.length_singleton, List.take_set, List.take_set, List.take_set, hc, cellsR_append]
    simp [hlen, cellsR, V.cells]
  · have h5 := h.flags.set_ val.length (.bool true)
    rw [flagsF_set N _ (fun i => decide (i < (val ++ [y]).length)) _ _ (fun i hi => by
      by_cases e : i = val.length
      · rw [if_pos e]; simp; omega
      · rw [if_neg e, Bool.eq_iff_iff]; simp; omega)] at h5
    exact ((h5.far (p := ⟨D.gv, _, none⟩) (Ne.symm h4.vb) _).far (p := ⟨D.gv, _, none⟩) (Ne.symm h4.vb) _).far (p := ⟨D.gv, _, none⟩) (Ne.symm h4.vb) _
  · exact (((t1.far (p := ⟨D.gb, _, none⟩) (Ne.symm h4.bt) _).far (p := ⟨D.gv, _, none⟩) (Ne.symm h4.vt) _).far (p := ⟨D.gv, _, none⟩) (Ne.symm h4.vt) _).far (p := ⟨D.gv, _, none⟩) (Ne.symm h4.vt) _

section
variable {P : Program}
theorem wpList_append_b {w : World} {ops : Array Oper} {rest : List Oper} {o : Oper} {a : Act} {Q : Exit → Act → World → Prop} (hgd : o.guard = none) (s x : Operand) (t : TypeId)
    (ho : o.op = .call { callee := .builtin .append, args := #[s, x], argTypes := #[t, t] })
    (e : TypeId) (i : TypeInfo) (z : Value) (size bytes : Nat) (ht : P.underlying t = some (.slice e)) (hi : P.info? e = some i) (hz : i.zero = some z)
    (hsize : i.size = size) (hby : i.bytes = bytes) (hzs : z.cells.size = size) (hsz : 0 < size) (base : Nat) (hbase : base ≤ w.heap.size)
    (v : Value) (n : Nat) (xs : List Value) (hs : a.eval s = v) (hown : w.ownsRow base e size v n xs)
    (A : Option Addr) (m c : Nat) (news : List Value) (hx : a.eval x = .slice A m c) (hr : Sl w A m size news) (h1 : OneCells news)
    (h63 : n + m ≤ maxLen) (hbytes : (n + m) * bytes ≤ 140737488355328)
    (h : ∀ A' c' w', Hid (w'.ownsRow base e size (.slice A' (n + m) c') (n + m) (xs ++ news)) → Hid (w.grownBy w' v.ownBlock) → Hid (∀ k, v.ownBlock = some k → base ≤ k) → wpList P ops Q rest (a.put o.dst (.slice A' (n + m) c')) w') : wpList P ops Q (o :: rest) a w := by
  refine wpList_plain hgd fun _ hK => ?_
  obtain ⟨v', w', hrun, h2, h3, h4⟩ := run_append_sl (P := P) w base t o.type e i z size bytes ht hi hz hsize hby hzs hsz v n xs hown A m c news hr h1 h63 hbytes hbase
  have hv : ∃ A' c', v' = .slice A' (n + m) c' := by
    rcases h2.2 with ⟨h5, h6⟩ | ⟨g, cap, cur, h5, _⟩
    · exact ⟨none, 0, by rw [h5, h6]⟩
    · exact ⟨_, _, h5⟩
  obtain ⟨A', c', rfl⟩ := hv
  unfold Oper.wp execOp
  simp only [ho, resolve, invoke, builtin, Sem.run_bind, Sem.run_pure, Result.andThen_ok, List.map_toArray, List.map_cons, List.map_nil, hs, hx, hrun]
  exact hK _ _ (h A' c' w' h2 h3 fun k hk => (hown.lt k hk).1)
end
end Go.Proofs.Ytpfjkjmimmklcaa

namespace Go.Proofs.Ytpfjkjmimmklcaa
open Go.RowKit

/-- the numbers from s on -/
def upN (s f : Nat) : List Int := (List.range f).map fun i => ((s + i : Nat) : Int)
theorem upN_len (s f : Nat) : (upN s f).length = f := by simp [upN]
theorem upN_get {s f i : Nat} (h : i < f) : (upN s f)[i]? = some ((s + i : Nat) : Int) := by simp [upN, h]
theorem upN_snoc (s f : Nat) : upN s (f + 1) = upN s f ++ [((s + f : Nat) : Int)] := by simp [upN, List.range_succ]

def onlyB (D : WLoc) : Nat → Prop := fun g => g = D.gb
set_option maxRecDepth 100000 in
theorem free_any (D : WLoc) (N k c s f : Nat) (A : Option Addr) (cA : Nat) (w : World) (hN : N ≤ 1048576) (hsf : s + f ≤ N)
    (hst : Blk w D.gw 136 (D.cells N k c).toArray) (hfl : Blk w D.gb 4 (flagsF N fun i => decide (i < s + f)).toArray)
    (hA : ∀ w', Fr (onlyB D) w w' → NumAt w' A f (upN s f)) :
    Calls Try.prog 113 #[.pointer (some ⟨D.gw, 0, none⟩), .slice A f cA] w fun e w' => e = .returned (.tuple #[]) ∧ Hid (Blk w' D.gb 4 (flagsF N fun i => decide (i < s)).toArray) ∧ Hid (Fr (onlyB D) w w') := by
  have HST := hide hst; have HFL := hide hfl; have HA := hide hA
  have hne := hide (show ¬ onlyB D D.gw from blk_ne hst hfl (by decide))
  clear hst hfl hA
  go_enter Try.func113, Try.ntmps113
  go_wp2
  go_loopw [5, 8] (fun _ s8 w' => ∃ j : Nat, j ≤ f ∧ s8 = .int .i64 j ∧ Hid (Blk w' D.gb 4 (flagsF N fun i => decide (i < s) || (decide (s + j ≤ i) && decide (i < s + f))).toArray) ∧ Hid (Fr (onlyB D) w w')) (fun _ s8 _ => f - (intOf s8).toNat)
  case atStart =>
    refine ⟨0, by omega, rfl, ?_, Fr.refl _ _⟩
    have := HFL.out
    rwa [flagsF_congr (p' := fun i => decide (i < s) || (decide (s + 0 ≤ i) && decide (i < s + f))) (fun i _ => by rw [Bool.eq_iff_iff]; simp; omega)] at this
  case round =>
    obtain ⟨j, hj, rfl, hB, hF⟩ := hrel
    by_cases h : j < f
    · obtain ⟨b, off, x, rfl, hx, hb1, d0⟩ := (HA.out wr hF.out).get h
      obtain rfl : x = ((s + j : Nat) : Int) := by rw [upN_get h] at hx; exact (Option.some.inj hx).symm
      have c7 := (HST.out.fr hF.out hne.out).cell 7
      have cb := hB.out.cell (s + j)
      have fb := hB.out.frozen (s + j)
      simp only [WLoc.cells, List.getElem?_toArray, List.getElem?_cons_succ, List.getElem?_cons_zero] at c7
      rw [List.getElem?_toArray, flagsF_get (by omega)] at cb
      clear hx hb1
      go_wp2_with fail
      go_roundw
      case rel =>
        refine ⟨j + 1, by omega, by go_num, ?_, hF.out.setCell (p := ⟨D.gb, s + j, none⟩) (.inl rfl) _⟩
        have := hB.out.set_ (s + j) (.bool false)
        rwa [flagsF_set N _ (fun i => decide (i < s) || (decide (s + (j + 1) ≤ i) && decide (i < s + f))) _ _ (fun i hi => by
          by_cases e : i = s + j
          · rw [if_pos e]; simp; omega
          · rw [if_neg e, Bool.eq_iff_iff]; simp; omega)] at this
      case measure => simp [intOf]; omega
    · go_wp2_with fail
      go_end0
      refine ⟨rfl, ?_, hF.out⟩
      have := hB.out
      rwa [flagsF_congr (p' := fun i => decide (i < s)) (fun i _ => by rw [Bool.eq_iff_iff]; simp; omega)] at this

/-- the numbers of an atom's variables: such as are bound, or the next one -/
def NumFit : Nat → List Nat → Nat → Prop
  | s, [], s' => s = s'
  | s, k :: ks, s' => (k < s ∧ NumFit s ks s') ∨ (k = s ∧ NumFit (s + 1) ks s')
theorem NumFit.le : ∀ {ks : List Nat} {s s' : Nat}, NumFit s ks s' → s ≤ s'
  | [], _, _, h => Nat.le_of_eq h
  | _ :: ks, s, s', h => by
    rcases h with ⟨_, h⟩ | ⟨_, h⟩
    · exact NumFit.le h
    · have := NumFit.le h; omega
/-- so far joined -/
def JI (val : List V) (ks : List Nat) (ms : List V) (s' j f : Nat) (val' : List V) : Prop :=
  joinP val ks ms = joinP val' (ks.drop j) (ms.drop j) ∧ NumFit val'.length (ks.drop j) s' ∧ val'.take val.length = val ∧ val'.length = val.length + f
section
variable {val : List V} {ks : List Nat} {ms : List V} {s' j f : Nat} {val' : List V} {v : Nat} {x : V}
theorem JI.start (h : NumFit val.length ks s') : JI val ks ms s' 0 0 val := ⟨by simp, by simpa using h, by simp, rfl⟩
theorem JI.fit (h : JI val ks ms s' j f val') (hk : ks[j]? = some v) : (v < val'.length ∧ NumFit val'.length (ks.drop (j + 1)) s') ∨ (v = val'.length ∧ NumFit (val'.length + 1) (ks.drop (j + 1)) s') := by
  obtain ⟨h1, e1⟩ := List.getElem?_eq_some_iff.1 hk
  have := h.2.1
  rw [List.drop_eq_getElem_cons h1, e1] at this
  exact this
theorem JI.step (h : JI val ks ms s' j f val') (hk : ks[j]? = some v) (hx : ms[j]? = some x) : joinP val ks ms =
    if v < val'.length then (if getB val' v x then joinP val' (ks.drop (j + 1)) (ms.drop (j + 1)) else none) else joinP (val' ++ [x]) (ks.drop (j + 1)) (ms.drop (j + 1)) := by
  obtain ⟨h1, e1⟩ := List.getElem?_eq_some_iff.1 hk
  obtain ⟨h2, e2⟩ := List.getElem?_eq_some_iff.1 hx
  rw [h.1, List.drop_eq_getElem_cons h1, List.drop_eq_getElem_cons h2, e1, e2]
  rfl
theorem JI.old (h : JI val ks ms s' j f val') (hk : ks[j]? = some v) (hx : ms[j]? = some x) (hv : v < val'.length) : ∃ y, val'[v]? = some y ∧ (sameV y x = true → JI val ks ms s' (j + 1) f val') ∧ (sameV y x = false → joinP val ks ms = none) := by
  have hy : val'[v]? = some val'[v] := List.getElem?_eq_getElem hv
  refine ⟨val'[v], hy, fun hs => ⟨?_, ?_, h.2.2.1, h.2.2.2⟩, fun hs => ?_⟩
  · rw [h.step hk hx, if_pos hv, getB_of hy, if_pos hs]
  · rcases h.fit hk with ⟨_, h3⟩ | ⟨h3, _⟩
    · exact h3
    · omega
  · rw [h.step hk hx, if_pos hv, getB_of hy, hs]; rfl
theorem JI.new (h : JI val ks ms s' j f val') (hk : ks[j]? = some v) (hx : ms[j]? = some x) (hv : ¬ v < val'.length) : v = val'.length ∧ v + 1 ≤ s' ∧ JI val ks ms s' (j + 1) (f + 1) (val' ++ [x]) := by
  rcases h.fit hk with ⟨h3, _⟩ | ⟨h3, h4⟩
  · exact absurd h3 hv
  · refine ⟨h3, by have := h4.le; omega, ?_, by simpa using h4, ?_, by simp [h.2.2.2]; omega⟩
    · rw [h.step hk hx, if_neg hv]
    · rw [List.take_append_of_le_length (by rw [h.2.2.2]; omega)]
      exact h.2.2.1
theorem JI.end_ (h : JI val ks ms s' j f val') (hj : ks.length ≤ j) : joinP val ks ms = some val' ∧ val'.length = s' := by
  have h2 := h.2.1
  rw [List.drop_of_length_le hj] at h2
  refine ⟨?_, h2⟩
  rw [h.1, List.drop_of_length_le hj]; simp [joinP]
end
def onlyVB (D : WLoc) : Nat → Prop := fun g => g = D.gv ∨ g = D.gb
/-- what bind hands back -/
def RetB (D : WLoc) (N k c s : Nat) (w0 : World) (val : List V) (tr : List Value) (res : Option (List V)) (en : Ending) (w' : World) : Prop :=
  (∀ val', res = some val' → ∃ F cF, en = .returned (.tuple #[.slice F (s - val.length) cF, .bool true]) ∧ val'.length = s ∧ val'.take val.length = val ∧
      w'.ownsRow w0.heap.size 3 1 (.slice F (s - val.length) cF) (s - val.length) ((upN val.length (s - val.length)).map (Value.int .i64)) ∧ WSt D N k w' val' tr c) ∧
  (res = none → en = .returned (.tuple #[.slice none 0 0, .bool false]) ∧ WSt D N k w' val tr c) ∧ Fr (onlyVB D) w0 w'

theorem WSt.value {D : WLoc} {N k c : Nat} {w : World} {val : List V} {tr : List Value} (h : WSt D N k w val tr c) {v : Nat} {y : V} (hy : val[v]? = some y) :
    w.cell? ⟨D.gv, v * 3, none⟩ = some (.int .i64 y.k) ∧ w.cell? ⟨D.gv, v * 3 + 1, none⟩ = some (.int .i64 y.i) ∧ w.cell? ⟨D.gv, v * 3 + 2, none⟩ = some (.string y.t) := by
  obtain ⟨cs, hb, hsz, ht⟩ := h.vals
  have hv := (List.getElem?_eq_some_iff.1 hy).1
  have key : ∀ i, i < 3 → w.cell? ⟨D.gv, v * 3 + i, none⟩ = y.cells[i]? := fun i hi => by
    rw [hb.cell, ← cellsR_get val v y i hy hi, ← ht, List.getElem?_take, if_pos (by omega), Array.getElem?_toList]
  exact ⟨key 0 (by omega), key 1 (by omega), key 2 (by omega)⟩

theorem cellsR_take : ∀ (r : List V) (n : Nat), cellsR (r.take n) = (cellsR r).take (n * 3)
  | [], n => by simp [cellsR]
  | v :: r, 0 => by simp [cellsR]
  | v :: r, n + 1 => by
    rw [List.take_succ_cons, show (n + 1) * 3 = n * 3 + 3 by omega]
    simp only [cellsR, V.cells, cellsR_take r n]
    rfl
theorem WSt.cut {D : WLoc} {N k c : Nat} {w w' : World} {val val' : List V} {tr : List Value} (h : WSt D N k w val' tr c) (ht : val'.take val.length = val) (hfl : Blk w' D.gb 4 (flagsF N fun i => decide (i < val.length)).toArray) (hF : Fr (onlyB D) w w') : WSt D N k w' val tr c := by
  have h4 := h.four
  obtain ⟨cs, h1, h2, h3⟩ := h.vals
  obtain ⟨ts, t1, t2⟩ := h.tried
  have hle : val.length ≤ val'.length := by rw [← ht, List.length_take]; omega
  refine ⟨h.st.fr hF h4.wb, ⟨cs, h1.fr hF h4.vb, h2, ?_⟩, hfl, ⟨ts, t1.fr hF (Ne.symm h4.bt), t2⟩, Nat.le_trans hle h.le⟩
  have h5 := congrArg (List.take (val.length * 3)) h3
  rw [List.take_take, Nat.min_eq_left (by omega), ← cellsR_take, ht] at h5
  exact h5
set_option maxRecDepth 100000 in
set_option maxHeartbeats 1000000 in
theorem bind_any (D : WLoc) (N k c s' : Nat) (ks : List Nat) (ms val : List V) (tr : List Value) (A B : Option Addr) (n cA cB : Nat) (w : World) (hN : N ≤ 1048576) (hn : n ≤ 1048576)
    (hst : WSt D N k w val tr c) (hfit : NumFit val.length ks s') (hs' : s' ≤ N) (hl : ms.length = n)
    (hA : ∀ w', Fr (onlyVB D) w w' → NumAt w' A n (ks.map Int.ofNat)) (hB : ∀ w', Fr (onlyVB D) w w' → RowAt w' B n ms) :
    Calls Try.prog 112 #[.pointer (some ⟨D.gw, 0, none⟩), .slice A n cA, .slice B n cB] w (RetB D N k c s' w val tr (joinP val ks ms)) := by
  have HST := hide hst; have HA := hide hA; have HB := hide hB
  have hne := hide (show ¬ onlyVB D D.gw from fun e => by
    obtain ⟨cs, hb, _⟩ := hst.vals
    rcases e with e | e
    · exact blk_ne hst.st hb (by decide) e
    · exact blk_ne hst.st hst.flags (by decide) e)
  have hvb := hide (show D.gv ≠ D.gb from by
    obtain ⟨cs, hb, _⟩ := hst.vals
    exact blk_ne hb hst.flags (by decide))
  have HJ := hide (JI.start (ms := ms) hfit)
  have hkl := hide (show ks.length = n from by have := (hA w (Fr.refl _ _)).len; simp at this; omega)
  have hle := hst.le
  clear hst hA hB hfit
  obtain ⟨i0, hi0, hz0, hz1, hz2⟩ := info_parts infoI
  go_enter Try.func112, Try.ntmps112
  go_wp2
  go_loopw [6, 8, 9, 12] (fun s6 _ _ s12 w' => ∃ (j f : Nat) (val' : List V) (F : Option Addr) (cF : Nat), j ≤ n ∧ val.length + f ≤ N ∧ s12 = .int .i64 j ∧ s6 = .slice F f cF ∧ Hid (JI val ks ms s' j f val') ∧ Hid (w'.ownsRow w.heap.size 3 1 (.slice F f cF) f ((upN val.length f).map (Value.int .i64))) ∧ Hid (WSt D N k w' val' tr c) ∧ Hid (Fr (onlyVB D) w w')) (fun _ _ _ s12 _ => n - (intOf s12).toNat)
  case atStart => exact ⟨0, 0, val, _, _, by omega, by omega, rfl, rfl, HJ.out, World.ownsRow_nil _ _ _ _, HST.out, Fr.refl _ _⟩
  case round =>
    obtain ⟨j, f, val', F, cF, hj, hf, rfl, rfl, hJ, ho, hS, hF⟩ := hrel
    have HFL := hide hJ.out.2.2.2
    by_cases h : j < n
    · obtain ⟨b, off, x, rfl, hx, hb1, d0⟩ := (HA.out wr hF.out).get h
      obtain ⟨b', off', y, rfl, hy, hb2, e0, e1, e2⟩ := (HB.out wr hF.out).get h
      obtain ⟨v, hv, rfl⟩ : ∃ v : Nat, ks[j]? = some v ∧ x = (v : Int) := by
        rw [List.getElem?_map] at hx
        cases hk : ks[j]? with
        | none => rw [hk] at hx; simp at hx
        | some v => rw [hk] at hx; exact ⟨v, rfl, by simpa using hx.symm⟩
      have HV := hide hv; have HY := hide hy
      have c6 := (HST.out.st.fr hF.out hne.out).cell 6
      have c7 := (HST.out.st.fr hF.out hne.out).cell 7
      simp only [WLoc.cells, List.getElem?_toArray, List.getElem?_cons_succ, List.getElem?_cons_zero] at c6 c7
      clear hx hb1 hb2 hv hy
      by_cases hvl : v < val'.length
      · obtain ⟨z, hz, hj1, hj2⟩ := hJ.out.old HV.out HY.out hvl
        have HJ1 := hide hj1; have HJ2 := hide hj2
        obtain ⟨g0, g1, g2⟩ := hS.out.value hz
        have hvN : v < N := by have := hS.out.le; omega
        have cb := hS.out.flags.cell v
        rw [List.getElem?_toArray, flagsF_get hvN, show decide (v < val'.length) = true from by simpa using hvl] at cb
        clear hj1 hj2 hz
        go_wp2_with fail
        have c6 := cell_ext c6
        have c7 := cell_ext c7
        have e0 := cell_ext e0
        have e1 := cell_ext e1
        have e2 := cell_ext e2
        have g0 := cell_ext g0
        have g1 := cell_ext g1
        have g2 := cell_ext g2
        have cb := cell_ext cb
        refine wp_region_ext 21 (by kernel_rfl) (by kernel_rfl) (by kernel_rfl) ?_
        iterate 19
          refine wpE_k (by kernel_rfl) (by kernel_rfl) ?_
          apply Exists.intro
          refine ⟨fun w1 hw1 => ?_, fun K hK => ?_⟩
          · go_simp; first | done | rfl
          go_simp; refine hK _ _ ?_; clear hK K
        refine wpE_k (by kernel_rfl) (by kernel_rfl) ?_
        refine ⟨.bool (!sameV z y), fun w1 hw1 => ?_, fun K hK => ?_⟩
        · clear c6 c7 e0 e1 e2 g0 g1 g2 cb
          go_simp
          unfold sameV
          have ht := toList_iff z.t y.t
          by_cases h1 : z.k = y.k <;> by_cases h2 : z.i = y.i <;> by_cases h3 : z.t = y.t <;> simp [h1, h2, h3, ht]
        clear c6 c7 e0 e1 e2 g0 g1 g2 cb
        go_simp; refine hK _ _ ?_; clear hK K
        iterate 1
          refine wpE_k (by kernel_rfl) (by kernel_rfl) ?_
          apply Exists.intro
          refine ⟨fun w1 hw1 => ?_, fun K hK => ?_⟩
          · go_simp; first | done | rfl
          go_simp; refine hK _ _ ?_; clear hK K
        refine wpE_nil ⟨rfl, by kernel_rfl, fun wq hwq => ?_⟩
        simp only [EndQ]
        refine wpList_nil ?_
        have HP := hide (hS.out.ext hwq)
        have HO := hide (own_ext ho.out hwq)
        have HFq := hide (hF.out.ext hwq)
        clear ho hS hF hwq d0
        by_cases hs : sameV z y = true
        · have he1 : (!sameV z y) = false := by rw [hs]; rfl
          simp only [he1]
          have He := hide hs; clear hs he1
          have c7 := HP.out.st.cell 7
          simp only [WLoc.cells, List.getElem?_toArray, List.getElem?_cons_succ, List.getElem?_cons_zero] at c7
          have cb := HP.out.flags.cell v
          rw [List.getElem?_toArray, flagsF_get hvN, show decide (v < val'.length) = true from by simpa using hvl] at cb
          go_wp2_with fail
          go_roundw
          case rel => exact ⟨j + 1, f, val', F, cF, by omega, hf, by go_num, rfl, HJ1.out He.out, HO.out, HP.out, HFq.out⟩
          case measure => simp [intOf]; omega
        · have hs2 : sameV z y = false := by simpa using hs
          have he1 : (!sameV z y) = true := by rw [hs2]; rfl
          simp only [he1]
          have He := hide hs2; clear hs hs2 he1
          have hlt := hide HST.out.lt
          have HFR := hide (free_any D N k c val.length f F cF wq hN hf HP.out.st (by have := HP.out.flags; rwa [HFL.out] at this) (fun w1 h1 => NumAt.own (own_fr HO.out h1 (fun g hg e => by have h2 := (HO.out.lt g hg).1; have h3 := hlt.out; simp only [onlyB] at e; omega))))
          go_wp2_with fail
          refine HFR.out.mono ?_
          rintro e w5 ⟨rfl, hB5, hF5⟩
          go_wp2_with fail
          go_ret2
          refine ⟨fun val2 e => ?_, fun _ => ⟨rfl, HP.out.cut hJ.out.2.2.1 hB5.out hF5.out⟩, HFq.out.trans (hF5.out.mono fun g _ h => .inr h)⟩
          rw [HJ2.out He.out] at e; cases e
      · obtain ⟨hv2, hv3, hj3⟩ := hJ.out.new HV.out HY.out hvl
        have HJ3 := hide hj3
        have hvN : v < N := by omega
        have HV2 := hide hv2
        clear hv2
        have cb := hS.out.flags.cell v
        rw [List.getElem?_toArray, flagsF_get hvN, show decide (v < val'.length) = false from by simpa using hvl] at cb
        clear hj3
        go_wp2_with fail
        have CB := hide cb; have C6 := hide c6; have C7 := hide c7
        have c6 := cell_ext c6
        have c7 := cell_ext c7
        have cb := cell_ext cb
        refine wp_region_ext 21 (by kernel_rfl) (by kernel_rfl) (by kernel_rfl) ?_
        iterate 21
          refine wpE_k (by kernel_rfl) (by kernel_rfl) ?_
          apply Exists.intro
          refine ⟨fun w1 hw1 => ?_, fun K hK => ?_⟩
          · go_simp; first | done | rfl
          go_simp; refine hK _ _ ?_; clear hK K
        refine wpE_nil ⟨rfl, by kernel_rfl, fun wq hwq => ?_⟩
        simp only [EndQ]
        refine wpList_nil ?_
        clear c6 c7 cb
        have c6 := hwq.cell C6.out
        have c7 := hwq.cell C7.out
        have cb := hwq.cell CB.out
        have e0 := hwq.cell e0
        have e1 := hwq.cell e1
        have e2 := hwq.cell e2
        go_wp2_with fail
        have fb : wq.frozen? ⟨D.gb, v, none⟩ = false := (hS.out.flags.ext hwq).frozen v
        obtain ⟨cs, hb, hsz, ht⟩ := hS.out.vals
        have hlt3 : v * 3 + 2 < cs.size := by omega
        have hbs := (hb.ext hwq).far (p := ⟨D.gb, v, none⟩) hvb.out (.bool true)
        obtain ⟨z0, k0⟩ : ∃ z, (wq.setCell ⟨D.gb, v, none⟩ (.bool true)).cell? ⟨D.gv, v * 3, none⟩ = some z := ⟨cs[v * 3], by rw [hbs.cell, Array.getElem?_eq_getElem]⟩
        obtain ⟨z1, k1⟩ : ∃ z, (wq.setCell ⟨D.gb, v, none⟩ (.bool true)).cell? ⟨D.gv, v * 3 + 1, none⟩ = some z := ⟨cs[v * 3 + 1], by rw [hbs.cell, Array.getElem?_eq_getElem]⟩
        obtain ⟨z2, k2⟩ : ∃ z, (wq.setCell ⟨D.gb, v, none⟩ (.bool true)).cell? ⟨D.gv, v * 3 + 2, none⟩ = some z := ⟨cs[v * 3 + 2], by rw [hbs.cell, Array.getElem?_eq_getElem]⟩
        have f0 := hbs.frozen (v * 3)
        have f1 := hbs.frozen (v * 3 + 1)
        have f2 := hbs.frozen (v * 3 + 2)
        clear hbs
        have HB3 := hide hb; have HSZ := hide hsz; have HT := hide ht
        clear hb hsz ht
        have HP := hide (hS.out.ext hwq)
        have HO := hide (own_ext ho.out hwq)
        have HFq := hide (hF.out.ext hwq)
        clear ho hS hF
        go_region
        have HV2' := HV2.out
        subst HV2'
        have HP2 := hide (((HP.out.push hvN y)).ext (Ext.drew _))
        have HF2 := hide (((((HFq.out.setCell (p := ⟨D.gb, val'.length, none⟩) (.inl (.inr rfl)) (.bool true)).setCell (p := ⟨D.gv, val'.length * 3, none⟩) (.inl (.inl rfl)) (.int .i64 y.k)).setCell (p := ⟨D.gv, val'.length * 3 + 1, none⟩) (.inl (.inl rfl)) (.int .i64 y.i)).setCell (p := ⟨D.gv, val'.length * 3 + 2, none⟩) (.inl (.inl rfl)) (.string y.t)).drew)
        have hou := HO.out
        have hlt := HST.out.lt
        have hvn : ∀ g, (Value.slice F f cF).ownBlock = some g → w.heap.size ≤ g := fun g hg => (hou.lt g hg).1
        have HO2 := hide (own_fr (S := onlyVB D) (w' := ((((wq.setCell ⟨D.gb, val'.length, none⟩ (.bool true)).setCell ⟨D.gv, val'.length * 3, none⟩ (.int .i64 y.k)).setCell ⟨D.gv, val'.length * 3 + 1, none⟩ (.int .i64 y.i)).setCell ⟨D.gv, val'.length * 3 + 2, none⟩ (.string y.t)).drew) hou
          ((((((Fr.refl (onlyVB D) wq).setCell (p := ⟨D.gb, val'.length, none⟩) (.inl (.inr rfl)) (.bool true)).setCell (p := ⟨D.gv, val'.length * 3, none⟩) (.inl (.inl rfl)) (.int .i64 y.k)).setCell (p := ⟨D.gv, val'.length * 3 + 1, none⟩) (.inl (.inl rfl)) (.int .i64 y.i)).setCell (p := ⟨D.gv, val'.length * 3 + 2, none⟩) (.inl (.inl rfl)) (.string y.t)).drew)
          (fun g hg e => by have := hvn g hg; rcases e with rfl | rfl <;> omega))
        clear hvn hou
        generalize ((((wq.setCell ⟨D.gb, val'.length, none⟩ (.bool true)).setCell ⟨D.gv, val'.length * 3, none⟩ (.int .i64 y.k)).setCell ⟨D.gv, val'.length * 3 + 1, none⟩ (.int .i64 y.i)).setCell ⟨D.gv, val'.length * 3 + 2, none⟩ (.string y.t)).drew = w8 at *
        have Hsrc := hide (sl_lit w8 [.int .i64 (val'.length : Int)] 3 1 1 rfl)
        clear k0 k1 k2 f0 f1 f2 fb cb c6 c7 e0 e1 e2 d0
        go_wp2_with (at_builtin; refine wpList_append_b rfl (.tmp 65) (.tmp 67) _ rfl 3 i0 _ 1 8 Try.underlying100 hi0 hz0 hz1 hz2 rfl (by omega) w.heap.size (Nat.le_trans HF2.out.size (Ext.alloc _ _).size) _ f ((upN val.length f).map (Value.int .i64)) rfl (own_ext HO2.out (Ext.alloc _ _)) _ 1 1 [.int .i64 (val'.length : Int)] rfl Hsrc.out (fun v h => by obtain rfl := List.mem_singleton.1 h; rfl) (by unfold maxLen; omega) (by omega) ?_; intro A9 c9 w9 own9 G9 B9)
        go_roundw
        case rel =>
          have haway : D.away (fun g => (Value.slice F f cF).ownBlock = some g) := by
            refine ⟨fun e => ?_, fun e => ?_, fun e => ?_, fun e => ?_⟩ <;> (have := B9.out _ e; omega)
          refine ⟨j + 1, f + 1, val' ++ [y], A9, c9, by omega, by have := HFL.out; have := HV2.out; omega, by go_num, rfl, HJ3.out, ?_, (HP2.out.ext (Ext.alloc _ _)).fr (Fr.of_grown G9.out) haway, (HF2.out.alloc _).grown G9.out (fun g hg => .inr (B9.out g hg))⟩
          have := own9.out
          rw [Hid, upN_snoc, List.map_append, ← HFL.out]
          exact this
        case measure => simp [intOf]; omega
    · have hend := hJ.out.end_ (by have := hkl.out; omega)
      have HE := hide hend.1; have HE2 := hide hend.2
      clear hend
      go_wp2_with fail
      go_ret2
      have hf2 : f = s' - val.length := by have := HFL.out; have := HE2.out; omega
      refine ⟨fun val2 e => ?_, fun e => ?_, hF.out⟩
      · rw [HE.out] at e
        obtain rfl := Option.some.inj e
        rw [← hf2]
        exact ⟨F, cF, rfl, HE2.out, hJ.out.2.2.1, ho.out, hS.out⟩
      · rw [HE.out] at e; cases e
end Go.Proofs.Ytpfjkjmimmklcaa

namespace Go.Proofs.Ytpfjkjmimmklcaa
open Go.RowKit

/-- what lies and is only read, whatever of S turns: the levels' rows and numbers, the head's numbers, the atoms -/
structure WFix (D : WLoc) (lvs : List Lv) (hs : List Nat) (S : Nat → Prop) (W0 : World) : Prop where
  rows : ∃ A c, D.R = .slice A lvs.length c ∧ ∀ i l, lvs[i]? = some l → ∃ b off A9 c9 cells, A = some ⟨b, off, none⟩ ∧ ∀ w', Fr S W0 w' →
    w'.cell? ⟨b, off + i, none⟩ = some (.slice A9 l.rows.length c9) ∧ Sl w' A9 l.rows.length 1 cells ∧ Els RRow 1 w' cells l.rows
  vars : ∃ A c, D.Vs = .slice A lvs.length c ∧ ∀ i l, lvs[i]? = some l → ∃ b off A9 c9, A = some ⟨b, off, none⟩ ∧ ∀ w', Fr S W0 w' →
    w'.cell? ⟨b, off + i, none⟩ = some (.slice A9 l.ks.length c9) ∧ NumAt w' A9 l.ks.length (l.ks.map Int.ofNat)
  head : ∃ A c, D.H = .slice A hs.length c ∧ ∀ w', Fr S W0 w' → NumAt w' A hs.length (hs.map Int.ofNat)
  atoms : ∀ w', Fr S W0 w' → LAt RA 2 w' D.L.B D.L.m (lvs.map Lv.a)
/-- the levels' numbers fit one behind the other -/
def FitL : List Lv → Nat → Nat → Prop
  | [], s, N => s = N
  | l :: ls, s, N => ∃ s', NumFit s l.ks s' ∧ FitL ls s' N
theorem NumFit.all : ∀ {ks : List Nat} {s s' : Nat}, NumFit s ks s' → ∀ x ∈ ks, x < s'
  | [], _, _, _, x, hx => by cases hx
  | k :: ks, s, s', h, x, hx => by
    rcases h with ⟨h1, h⟩ | ⟨h1, h⟩
    · have := h.le
      rcases List.mem_cons.1 hx with rfl | hx
      · omega
      · exact NumFit.all h x hx
    · have := h.le
      rcases List.mem_cons.1 hx with rfl | hx
      · omega
      · exact NumFit.all h x hx
theorem FitL.le : ∀ {ls : List Lv} {s N : Nat}, FitL ls s N → s ≤ N
  | [], _, _, h => Nat.le_of_eq h
  | _ :: _, _, _, ⟨_, h1, h2⟩ => Nat.le_trans h1.le h2.le
/-- a level of bounded size -/
structure Lv.Ok (l : Lv) : Prop where
  ks : l.ks.length = (varsA l.a).length
  terms : l.a.terms.length ≤ 1048576
  rowsL : l.rows.length ≤ 1099511627776
  rows : ∀ r ∈ l.rows, r.length ≤ 1048576
theorem matchGo_len (vars : List ByteArray) : ∀ (ts : List Tm) (r out m : List V), ts.length = r.length → matchGo vars ts r out = some m → True := fun _ _ _ _ _ _ => trivial
theorem matchA_len {a : Atm} {r m : List V} (h : matchA a r = some m) : m.length = (varsA a).length := by
  unfold matchA at h
  split at h
  · rename_i hl
    have key : ∀ (n i : Nat) (out : List V), a.terms.length - i = n → MI a.terms r i out → matchGo (addTs [] a.terms) a.terms r [] = some m → m.length = (addTs [] a.terms).length := by
      intro n
      induction n with
      | zero =>
        intro i out hn hI hm
        rw [hI.end_ (by omega)] at hm
        obtain rfl := Option.some.inj hm
        rw [hI.2, List.take_of_length_le (by omega)]
      | succ n ih =>
        intro i out hn hI hm
        have h1 : a.terms[i]? = some a.terms[i] := List.getElem?_eq_getElem (by omega)
        have h2 : r[i]? = some r[i] := List.getElem?_eq_getElem (by omega)
        cases hv : noVar a.terms[i] with
        | true =>
          cases hs : sameV r[i] a.terms[i].c with
          | true => exact ih (i + 1) out (by omega) (hI.const h1 h2 hv hs) hm
          | false => rw [hI.constBad h1 h2 hv hs] at hm; cases hm
        | false =>
          cases hmm : memB (addTs [] (a.terms.take i)) a.terms[i].v with
          | false => exact ih (i + 1) _ (by omega) (hI.new h1 h2 hv hmm) hm
          | true =>
            obtain ⟨k, y, _, _, _, h4, h5⟩ := hI.old h1 h2 hv hmm
            cases hs : sameV y r[i] with
            | true => exact ih (i + 1) out (by omega) (h4 hs) hm
            | false => rw [h5 hs] at hm; cases hm
    exact key _ 0 [] rfl MI.start h
  · cases h
/-- the head's values -/
def headV (hs : List Nat) (val : List V) : List V := hs.map fun h => val.getD h zeroV
/-- the blocks of the walk -/
def WLoc.S4 (D : WLoc) : Nat → Prop := fun g => g = D.gw ∨ g = D.gv ∨ g = D.gb ∨ g = D.gt
/-- rows that were tried: where they lie nothing turns -/
def TrOk (S : Nat → Prop) (W0 : World) (tr : List Value) (trl : List (List V)) : Prop := (∀ r ∈ trl, r.length ≤ 1048576) ∧ ∀ w', Fr S W0 w' → Els RRow 1 w' tr trl
end Go.Proofs.Ytpfjkjmimmklcaa

namespace Go.Proofs.Ytpfjkjmimmklcaa
open Go.RowKit

/-- the rows that were tried last, as the walk keeps them: they lie where nothing turns -/
def Tried (D : WLoc) (S : Nat → Prop) (W0 : World) (k : Nat) (rows : List (List V)) (w : World) : Prop := ∃ ts : Array Value, Blk w D.gt 35 ts ∧ ts.size = k ∧ rows.length = k ∧ TrOk S W0 ts.toList rows
theorem Tried.lat {D : WLoc} {S : Nat → Prop} {W0 w : World} {k : Nat} {rows : List (List V)} (h : Tried D S W0 k rows w) (hF : Fr S W0 w) : LAt RRow 1 w (some ⟨D.gt, 0, none⟩) k rows := by
  obtain ⟨ts, h1, h2, h3, h4⟩ := h
  exact ⟨by show k = rows.length; omega, _, h4.2 w hF, h1.sl (by omega)⟩
/-- what is yielded to: it goes on, or it stops -/
structure Yields (D : WLoc) (SY : Nat → Prop) (W0 : World) (base k : Nat) (hs : List Nat) (l : Nat) (st : Leaf → Bool) (J Jx : List Leaf → World → Prop) : Prop where
  keep : ∀ pre w w', J pre w → Fr D.S4 w w' → J pre w'
  keepx : ∀ pre w w', Jx pre w → Fr D.S4 w w' → Jx pre w'
  call : ∀ pre (x : Leaf) w A c, pre.length ≤ 131072 → J pre w → Fr (fun g => D.S4 g ∨ SY g) W0 w → w.ownsRow W0.heap.size 58 3 (.slice A hs.length c) hs.length (cellsR (headV hs x.1)) → Tried D (fun g => D.S4 g ∨ SY g) W0 k x.2 w →
    ∃ fn tmps assign body, (Instr.yield l #[.agg #[.slice A hs.length c, .slice (some ⟨D.gt, 0, none⟩) k k]]).run Try.prog w = .ok (.round l fn tmps assign body) w ∧
      RoundIn Fence.wide 0 Try.prog l fn tmps assign body w fun e w' => Fq SY W0.heap.size w w' ∧ ((st x = false ∧ e = .returned (.bool true) ∧ J (pre ++ [x]) w') ∨ (st x = true ∧ e = .returned (.bool false) ∧ Jx (pre ++ [x]) w'))

def tooMany : List PanicEntry := [{ v := .iface 144 (.agg #[]), recovered := false }]
/-- how a walk from here ends -/
def RetW (D : WLoc) (S : Nat → Prop) (base N k c : Nat) (w0 : World) (J Jx : List Leaf → World → Prop) (val : List V) (tr : List Value) (pre : List Leaf) (v : Nat × List Leaf × Bool) (en : Ending) (w' : World) : Prop :=
  Fq S base w0 w' ∧ ((c + v.1 ≤ 131072 ∧ en = .returned (.bool (!v.2.2)) ∧ WSt D N k w' val tr (c + v.1) ∧ (v.2.2 = false → J (pre ++ v.2.1) w') ∧ (v.2.2 = true → Jx (pre ++ v.2.1) w')) ∨ (131072 < c + v.1 ∧ en = .panicked tooMany ∧ ∃ pre', J pre' w'))

/-- a block of values that is being filled from its head on -/
def Fil (w : World) (g n : Nat) (vals : List V) : Prop := ∃ cs : Array Value, Blk w g 58 cs ∧ cs.size = n * 3 ∧ cs.toList.take (vals.length * 3) = cellsR vals
theorem Fil.made (w : World) (n : Nat) : Fil (w.alloc (.cells (madeCells #[Value.int .i64 0, Value.int .i64 0, Value.string ByteArray.empty] (n * 3)) 58)) w.heap.size n [] :=
  ⟨_, Blk.new _ _ _, by rw [size_madeCells], by simp [cellsR]⟩
theorem Fil.push {w : World} {g n : Nat} {vals : List V} (h : Fil w g n vals) (hv : vals.length < n) (y : V) :
    Fil (((w.setCell ⟨g, vals.length * 3, none⟩ (.int .i64 y.k)).setCell ⟨g, vals.length * 3 + 1, none⟩ (.int .i64 y.i)).setCell ⟨g, vals.length * 3 + 2, none⟩ (.string y.t)) g n (vals ++ [y]) := by
  obtain ⟨cs, h1, h2, h3⟩ := h
  refine ⟨_, ((h1.set_ _ _).set_ _ _).set_ _ _, by simp [h2], ?_⟩
  have hlen : (cellsR vals).length = vals.length * 3 := cellsR_len vals
  obtain ⟨c0, c1, c2, hc⟩ := take3 (cs := cs.toList) (n := vals.length) (by simp; omega)
  rw [h3] at hc
  rw [Array.toList_setIfInBounds, Array.toList_setIfInBounds, Array.toList_setIfInBounds, List.length_append, List.length_singleton, List.take_set, List.take_set, List.take_set, hc, cellsR_append]
  simp [hlen, cellsR, V.cells]
theorem Fil.get {w : World} {g n : Nat} {vals : List V} (h : Fil w g n vals) {j : Nat} (hj : j < n) : ∃ u0 u1 u2, w.cell? ⟨g, j * 3, none⟩ = some u0 ∧ w.cell? ⟨g, j * 3 + 1, none⟩ = some u1 ∧ w.cell? ⟨g, j * 3 + 2, none⟩ = some u2 ∧ w.frozen? ⟨g, j * 3, none⟩ = false ∧ w.frozen? ⟨g, j * 3 + 1, none⟩ = false ∧ w.frozen? ⟨g, j * 3 + 2, none⟩ = false := by
  obtain ⟨cs, h1, h2, h3⟩ := h
  exact ⟨cs[j * 3], cs[j * 3 + 1], cs[j * 3 + 2], by rw [h1.cell, Array.getElem?_eq_getElem], by rw [h1.cell, Array.getElem?_eq_getElem], by rw [h1.cell, Array.getElem?_eq_getElem], h1.frozen _, h1.frozen _, h1.frozen _⟩
theorem Fil.own {w : World} {g n base : Nat} {vals : List V} (h : Fil w g n vals) (hn : vals.length = n) (hb : base ≤ g) (hm : n ≤ 1048576) : w.ownsRow base 58 3 (.slice (some ⟨g, 0, none⟩) n n) n (cellsR vals) := by
  obtain ⟨cs, h1, h2, h3⟩ := h
  subst hn
  rw [List.take_of_length_le (by simp; omega)] at h3
  exact ⟨cellsR_len vals, .inr ⟨g, _, cs, rfl, hb, h1, Nat.le_refl _, by unfold maxLen; omega, h2, by rw [List.take_of_length_le (by simp; omega)]; exact h3⟩⟩

set_option maxRecDepth 100000 in
set_option maxHeartbeats 1000000 in
theorem atom_leaf (D : WLoc) (SY : Nat → Prop) (W0 : World) (N : Nat) (lvs : List Lv) (hs : List Nat) (l : Nat) (st : Leaf → Bool) (J Jx : List Leaf → World → Prop) (_hk : lvs.length ≤ 1048576) (hh : hs.length ≤ 1048576) (hhN : ∀ x ∈ hs, x < N)
    (hY : Yields D SY W0 W0.heap.size lvs.length hs l st J Jx) (hSt : WFix D lvs hs (fun g => D.S4 g ∨ SY g) W0) (hSY : D.away SY) (hgt : D.gt < W0.heap.size)
    (val : List V) (tr : List Value) (trl : List (List V)) (pre : List Leaf) (c : Nat) (w : World) (hv : val.length = N) (htr : tr.length = lvs.length) (hok : TrOk (fun g => D.S4 g ∨ SY g) W0 tr trl)
    (hJ : J pre w) (hst : WSt D N lvs.length w val tr c) (hF : Fr (fun g => D.S4 g ∨ SY g) W0 w) (hc : c ≤ 131072) (hpc : pre.length ≤ c) :
    Calls Try.prog 89 #[.pointer (some ⟨D.gw, 0, none⟩), .int .i64 lvs.length, .func (.yield l) #[] #[]] w (RetW D (fun g => D.S4 g ∨ SY g) W0.heap.size N lvs.length c w J Jx val tr pre (0, [(val, trl)], st (val, trl))) := by
  obtain ⟨⟨RA_, Rc, hR, -⟩, -, ⟨HA, Hc, hH, hHN⟩, -⟩ := id hSt
  replace hHN := hHN w hF
  have HY := hide hY; have HSt := hide hSt; have HJ := hide hJ; have HST := hide hst; have HF := hide hF; have HOK := hide hok; have HHN := hide hHN
  have hlt := hide hst.lt
  have c3 := hst.st.cell 3
  have c5 := hst.st.cell 5
  have c6 := hst.st.cell 6
  have c8 := hst.st.cell 8
  simp only [WLoc.cells, List.getElem?_toArray, List.getElem?_cons_succ, List.getElem?_cons_zero, hR, hH] at c3 c5 c6 c8
  clear hY hSt hJ hst hF hok hHN hR hH
  obtain ⟨i0, hi0, hz0, hz1, hz2⟩ := info_parts infoV
  have hmk := run_make_n (P := Try.prog) 35 58 i0 _ Try.underlying35 hi0 hz0 (by omega) .i64 .i64 hs.length (by omega)
  go_enter Try.func89, Try.ntmps89
  have HE0 := hide (Ext.alloc w (.cells (madeCells #[Value.int .i64 0, Value.int .i64 0, Value.string ByteArray.empty] (hs.length * 3)) 58))
  have HFl := hide (Fil.made w hs.length)
  have c5' := HE0.out.cell c5
  simp only [hz1] at hmk
  go_wp2_with fail
  have C6 := hide c6; have C8 := hide c8
  clear hmk c3 c5 c5' c6 c8
  generalize hg : w.heap.size = g at *
  have HG := hide hg; clear hg
  generalize w.alloc (.cells (madeCells #[Value.int .i64 0, Value.int .i64 0, Value.string ByteArray.empty] (hs.length * 3)) 58) = w1 at *
  go_loopw [8, 9, 35] (fun _ _ s35 w' => ∃ j : Nat, j ≤ hs.length ∧ s35 = .int .i64 j ∧ Hid (Fil w' g hs.length ((headV hs val).take j)) ∧ Hid (Ext w w')) (fun _ _ s35 _ => hs.length - (intOf s35).toNat)
  case atStart => exact ⟨0, by omega, rfl, by rw [List.take_zero]; exact HFl.out, HE0.out⟩
  case round =>
    obtain ⟨j, hj, rfl, hfl, hE⟩ := hrel
    have hhl : (headV hs val).length = hs.length := by simp [headV]
    by_cases h : j < hs.length
    · obtain ⟨b, off, x, rfl, hx, hb1, d0⟩ := (HHN.out.ext hE.out).get h
      obtain ⟨y, hy, rfl⟩ : ∃ y : Nat, hs[j]? = some y ∧ x = (y : Int) := by
        rw [List.getElem?_map] at hx
        cases hk : hs[j]? with
        | none => rw [hk] at hx; simp at hx
        | some v => rw [hk] at hx; exact ⟨v, rfl, by simpa using hx.symm⟩
      have hyN := hhN y (List.mem_of_getElem? hy)
      have hz : val[y]? = some val[y] := List.getElem?_eq_getElem (by omega)
      obtain ⟨e0, e1, e2⟩ := (HST.out.ext hE.out).value hz
      have c6 := hE.out.cell C6.out
      have hnx := hide (show (headV hs val).take (j + 1) = (headV hs val).take j ++ [val[y]] from take_snoc' _ _ _ (by
        unfold headV
        rw [List.getElem?_map, hy]
        simp [List.getD_eq_getElem?_getD, hz]))
      have htl : ((headV hs val).take j).length = j := by rw [List.length_take]; omega
      have HTL := hide htl
      obtain ⟨u0, u1, u2, f0, f1, f2, f3, f4, f5⟩ := hfl.out.get h
      generalize val[y] = z at *
      clear hx hb1 hz hy htl
      go_wp2_with fail
      go_roundw
      case rel =>
        refine ⟨j + 1, by omega, by go_num, ?_, ((hE.out.setCell (p := ⟨g, j * 3, none⟩) (Nat.le_of_eq HG.out) _).setCell (p := ⟨g, j * 3 + 1, none⟩) (Nat.le_of_eq HG.out) _).setCell (p := ⟨g, j * 3 + 2, none⟩) (Nat.le_of_eq HG.out) _⟩
        have h1 := hfl.out.push (by rw [HTL.out]; exact h) z
        rw [HTL.out] at h1
        rw [Hid, hnx.out]
        exact h1
      case measure => simp [intOf]; omega
    · go_upto_region 8 with fail
      obtain rfl : j = hs.length := by omega
      have hown := hfl.out
      rw [List.take_of_length_le (by omega)] at hown
      have hFw := hide (HF.out.ext hE.out)
      obtain ⟨fn, tmps, assign, body, hy, hR⟩ := HY.out.call pre (val, trl) wr (some ⟨g, 0, none⟩) hs.length (by omega) (HY.out.keep _ _ _ HJ.out (Fr.of_ext hE.out)) hFw.out
        (hown.own hhl (by rw [← HG.out]; exact HF.out.size) hh) (by
          obtain ⟨ts, t1, t2, t3⟩ := (HST.out.ext hE.out).tried
          rw [List.take_of_length_le (by simp; omega)] at t3
          have he := HOK.out.2 wr hFw.out
          rw [← t3] at he
          have h9 := he.len
          rw [Array.length_toList] at h9
          exact ⟨ts, t1, t2, (by show trl.length = lvs.length; omega), by rw [t3]; exact HOK.out⟩)
      have c8 := hE.out.cell C8.out
      have HR := hide hR
      clear hR hown
      refine (wpIn_wide (n := 1)).1 ?_
      gi_wp2_with fail
      refine HR.out.mono ?_
      rintro e w5 ⟨hFy, hcase⟩
      rcases hcase with ⟨hst, rfl, hJ5⟩ | ⟨hst, rfl, hJ5⟩
      · have HFy := hide hFy; have HJ5 := hide hJ5; have HS5 := hide hst
        clear hFy hJ5 hst
        gi_wp2_with fail
        go_wp2_with fail
        go_ret
        rw [Hid] at HS5
        refine ⟨((Fq.of_ext hE.out).trans (HFy.out.mono fun _ => .inr)), .inl ⟨by omega, by rw [HS5]; rfl, ?_, fun _ => HJ5.out, fun e => (by rw [HS5] at e; cases e)⟩⟩
        exact (HST.out.ext hE.out).fq HFy.out hSY hgt
      · have HFy := hide hFy; have HJ5 := hide hJ5; have HS5 := hide hst
        clear hFy hJ5 hst
        gi_wp2_with fail
        go_wp2_with fail
        go_ret
        rw [Hid] at HS5
        refine ⟨((Fq.of_ext hE.out).trans (HFy.out.mono fun _ => .inr)), .inl ⟨by omega, by rw [HS5]; rfl, ?_, fun e => (by rw [HS5] at e; cases e), fun _ => HJ5.out⟩⟩
        exact (HST.out.ext hE.out).fq HFy.out hSY hgt
end Go.Proofs.Ytpfjkjmimmklcaa

namespace Go.Proofs.Ytpfjkjmimmklcaa
open Go.RowKit

section
variable {D : WLoc} {N k c : Nat} {w : World} {val : List V} {tr : List Value}
/-- one trial more -/
theorem WSt.trial (h : WSt D N k w val tr c) (c' : Nat) : WSt D N k (w.setCell ⟨D.gw, 9, none⟩ (.int .i64 c')) val tr c' := by
  have h4 := h.four
  obtain ⟨cs, h1, h2⟩ := h.vals
  obtain ⟨ts, t1, t2⟩ := h.tried
  refine ⟨?_, ⟨cs, h1.far (p := ⟨D.gw, 9, none⟩) (Ne.symm h4.wv) _, h2⟩, h.flags.far (p := ⟨D.gw, 9, none⟩) (Ne.symm h4.wb) _, ⟨ts, t1.far (p := ⟨D.gw, 9, none⟩) (Ne.symm h4.wt) _, t2⟩, h.le⟩
  exact h.st.set_ 9 _
/-- a row is tried -/
theorem WSt.tryRow (h : WSt D N k w val tr c) (hk : tr.length < k) (u : Value) : WSt D N k (w.setCell ⟨D.gt, tr.length, none⟩ u) val (tr ++ [u]) c := by
  have h4 := h.four
  obtain ⟨cs, h1, h2⟩ := h.vals
  obtain ⟨ts, t1, t2, t3⟩ := h.tried
  refine ⟨h.st.far (p := ⟨D.gt, _, none⟩) h4.wt _, ⟨cs, h1.far (p := ⟨D.gt, _, none⟩) h4.vt _, h2⟩, h.flags.far (p := ⟨D.gt, _, none⟩) h4.bt _, ⟨_, t1.set_ _ _, by simp [t2], ?_⟩, h.le⟩
  rw [Array.toList_setIfInBounds, List.length_append, List.length_singleton, List.take_set, take_snoc' _ _ (ts.toList[tr.length]'(by simp; omega)) (List.getElem?_eq_getElem _), t3]
  simp
theorem WSt.less (h : WSt D N k w val tr c) (n : Nat) : WSt D N k w val (tr.take n) c := by
  obtain ⟨ts, t1, t2, t3⟩ := h.tried
  refine ⟨h.st, h.vals, h.flags, ⟨ts, t1, t2, ?_⟩, h.le⟩
  rw [← t3, List.take_take, List.length_take]
  congr 1
  have h9 : tr.length ≤ ts.toList.length := by
    have := congrArg List.length t3
    simp only [List.length_take] at this
    omega
  omega
theorem WSt.triedAt (h : WSt D N k w val tr c) {i : Nat} (hi : i < k) : ∃ u, w.cell? ⟨D.gt, i, none⟩ = some u ∧ w.frozen? ⟨D.gt, i, none⟩ = false := by
  obtain ⟨ts, t1, t2, t3⟩ := h.tried
  exact ⟨ts[i], by rw [t1.cell, Array.getElem?_eq_getElem], t1.frozen _⟩
end
/-- one row more, read alike wherever it lies -/
theorem row_of {w : World} {cells : List Value} {rows : List (List V)} {j : Nat} {r : List V} {A : Option Addr} {n c : Nat} (he : Els RRow 1 w cells rows) (hj : rows[j]? = some r) (hu : cells[j]? = some (.slice A n c)) : RowAt w A n r := by
  obtain ⟨cs, h1, h2, ⟨A', m, c', rfl, h3⟩, h4⟩ := he.get hj
  have h5 := h4 0 (by omega)
  rw [Nat.mul_one, Nat.add_zero, hu] at h5
  have h6 : some (Value.slice A n c) = some (Value.slice A' m c') := h5
  injection h6 with h6
  injection h6 with h7 h8 h9
  rw [h7, h8]; exact h3
theorem TrOk.snoc {S : Nat → Prop} {W0 : World} {tr : List Value} {trl : List (List V)} (h : TrOk S W0 tr trl) {cells : List Value} {rows : List (List V)} {j : Nat} {r : List V} {A : Option Addr} {n c : Nat}
    (hr : ∀ w', Fr S W0 w' → Els RRow 1 w' cells rows) (hj : rows[j]? = some r) (hu : cells[j]? = some (.slice A n c)) (hl : r.length ≤ 1048576) : TrOk S W0 (tr ++ [.slice A n c]) (trl ++ [r]) := ⟨fun s hs => by
    rcases List.mem_append.1 hs with hs | hs
    · exact h.1 s hs
    · rw [List.mem_singleton.1 hs]; exact hl, fun w' hw =>
  (h.2 w' hw).snoc rfl (fun v hv => by obtain rfl := List.mem_singleton.1 hv; rfl) ⟨A, n, c, rfl, row_of (hr w' hw) hj hu⟩⟩
theorem RetM.some_ {w0 w' : World} {m : List V} {n : Nat} {e : Ending} (h : RetM w0 (some m) e w') (hn : m.length = n) :
    ∃ A c, e = .returned (.tuple #[.slice A n c, .bool true]) ∧ w'.ownsRow w0.heap.size 58 3 (.slice A n c) n (cellsR m) ∧ Ext w0 w' := by
  subst hn
  exact h
/-- no more valuations than trials -/
theorem goRows_few {l : Lv} {f : List V → List (List V) → Nat × List Leaf × Bool} (hf : ∀ v tr, (f v tr).2.1.length ≤ (f v tr).1 + 1) (val : List V) (tr : List (List V)) : ∀ rs : List (List V), (goRows l f val tr rs).2.1.length ≤ (goRows l f val tr rs).1
  | [] => by simp [goRows]
  | r :: rs => by
    have ih := goRows_few (l := l) hf val tr rs
    simp only [goRows]
    split
    · simp only; omega
    · rename_i v _
      have h := hf v (tr ++ [r])
      split
      · simp only; omega
      · simp only [List.length_append]; omega
theorem visit_few (st : Leaf → Bool) : ∀ (ls : List Lv) (val : List V) (tr : List (List V)), (visit st ls val tr).2.1.length ≤ (visit st ls val tr).1 + 1
  | [], val, tr => by simp [visit]
  | l :: ls, val, tr => by
    have := goRows_few (l := l) (visit_few st ls) val tr l.rows
    simp only [visit]
    omega
/-- what was bound for the rest is free again -/
theorem free_cut (D : WLoc) (N k c s' b : Nat) (val val' : List V) (tr : List Value) (F : Option Addr) (cF : Nat) (w : World) (hN : N ≤ 1048576) (hvs : val.length ≤ s') (hsN : s' ≤ N) (h1 : val'.length = s') (h2 : val'.take val.length = val)
    (ho : w.ownsRow b 3 1 (.slice F (s' - val.length) cF) (s' - val.length) ((upN val.length (s' - val.length)).map (Value.int .i64))) (hb : D.gb < b) (hst : WSt D N k w val' tr c) :
    Calls Try.prog 113 #[.pointer (some ⟨D.gw, 0, none⟩), .slice F (s' - val.length) cF] w fun e w' => e = .returned (.tuple #[]) ∧ Hid (WSt D N k w' val tr c) ∧ Hid (Fr (onlyB D) w w') := by
  have hfl := hst.flags
  rw [h1, show s' = val.length + (s' - val.length) by omega] at hfl
  refine (free_any D N k c val.length (s' - val.length) F cF w hN (by omega) hst.st hfl fun w' hw => NumAt.own (own_fr ho hw fun g hg hgb => ?_)).mono fun e w' h => ⟨h.1, hst.cut h2 h.2.1.out h.2.2.out, h.2.2⟩
  have h3 := (ho.lt g hg).1
  have h4 : g = D.gb := hgb
  omega
/-- what the call of the rest hands back, by cases -/
def RetW3 (D : WLoc) (S : Nat → Prop) (base N k c : Nat) (w0 : World) (J Jx : List Leaf → World → Prop) (val : List V) (tr : List Value) (pre : List Leaf) (v : Nat × List Leaf × Bool) (en : Ending) (w' : World) : Prop :=
  (en = .returned (.bool true) ∧ Hid (Fq S base w0 w') ∧ Hid (c + v.1 ≤ 131072 ∧ v.2.2 = false) ∧ Hid (WSt D N k w' val tr (c + v.1)) ∧ Hid (J (pre ++ v.2.1) w')) ∨
  (en = .returned (.bool false) ∧ Hid (Fq S base w0 w') ∧ Hid (c + v.1 ≤ 131072 ∧ v.2.2 = true) ∧ Hid (WSt D N k w' val tr (c + v.1)) ∧ Hid (Jx (pre ++ v.2.1) w')) ∨
  (en = .panicked tooMany ∧ Hid (Fq S base w0 w') ∧ Hid (131072 < c + v.1) ∧ Hid (∃ pre', J pre' w'))
theorem RetW.cases {D : WLoc} {S : Nat → Prop} {base N k c : Nat} {w0 : World} {J Jx : List Leaf → World → Prop} {val : List V} {tr : List Value} {pre : List Leaf} {v : Nat × List Leaf × Bool} {en : Ending} {w' : World} (h : RetW D S base N k c w0 J Jx val tr pre v en w') : RetW3 D S base N k c w0 J Jx val tr pre v en w' := by
  obtain ⟨h1, ⟨h2, rfl, h4, h5, h6⟩ | ⟨h2, rfl, h7⟩⟩ := h
  · cases hb : v.2.2 with
    | false => exact .inl ⟨rfl, h1, ⟨h2, hb⟩, h4, h5 hb⟩
    | true => exact .inr (.inl ⟨rfl, h1, ⟨h2, hb⟩, h4, h6 hb⟩)
  · exact .inr (.inr ⟨rfl, h1, h2, h7⟩)

set_option maxRecDepth 100000 in
set_option maxHeartbeats 4000000 in
theorem atom_any (D : WLoc) (SY : Nat → Prop) (W0 : World) (N : Nat) (lvs : List Lv) (hs : List Nat) (lc : Nat) (st : Leaf → Bool) (J Jx : List Leaf → World → Prop) (hk : lvs.length ≤ 1048576) (hN : N ≤ 1048576) (hh : hs.length ≤ 1048576) (hhN : ∀ x ∈ hs, x < N)
    (hOk : ∀ l ∈ lvs, l.Ok) (hY : Yields D SY W0 W0.heap.size lvs.length hs lc st J Jx) (hSt : WFix D lvs hs (fun g => D.S4 g ∨ SY g) W0) (hSY : D.away SY) (hgt : ∀ g, D.S4 g ∨ SY g → g < W0.heap.size) : ∀ (ls : List Lv) (i : Nat) 
    (val : List V) (tr : List Value) (trl : List (List V)) (pre : List Leaf) (c : Nat) (w : World), lvs.drop i = ls → i ≤ lvs.length → FitL ls val.length N → tr.length = i → TrOk (fun g => D.S4 g ∨ SY g) W0 tr trl →
    J pre w → WSt D N lvs.length w val tr c → Fr (fun g => D.S4 g ∨ SY g) W0 w → c ≤ 131072 → pre.length ≤ c →
    Calls Try.prog 89 #[.pointer (some ⟨D.gw, 0, none⟩), .int .i64 i, .func (.yield lc) #[] #[]] w (RetW D (fun g => D.S4 g ∨ SY g) W0.heap.size N lvs.length c w J Jx val tr pre (visit st ls val trl)) := by
  intro ls
  induction ls with
  | nil =>
    intro i val tr trl pre c w hd hi hfit htr hok hJ hst hF hc hpc
    obtain rfl : i = lvs.length := by
      have := List.drop_eq_nil_iff.1 hd
      omega
    exact atom_leaf D SY W0 N lvs hs lc st J Jx hk hh hhN hY hSt hSY (hgt _ (.inl (.inr (.inr (.inr rfl))))) val tr trl pre c w hfit htr hok hJ hst hF hc hpc
  | cons l ls ih =>
    intro i val tr trl pre c w hd hi hfit htr hok hJ hst hF hc hpc
    subst htr
    have hil : tr.length < lvs.length := by
      rcases Nat.lt_or_ge tr.length lvs.length with h | h
      · exact h
      · rw [List.drop_of_length_le h] at hd; cases hd
    have hl : lvs[tr.length]? = some l := by
      rw [List.drop_eq_getElem_cons hil] at hd
      injection hd with h1 h2
      rw [List.getElem?_eq_getElem hil, h1]
    have hd' : lvs.drop (tr.length + 1) = ls := by
      rw [List.drop_eq_getElem_cons hil] at hd
      injection hd
    have hlm := hOk l (List.mem_of_getElem? hl)
    obtain ⟨s', hnf, hfl⟩ := hfit
    obtain ⟨⟨RA_, Rc, hR, hRi⟩, ⟨VA, Vc, hV, hVi⟩, -, hAt⟩ := id hSt
    obtain ⟨rb, ro, R9, rc9, cells, rfl, hrow⟩ := hRi _ l hl
    obtain ⟨vb, vo, V9, vc9, rfl, hvar⟩ := hVi _ l hl
    have HIH := hide ih; have HJ := hide hJ; have HST := hide hst; have HF := hide hF; have HOK := hide hok; have HROW := hide hrow; have HVAR := hide hvar; have HAT := hide hAt
    have HNF := hide hnf; have HFL := hide hfl; have HLK := hide hlm.ks; have HLT := hide hlm.terms; have HLR := hide hlm.rows; have HD := hide hd'; have HL := hide hl; have HY := hide hY; have HGT := hide hgt
    have hks : l.ks.length ≤ 1048576 := by rw [hlm.ks]; exact Nat.le_trans (varsA_len _) hlm.terms
    have hsN : s' ≤ N := hfl.le
    have hvs : val.length ≤ s' := hnf.le
    have hrl := hlm.rowsL
    have hlt := hide hst.lt
    have H4 := hide hst.four
    have c3 := hst.st.cell 3
    simp only [WLoc.cells, List.getElem?_toArray, List.getElem?_cons_succ, List.getElem?_cons_zero, hR] at c3
    have r9 := (hrow w hF).1
    have HV := hide hV; have HR := hide hR
    have hne : ((tr.length : Int) == (lvs.length : Int)) = false := by simp; omega
    clear ih hJ hst hF hok hrow hvar hAt hnf hfl hlm hd' hl hd hY hRi hVi hSt hgt hV hR
    go_enter Try.func89, Try.ntmps89
    go_wp2_with fail
    go_loopw [11, 12, 13, 14, 15, 16, 67] (fun _ _ _ _ _ _ s67 w' => ∃ (j cj : Nat) (prej : List Leaf), j ≤ l.rows.length ∧ cj ≤ 131072 ∧ prej.length ≤ cj ∧ s67 = .int .i64 j ∧ Hid (GoI l (visit st ls) val trl l.rows c pre j cj prej) ∧ Hid (J prej w') ∧ Hid (WSt D N lvs.length w' val tr cj) ∧ Hid (Fq (fun g => D.S4 g ∨ SY g) W0.heap.size w w'))
      (fun _ _ _ _ _ _ s67 _ => l.rows.length - (intOf s67).toNat)
    case atStart => exact ⟨0, c, pre, by omega, hc, hpc, rfl, GoI.start, HJ.out, HST.out, Fq.of_ext (Ext.refl _)⟩
    case round =>
      obtain ⟨j, cj, prej, hj, hcj, hpj, rfl, hG, hJ', hS', hF'⟩ := hrel
      by_cases h : j < l.rows.length
      · have hFr := hide (HF.out.fq hF'.out)
        have hr : l.rows[j]? = some l.rows[j] := List.getElem?_eq_getElem h
        generalize l.rows[j] = r at hr
        obtain ⟨hgo1, hgo2, hgo3⟩ := HROW.out wr hFr.out
        obtain ⟨cs, hcs1, hcs2, ⟨Ar, nr, cr, rfl, hRr⟩, hcs4⟩ := hgo3.get hr
        have hcj9 := hcs4 0 (by omega)
        rw [Nat.mul_one, Nat.add_zero] at hcj9
        replace hcj9 : cells[j]? = some (.slice Ar nr cr) := hcj9
        obtain ⟨b9, o9, rfl, hcell⟩ := hgo2.2 (by omega)
        have d0 := hcell j _ hcj9
        have d9 := hS'.out.st.cell 9
        simp only [WLoc.cells, List.getElem?_toArray, List.getElem?_cons_succ, List.getElem?_cons_zero] at d9
        have f9 := hS'.out.st.frozen 9
        have hSA : Hid (WSt D N lvs.length (wr.setCell ⟨D.gw, 9, none⟩ (.int .i64 ((cj : Int) + 1))) val tr (cj + 1)) := hS'.out.trial (cj + 1)
        have hA0 := hide ((Fr.refl D.S4 wr).setCell (p := ⟨D.gw, 9, none⟩) (.inl (.inl rfl)) (.int .i64 ((cj : Int) + 1)))
        have HCJ := hide hcj9; have Hr := hide hr
        have hnr : nr ≤ 1048576 := by rw [hRr.len]; exact HLR.out r (List.mem_of_getElem? hr)
        clear hcj9 hRr hr hcs1 hcs2 hcs4 hgo1 hgo2 hgo3 hcell
        by_cases hover : cj + 1 ≤ 131072
        · have hov : ¬ ((131072 : Int) < (cj : Int) + 1) := by omega
          go_upto_region 15 with fail
          generalize wr.setCell ⟨D.gw, 9, none⟩ (.int .i64 ((cj : Int) + 1)) = wA at *
          have hFA : Hid (Fq (fun g => D.S4 g ∨ SY g) W0.heap.size w wA) := hF'.out.trans (Fq.of_fr (hA0.out.mono fun _ _ => .inl))
          have hFrA := hide (HF.out.fq hFA.out)
          have hJA := hide (HY.out.keep _ _ _ hJ'.out hA0.out)
          have hAA := HAT.out wA hFrA.out
          have hLm : D.L.m = lvs.length := by have := hAA.len; simpa using this
          obtain ⟨ab, ao, a9, B9, m9, dd, hAB, hxa, ab1, ac0, ac1, hT⟩ := hAA.at_ (i := tr.length) (by omega)
          obtain rfl : a9 = l.a := by
            rw [List.getElem?_map, HL.out] at hxa
            simpa using hxa.symm
          have a2 := hSA.out.st.cell 2
          simp only [WLoc.cells, List.getElem?_toArray, List.getElem?_cons_succ, List.getElem?_cons_zero, hAB, hLm] at a2
          have hm9 : m9 ≤ 1048576 := by rw [hT.len]; exact HLT.out
          have hM := hide (match_any l.a r B9 Ar m9 nr dd cr wA hT (row_of (HROW.out wA hFrA.out).2.2 Hr.out HCJ.out) hm9 hnr)
          clear hAB hLm hxa ab1 hAA hT f9 d9
          cases hm : matchA l.a r with
          | none =>
            rw [hm] at hM
            have HM := hide hm
            clear hm
            go_upto_region 16 with ((with_reducible refine hM.out.mono ?_); rintro e w1 ⟨A1, c1, rfl, o1, x1⟩; have X1 := hide x1; clear o1 x1)
            go_wp2_with fail
            go_roundw
            case rel =>
              refine ⟨j + 1, cj + 1, prej, by omega, hover, by omega, by go_num, hG.out.none Hr.out (by unfold Lv.one; rw [HM.out]; rfl), HY.out.keep _ _ _ hJA.out (Fr.of_ext X1.out), hSA.out.ext X1.out, hFA.out.trans (Fq.of_ext X1.out)⟩
            case measure => simp [intOf]; omega
          | some m =>
            rw [hm] at hM
            have HM := hide hm
            have hml : m.length = l.ks.length := by rw [HLK.out]; exact matchA_len hm
            have hM2 := hide (hM.out.mono fun e w' h => RetM.some_ h hml)
            clear hm hM
            go_upto_region 16 with ((with_reducible refine hM2.out.mono ?_); rintro e w1 ⟨A1, c1, rfl, o1, x1⟩; have X1 := hide x1; have O1 := hide o1; clear o1 x1)
            have hS1 := hide (hSA.out.ext X1.out)
            have e8 := hS1.out.st.cell 8
            have e4 := hS1.out.st.cell 4
            simp only [WLoc.cells, List.getElem?_toArray, List.getElem?_cons_succ, List.getElem?_cons_zero, HV.out] at e8 e4
            obtain ⟨ut, t0, t1⟩ := hS1.out.triedAt hil
            have HLTs := hide hS1.out.lt
            have hne4 := hide (show D.gt ≠ D.gw from Ne.symm H4.out.wt)
            have hne4' := hne4.out
            have hne5 : ¬ D.gw = D.gt := H4.out.wt
            have HLe := hide (show wA.heap.size ≤ w1.heap.size from X1.out.size)
            go_upto_region 18 with fail
            have hS2 : Hid (WSt D N lvs.length (w1.setCell ⟨D.gt, tr.length, none⟩ (.slice Ar nr cr)) val (tr ++ [.slice Ar nr cr]) (cj + 1)) := hS1.out.tryRow hil _
            have hA1 := hide ((Fr.of_ext (S := D.S4) X1.out).setCell (p := ⟨D.gt, tr.length, none⟩) (.inl (.inr (.inr (.inr rfl)))) (.slice Ar nr cr))
            obtain ⟨tsq, tq, -⟩ := hS1.out.tried
            have O2 := hide (mine_set O1.out tq (by decide) tr.length (.slice Ar nr cr))
            clear tq e4 e8 t0 t1 ac0 ac1 a2 hne4' hne5
            generalize w1.setCell ⟨D.gt, tr.length, none⟩ (.slice Ar nr cr) = w2 at *
            have hJ2 := hide (HY.out.keep _ _ _ hJA.out hA1.out)
            have hF2 : Hid (Fq (fun g => D.S4 g ∨ SY g) W0.heap.size w w2) := hFA.out.trans (Fq.of_fr (hA1.out.mono fun _ _ => .inl))
            have hFr2 := hide (HF.out.fq hF2.out)
            have e4 := hS2.out.st.cell 4
            simp only [WLoc.cells, List.getElem?_toArray, List.getElem?_cons_succ, List.getElem?_cons_zero, HV.out] at e4
            have v9 := (HVAR.out w2 hFr2.out).1
            have hvb : ∀ g, onlyVB D g → D.S4 g := fun g hg => by
              rcases hg with h | h
              · exact .inr (.inl h)
              · exact .inr (.inr (.inl h))
            have HVB := hide hvb
            have hB := hide (bind_any D N lvs.length (cj + 1) s' l.ks m val (tr ++ [.slice Ar nr cr]) V9 A1 l.ks.length vc9 c1 w2 hN hks hS2.out HNF.out hsN hml
              (fun w' hw => (HVAR.out w' (hFr2.out.trans (hw.mono fun g _ hg => .inl (HVB.out g hg)))).2)
              (fun w' hw => RowAt.own (own_fr O2.out hw fun g hg hvg => by
                have h1 := (O2.out.lt g hg).1
                have h2 := HGT.out g (.inl (HVB.out g hvg))
                have h3 := hFrA.out.size
                omega)))
            have Hml := hide hml
            clear hml hvb
            cases hj2 : joinP val l.ks m with
            | none =>
              rw [hj2] at hB
              have HJ2 := hide hj2
              clear hj2
              have hB2 := hide (hB.out.mono (R' := fun e w' => e = .returned (.tuple #[.slice none 0 0, .bool false]) ∧ WSt D N lvs.length w' val (tr ++ [.slice Ar nr cr]) (cj + 1) ∧ Fr (onlyVB D) w2 w') fun e w' h => ⟨(h.2.1 rfl).1, (h.2.1 rfl).2, h.2.2⟩)
              go_upto_region 19 with ((with_reducible refine hB2.out.mono ?_); rintro e w3 ⟨rfl, s3, x3⟩; have S3 := hide s3; have X3 := hide x3; clear s3 x3)
              go_wp2_with fail
              go_roundw
              case rel =>
                refine ⟨j + 1, cj + 1, prej, by omega, hover, by omega, by go_num, hG.out.none Hr.out (by unfold Lv.one; rw [HM.out]; exact HJ2.out), HY.out.keep _ _ _ hJ2.out (X3.out.mono fun g _ hg => HVB.out g hg), ?_, hF2.out.trans (Fq.of_fr (X3.out.mono fun g _ hg => .inl (HVB.out g hg)))⟩
                have := S3.out.less tr.length
                rwa [List.take_left'] at this
                rfl
              case measure => simp [intOf]; omega
            | some val' =>
              rw [hj2] at hB
              have HJ2 := hide hj2
              clear hj2
              have hB2 := hide (hB.out.mono (R' := fun e w' => ∃ F cF, e = .returned (.tuple #[.slice F (s' - val.length) cF, .bool true]) ∧ (val'.length = s' ∧ val'.take val.length = val ∧
                w'.ownsRow w2.heap.size 3 1 (.slice F (s' - val.length) cF) (s' - val.length) ((upN val.length (s' - val.length)).map (Value.int .i64)) ∧ WSt D N lvs.length w' val' (tr ++ [.slice Ar nr cr]) (cj + 1)) ∧ Fr (onlyVB D) w2 w') fun e w' h => by
                obtain ⟨F, cF, h1, h2⟩ := h.1 val' rfl
                exact ⟨F, cF, h1, h2, h.2.2⟩)
              clear hB
              go_upto_region 20 with ((with_reducible refine hB2.out.mono ?_); rintro e w3 ⟨F, cF, rfl, s3, x3⟩; have S3 := hide s3; have X3 := hide x3; clear s3 x3)
              have hone : l.one val r = some val' := by unfold Lv.one; rw [HM.out]; exact HJ2.out
              have hJ3 := hide (HY.out.keep _ _ _ hJ2.out (X3.out.mono fun g _ hg => HVB.out g hg))
              have hF3 : Hid (Fq (fun g => D.S4 g ∨ SY g) W0.heap.size w w3) := hF2.out.trans (Fq.of_fr (X3.out.mono fun g _ hg => .inl (HVB.out g hg)))
              have hFr3 := hide (HF.out.fq hF3.out)
              obtain ⟨q1, q2, q3, q4⟩ := S3.out
              have Q1 := hide q1; have Q2 := hide q2; have Q3 := hide q3; have Q4 := hide q4
              have hIH := hide ((HIH.out (tr.length + 1) val' (tr ++ [.slice Ar nr cr]) (trl ++ [r]) prej (cj + 1) w3 HD.out (by omega) (by rw [q1]; exact HFL.out) (by simp) (HOK.out.snoc (fun w' hw => (HROW.out w' hw).2.2) Hr.out HCJ.out (HLR.out r (List.mem_of_getElem? Hr.out))) hJ3.out q4 hFr3.out hover (by omega)).mono fun e w' h => h.cases)
              have hIH2 : Hid (Calls Try.prog 89 #[.pointer (some ⟨D.gw, 0, none⟩), .int .i64 ((tr.length : Int) + 1), .func (.yield lc) #[] #[]] w3 _) := hIH
              have Hone := hide hone
              clear hone q1 q2 q3 q4 hIH
              go_upto_region 21 with ((with_reducible refine hIH2.out.mono ?_); rintro e w4 (⟨rfl, x4, n4, s4, j4⟩ | ⟨rfl, x4, n4, s4, j4⟩ | ⟨rfl, x4, n4, j4⟩))
              · have O4 := hide (own_fq Q3.out x4.out (fun g hg hs => by
                  have h1 := (Q3.out.lt g hg).1
                  have h2 := HGT.out g hs
                  have h3 := hFr2.out.size
                  omega) (by decide))
                have hgb := hide (show D.gb < w2.heap.size from by have := HGT.out D.gb (.inl (.inr (.inr (.inl rfl)))); have := hFr2.out.size; omega)
                have hFC := hide (free_cut D N lvs.length _ s' w2.heap.size val val' _ F cF w4 hN hvs hsN Q1.out Q2.out O4.out hgb.out s4.out)
                go_upto_region 22 with ((with_reducible refine hFC.out.mono ?_); rintro e w5 ⟨rfl, s5, x5⟩)
                go_wp2_with fail
                go_roundw
                case rel =>
                  refine ⟨j + 1, cj + 1 + (visit st ls val' (trl ++ [r])).1, prej ++ (visit st ls val' (trl ++ [r])).2.1, by omega, n4.out.1, by rw [List.length_append]; have := visit_few st ls val' (trl ++ [r]); omega, by go_num, hG.out.on Hr.out Hone.out n4.out.2, HY.out.keep _ _ _ j4.out (x5.out.mono fun g _ hg => HVB.out g (.inr hg)), ?_,
                    (hF3.out.trans x4.out).trans (Fq.of_fr (x5.out.mono fun g _ hg => .inl (HVB.out g (.inr hg))))⟩
                  have := s5.out.less tr.length
                  rwa [List.take_left'] at this
                  rfl
                case measure => simp [intOf]; omega
              · have O4 := hide (own_fq Q3.out x4.out (fun g hg hs => by
                  have h1 := (Q3.out.lt g hg).1
                  have h2 := HGT.out g hs
                  have h3 := hFr2.out.size
                  omega) (by decide))
                have hgb := hide (show D.gb < w2.heap.size from by have := HGT.out D.gb (.inl (.inr (.inr (.inl rfl)))); have := hFr2.out.size; omega)
                have hFC := hide (free_cut D N lvs.length _ s' w2.heap.size val val' _ F cF w4 hN hvs hsN Q1.out Q2.out O4.out hgb.out s4.out)
                go_upto_region 22 with ((with_reducible refine hFC.out.mono ?_); rintro e w5 ⟨rfl, s5, x5⟩)
                go_wp2_with fail
                go_ret
                obtain ⟨g1, g2, g3⟩ := hG.out.stop Hr.out Hone.out n4.out.2
                have e : visit st (l :: ls) val trl = goRows l (visit st ls) val trl l.rows := rfl
                rw [← e] at g1 g2 g3
                refine ⟨(hF3.out.trans x4.out).trans (Fq.of_fr (x5.out.mono fun g _ hg => .inl (HVB.out g (.inr hg)))), .inl ⟨by rw [g1]; exact n4.out.1, by rw [g3]; rfl, ?_, fun e => (by rw [g3] at e; cases e), fun _ => ?_⟩⟩
                · have := s5.out.less tr.length
                  rw [g1]
                  rwa [List.take_left'] at this
                  rfl
                · rw [g2]
                  exact HY.out.keepx _ _ _ j4.out (x5.out.mono fun g _ hg => HVB.out g (.inr hg))
              · refine ⟨rfl, hF3.out.trans x4.out, .inr ⟨?_, rfl, j4.out⟩⟩
                have := hG.out.least Hr.out Hone.out
                have h9 := n4.out
                simp only [visit]
                omega
        · have hov : (131072 : Int) < (cj : Int) + 1 := by omega
          go_wp2_with fail
          refine ⟨rfl, hF'.out.trans (Fq.of_fr (hA0.out.mono fun _ _ => .inl)), .inr ⟨?_, rfl, prej, HY.out.keep _ _ _ hJ'.out hA0.out⟩⟩
          have := hG.out.more Hr.out
          simp only [visit]
          omega
      · have hend := hG.out.end_ (by omega)
        have HE := hide hend
        clear hend
        go_wp2_with fail
        go_ret
        obtain ⟨h1, h2, h3⟩ := HE.out
        have e : visit st (l :: ls) val trl = goRows l (visit st ls) val trl l.rows := rfl
        rw [← e] at h1 h2 h3
        refine ⟨hF'.out, .inl ⟨by omega, by rw [h3]; rfl, by rw [h1]; exact hS'.out, fun _ => by rw [h2]; exact hJ'.out, fun e => by rw [h3] at e; cases e⟩⟩
end Go.Proofs.Ytpfjkjmimmklcaa

namespace Go.Proofs.Ytpfjkjmimmklcaa
open Go.RowKit

section
variable {S : Nat → Prop} {base : Nat} {w w' : World} {l : Nat} {o : Obj}
theorem Fr.putObj (h : Fr S w w') (hl : S l ∨ w.heap.size ≤ l) : Fr S w (w'.putObj l o) :=
  ⟨h.os, h.tape, h.output, by simpa using h.size, fun g h1 h2 => (World.putObj_heap_other (fun e => by subst e; rcases hl with hp | hp; exact h2 hp; omega)).trans (h.block g h1 h2)⟩
theorem Fq.putObj (h : Fq S base w w') (hl : S l) : Fq S base w (w'.putObj l o) :=
  ⟨h.os, h.tape, h.output, by simpa using h.size, fun g h1 h2 h3 => (World.putObj_heap_other (fun e => by subst e; exact h2 hl)).trans (h.block g h1 h2 h3)⟩
theorem Blk.putObj {g : Nat} {t : TypeId} {cs : Array Value} (h : Blk w g t cs) (hne : g ≠ l) : Blk (w.putObj l o) g t cs := (World.putObj_heap_other hne).trans h
theorem own_putObj {b : Nat} {e : TypeId} {s n : Nat} {v : Value} {xs : List Value} (h : w.ownsRow b e s v n xs) (hl : ∀ g, v.ownBlock = some g → g ≠ l) : (w.putObj l o).ownsRow b e s v n xs := by
  refine ⟨h.1, ?_⟩
  rcases h.2 with h1 | ⟨g, cap, cur, rfl, h2, h3, h4⟩
  · exact .inl h1
  · exact .inr ⟨g, cap, cur, rfl, h2, Blk.putObj h3 (hl g rfl), h4⟩
end

/-- how a round's body is left -/
def roundQ (l : Nat) (r : Loop) (R : Ending → World → Prop) : Exit → Act → World → Prop
  | .normal, _, W => W.heap[l]? = some (.loop { r with state := .busy }) ∧ R (.returned (.bool true)) (W.putObj l (.loop r))
  | .ret, _, W => W.heap[l]? = some (.loop { r with state := .busy }) ∧ R (.returned (.bool false)) (W.putObj l (.loop { r with state := .done, pending := some .ret }))
  | .exit id, _, W => W.heap[l]? = some (.loop { r with state := .busy }) ∧ R (.returned (.bool false)) (W.putObj l (.loop { r with state := .done, pending := some (.exit id) }))
  | _, _, _ => False
/-- one round -/
theorem range_round {F : Fence} {n l : Nat} {P : Program} {r : Loop} {W : World} {x : Value} {R : Ending → World → Prop} (hl : W.heap[l]? = some (.loop r)) (hr : r.state = .ready) (hp : r.pending = none) (hps : r.params.size = 1) (hF : F.fn r.fn)
    (h : r.assign.wpIn (F.inRound l) n P (Exit.then (fun a₁ w₁ => w₁.heap[l]? = some (.loop r) ∧ r.body.wpIn (F.inRound l) n P (roundQ l r R) a₁ (w₁.putObj l (.loop { r with state := .busy }))) (fun _ _ _ => False))
      { tmps := (r.params.zip #[x]).foldl (fun tmps (t, a) => tmps.setIfInBounds t a) r.tmps, defers := [] } W) :
    ∃ fn tmps assign body, (Instr.yield l #[x]).run P W = .ok (.round l fn tmps assign body) W ∧ RoundIn F n P l fn tmps assign body W R := by
  have hrr : ({ r with state := .ready, pending := none } : Loop) = r := by
    obtain ⟨a, b⟩ := r
    simp only at hr hp
    subst hr hp
    rfl
  refine ⟨r.fn, _, r.assign, r.body, run_yield hl (by simp [hps]), roundIn_of_wpIn hF (wpIn_mono h ?_)⟩
  intro e a₁ w₁ hq
  cases e with
  | normal =>
    obtain ⟨hl1, hb⟩ := hq
    refine ⟨_, run_beginRound hl1 hr, wpIn_mono hb ?_⟩
    intro e a₂ w₂ hq
    cases e with
    | normal => exact ⟨_, _, run_endRound none hq.1, by simpa [hrr] using hq.2⟩
    | ret => exact ⟨_, _, run_endRound (some .ret) hq.1, hq.2⟩
    | exit id => exact ⟨_, _, run_endRound (some (.exit id)) hq.1, hq.2⟩
    | goto t => exact hq.elim
    | panic c => exact hq.elim
    | outgrown => exact hq.elim
  | ret => exact hq.elim
  | exit id => exact hq.elim
  | goto t => exact hq.elim
  | panic c => exact hq.elim
  | outgrown => exact hq.elim

/-- the record of a range over a function -/
def recOf (fn : FuncId) (tmps : Array Value) (ps : Array Tmp) (assign body : Code) (d : Nat) : Loop := { state := .ready, pending := none, fn, tmps, params := ps, assign, body, defers := d }
/-- the statement -/
theorem wp_range {n : Nat} {P : Program} {g : Operand} {ps : Array Tmp} {assign body : Code} {Q : Exit → Act → World → Prop} {a : Act} {w : World} {gf : Nat} {lb : Array Value} (hg : a.eval g = .func (.func gf) #[] lb) (eg : Enters P gf)
    (h : ∀ fn, CallsIn Fence.wide (n - 1) P gf (#[.func (.yield (w.heap.size + 1)) #[] #[]] ++ lb) ((w.alloc (.deferred (some []))).alloc (.loop (recOf fn a.tmps ps assign body w.heap.size)))
      (rangePost Fence.wide n P (w.heap.size + 1) Q { a with defers := [{ target := .collected w.heap.size, args := #[] }] ++ a.defers })) :
    (Code.rangeFunc g ps assign body).wpIn Fence.wide n P Q a w := by
  refine wpIn_rangeFunc ?_
  intro fn hfn
  have h2 := h fn
  have e2 := eg (#[.func (.yield (w.heap.size + 1)) #[] #[]] ++ lb)
  have h1 := run_enterLoop_outer (P := P) (w := w) fn a.tmps ps assign body
  generalize hW : (w.alloc (.deferred (some []))).alloc (.loop (recOf fn a.tmps ps assign body w.heap.size)) = W1 at h2
  have hW' : (w.alloc (.deferred (some []))).alloc (.loop { state := .ready, pending := none, fn, tmps := a.tmps, params := ps, assign, body, defers := w.heap.size }) = W1 := hW
  rw [hW'] at h1
  have k1 : (resolve a.eval (rangeCall g (w.heap.size + 1)) 0).run P W1 = .ok { target := .fn (.func gf) lb, args := #[.func (.yield (w.heap.size + 1)) #[] #[]] } W1 := by
    simp only [resolve, hg]
    simp [go_sem]
  have k2 : (invoke (.fn (.func gf) lb) #[.func (.yield (w.heap.size + 1)) #[] #[]]).run P W1 = .ok (.enter gf (#[.func (.yield (w.heap.size + 1)) #[] #[]] ++ lb)) W1 := by
    simp [invoke, go_sem, e2]
  have h1' : (Instr.enterLoop fn a.tmps ps assign body Fence.wide.round).run P w = .ok (w.heap.size + 1, [{ target := .collected w.heap.size, args := #[] }]) W1 := h1
  have k3 : Fence.wide.depth.isSome = true → 1 ≤ n := fun h => absurd h (by simp [Fence.wide])
  refine ⟨w.heap.size + 1, [{ target := .collected w.heap.size, args := #[] }], W1, { target := .fn (.func gf) lb, args := #[.func (.yield (w.heap.size + 1)) #[] #[]] }, W1, gf,
    #[.func (.yield (w.heap.size + 1)) #[] #[]] ++ lb, W1, ?_, ?_, ?_, ?_, ?_, ?_⟩
  · exact h1'
  · exact k1
  · exact fun _ _ => trivial
  · exact k2
  · exact k3
  · exact h2
theorem range_ended {n l : Nat} {P : Program} {Q : Exit → Act → World → Prop} {a' : Act} {v : Value} {W : World} {r : Loop} (hl : W.heap[l]? = some (.loop r)) (hb : r.state ≠ .busy)
    (h : match r.pending with | none => Q .normal a' (W.putObj l (.loop { r with state := .exhausted })) | some c => c.wpIn Fence.wide n P Q a' (W.putObj l (.loop { r with state := .exhausted }))) :
    rangePost Fence.wide n P l Q a' (.returned v) W := ⟨_, _, run_endLoop hl hb, h⟩

theorem Fr.fq' {S : Nat → Prop} {base : Nat} {w0 w w' : World} (h : Fr S w0 w) (k : Fq S base w w') (hb : w0.heap.size ≤ base) : Fr S w0 w' :=
  ⟨k.os.trans h.os, k.tape.trans h.tape, k.output.trans h.output, Nat.le_trans h.size k.size, fun g h1 h2 => (k.block g (Nat.lt_of_lt_of_le h1 h.size) h2 (fun h3 => by have := h3.1; omega)).trans (h.block g h1 h2)⟩
theorem rec_laid (w : World) (r : Loop) : ((w.alloc (.deferred (some []))).alloc (.loop r)).heap[w.heap.size + 1]? = some (.loop r) ∧ ((w.alloc (.deferred (some []))).alloc (.loop r)).heap[w.heap.size]? = some (.deferred (some [])) ∧
    Ext w ((w.alloc (.deferred (some []))).alloc (.loop r)) ∧ ((w.alloc (.deferred (some []))).alloc (.loop r)).heap.size = w.heap.size + 2 := by
  refine ⟨?_, ?_, (Ext.alloc _ _).alloc' _, by rw [World.size_alloc, World.size_alloc]⟩
  · have := World.alloc_heap_new (w.alloc (.deferred (some []))) (.loop r)
    rwa [World.size_alloc] at this
  · exact (Below.heap_alloc _ _ _ (by simp)).trans (World.alloc_heap_new w _)
/-- rows of values of the call's own -/
def MineV (b : Nat) (w : World) (A : Option Addr) (n c : Nat) (rows : List (List V)) : Prop := ∃ cells, n = rows.length ∧ w.ownsRow b 35 1 (.slice A n c) n cells ∧ Els (RMine b) 1 w cells rows
theorem RMine.fr {S : Nat → Prop} {b : Nat} {w w' : World} {cs : List Value} {r : List V} (h : RMine b w cs r) (hF : Fr S w w') (hS : ∀ g, S g → g < b) : RMine b w' cs r := by
  obtain ⟨A, n, c, h1, h2⟩ := h
  exact ⟨A, n, c, h1, own_fr h2 hF fun g hg hs => by have := (h2.lt g hg).1; have := hS g hs; omega⟩
theorem MineV.fr {S : Nat → Prop} {b : Nat} {w w' : World} {A : Option Addr} {n c : Nat} {rows : List (List V)} (h : MineV b w A n c rows) (hF : Fr S w w') (hS : ∀ g, S g → g < b) : MineV b w' A n c rows := by
  obtain ⟨cells, h1, h2, h3⟩ := h
  exact ⟨cells, h1, own_fr h2 hF fun g hg hs => (by have := (h2.lt g hg).1; have := hS g hs; omega), h3.mono fun cs x hx => hx.fr hF hS⟩
theorem MineV.nil (b : Nat) (w : World) : MineV b w none 0 0 [] := ⟨[], rfl, World.ownsRow_nil _ _ _ _, .nil⟩
/-- between two rounds that collect: the record, the mark, what was collected -/
structure JC (ga l D0 b : Nat) (r : Loop) (f : Leaf → List V) (pre : List Leaf) (W : World) : Prop where
  lp : W.heap[l]? = some (.loop r)
  mark : W.heap[D0]? = some (.deferred (some []))
  out : ∃ A c, Blk W ga 27 #[.slice A pre.length c] ∧ MineV b W A pre.length c (pre.map f)
theorem JC.fr {S : Nat → Prop} {ga l D0 b : Nat} {r : Loop} {f : Leaf → List V} {pre : List Leaf} {w w' : World} (h : JC ga l D0 b r f pre w) (hF : Fr S w w') (h1 : ¬ S l) (h2 : ¬ S D0) (h3 : ¬ S ga) (hS : ∀ g, S g → g < b) : JC ga l D0 b r f pre w' := by
  obtain ⟨A, c, h4, h5⟩ := h.out
  exact ⟨(hF.block l (Array.getElem?_eq_some_iff.1 h.lp).1 h1).trans h.lp, (hF.block D0 (Array.getElem?_eq_some_iff.1 h.mark).1 h2).trans h.mark, A, c, h4.fr hF h3, h5.fr hF hS⟩

theorem Fq.of_grown {S : Nat → Prop} {base : Nat} {w w' : World} {v : Value} {n : Nat} {xs : List Value} (h : w.ownsRow base 35 1 v n xs) (hg : w.grownBy w' v.ownBlock) : Fq S base w w' :=
  ⟨hg.os, hg.tape, hg.output, hg.size, fun k h1 _ h3 => hg.block k h1 fun e => h3 (by
    rcases h.2 with ⟨rfl, _⟩ | ⟨g, cap, cur, rfl, h4, h5, _⟩
    · simp [Value.ownBlock] at e
    · have e2 : k = g := by simpa [Value.ownBlock] using e
      subst e2
      exact ⟨h4, _, _, h5⟩)⟩
theorem RMine.other {b b1 : Nat} {e1 : TypeId} {s1 n1 : Nat} {v1 : Value} {x1 : List Value} {w w' : World} {cs : List Value} {r : List V} (h : RMine b w cs r) (h1 : w.ownsRow b1 e1 s1 v1 n1 x1) (hne : e1 ≠ 58) (hg : w.grownBy w' v1.ownBlock) : RMine b w' cs r := by
  obtain ⟨A, n, c, h2, h3⟩ := h
  exact ⟨A, n, c, h2, mine_other h3 h1 hne hg⟩
/-- one row more is collected -/
theorem jc_push {ga l D0 b : Nat} {r bz : Loop} {f : Leaf → List V} {pre : List Leaf} {x : Leaf} {wz w8 : World} {A' : Option Addr} {c' g8 cap8 : Nat} {Ay : Option Addr} {n9 cy : Nat} {cellsA : List Value} {o8 : Obj}
    (h1 : wz.heap[l]? = some (.loop bz)) (h2 : wz.heap[D0]? = some (.deferred (some []))) (hlb : l < b) (hDb : D0 < b) (_hgb : ga < b) (hne : ga ≠ l) (hne2 : D0 ≠ l) (hne3 : ga ≠ D0)
    (h3 : Blk wz ga 27 #[.slice A' pre.length c']) (h4 : wz.ownsRow b 35 1 (.slice A' pre.length c') pre.length cellsA) (h5 : Els (RMine b) 1 wz cellsA (pre.map f)) (h6 : wz.ownsRow b 58 3 (.slice Ay n9 cy) n9 (cellsR (f x)))
    (hg : (wz.alloc o8).grownBy w8 (Value.slice A' pre.length c').ownBlock) (h8 : w8.ownsRow b 35 1 (.slice (some ⟨g8, 0, none⟩) (pre.length + 1) cap8) (pre.length + 1) (cellsA ++ [.slice Ay n9 cy])) :
    (w8.setCell ⟨ga, 0, none⟩ (.slice (some ⟨g8, 0, none⟩) (pre.length + 1) cap8)).heap[l]? = some (.loop bz) ∧
    JC ga l D0 b r f (pre ++ [x]) ((w8.setCell ⟨ga, 0, none⟩ (.slice (some ⟨g8, 0, none⟩) (pre.length + 1) cap8)).putObj l (.loop r)) ∧
    (∀ S : Nat → Prop, S l → S ga → Fq S b wz ((w8.setCell ⟨ga, 0, none⟩ (.slice (some ⟨g8, 0, none⟩) (pre.length + 1) cap8)).putObj l (.loop r))) := by
  have xa := Ext.alloc wz o8
  have o4 := mine_ext h4 xa
  have keep : ∀ (k : Nat) (o : Obj), k < b → k ≠ ga → wz.heap[k]? = some o → (w8.setCell ⟨ga, 0, none⟩ (.slice (some ⟨g8, 0, none⟩) (pre.length + 1) cap8)).heap[k]? = some o := fun k o hk hkg hko => by
    have hlt := (Array.getElem?_eq_some_iff.1 hko).1
    refine (Below.heap_setCell w8 ⟨ga, 0, none⟩ _ k (fun e => hkg e)).trans ?_
    refine (hg.block k (by simp; omega) fun e => ?_).trans ((Below.heap_alloc _ _ _ hlt).trans hko)
    have := (o4.lt k e.symm).1
    omega
  have hl := keep l _ hlb (Ne.symm hne) h1
  have hD := keep D0 _ hDb (Ne.symm hne3) h2
  have V8 := ((h3.ext xa).grown hg (own_ne_blk o4 (h3.ext xa) (by decide)))
  have hlt := (Array.getElem?_eq_some_iff.1 hl).1
  refine ⟨hl, ⟨World.putObj_heap_same hlt, (World.putObj_heap_other hne2).trans hD, some ⟨g8, 0, none⟩, cap8, ?_, cellsA ++ [.slice Ay n9 cy], by simp, ?_, ?_⟩, fun S hS1 hS2 => ?_⟩
  · rw [List.length_append]
    exact (V8.set_ 0 _).putObj hne
  · rw [List.length_append]
    exact own_putObj (mine_set h8 V8 (by decide) 0 _) (fun g hg e => by have := (h8.lt g hg).1; omega)
  · have key : ∀ (cs : List Value) (rw_ : List V), RMine b wz cs rw_ → RMine b ((w8.setCell ⟨ga, 0, none⟩ (.slice (some ⟨g8, 0, none⟩) (pre.length + 1) cap8)).putObj l (.loop r)) cs rw_ := fun cs rw_ hx => by
      obtain ⟨B, k1, c1, g1, g2⟩ := (((RMine.stab b) _ _ _ _ xa hx).other o4 (by decide) hg).set_ V8 (by decide) 0 (.slice (some ⟨g8, 0, none⟩) (pre.length + 1) cap8)
      exact ⟨B, k1, c1, g1, own_putObj g2 fun g hg e => by have := (g2.lt g hg).1; omega⟩
    rw [List.map_append]
    refine (h5.mono key).append (Els.single rfl (fun v hv => by obtain rfl := List.mem_singleton.1 hv; rfl) (key _ _ ⟨Ay, n9, cy, rfl, h6⟩))
  · refine Fq.putObj ?_ hS1
    refine ((Fq.of_ext xa).trans (Fq.of_grown o4 hg)).trans ?_
    exact Fq.of_fr ((Fr.refl S w8).setCell (p := ⟨ga, 0, none⟩) (.inl hS2) _)

/-- what the walk's iterator hands back -/
def RetAll (D : WLoc) (S : Nat → Prop) (base N k : Nat) (w0 : World) (J Jx : List Leaf → World → Prop) (v : Nat × List Leaf × Bool) (en : Ending) (w' : World) : Prop :=
  Fq S base w0 w' ∧ ((v.1 ≤ 131072 ∧ en = .returned (.tuple #[]) ∧ WSt D N k w' [] [] v.1 ∧ (v.2.2 = false → J v.2.1 w') ∧ (v.2.2 = true → Jx v.2.1 w')) ∨ (131072 < v.1 ∧ en = .panicked tooMany ∧ ∃ pre', J pre' w'))
set_option maxRecDepth 100000 in
theorem all1_any (D : WLoc) (SY : Nat → Prop) (W0 : World) (N : Nat) (lvs : List Lv) (hs : List Nat) (lc gb : Nat) (st : Leaf → Bool) (J Jx : List Leaf → World → Prop) (hk : lvs.length ≤ 1048576) (hN : N ≤ 1048576) (hh : hs.length ≤ 1048576) (hhN : ∀ x ∈ hs, x < N)
    (hOk : ∀ l ∈ lvs, l.Ok) (hY : Yields D SY W0 W0.heap.size lvs.length hs lc st J Jx) (hSt : WFix D lvs hs (fun g => D.S4 g ∨ SY g) W0) (hSY : D.away SY) (hgt : ∀ g, D.S4 g ∨ SY g → g < W0.heap.size) (hfit : FitL lvs 0 N)
    (hJ : J [] W0) (hst : WSt D N lvs.length W0 [] [] 0) (hb : Blk W0 gb 106 #[.pointer (some ⟨D.gw, 0, none⟩)]) :
    Calls Try.prog 88 #[.func (.yield lc) #[] #[], .pointer (some ⟨gb, 0, none⟩)] W0 (RetAll D (fun g => D.S4 g ∨ SY g) W0.heap.size N lvs.length W0 J Jx (visit st lvs [] [])) := by
  have HC := hide ((atom_any D SY W0 N lvs hs lc st J Jx hk hN hh hhN hOk hY hSt hSY hgt lvs 0 [] [] [] [] 0 W0 (by simp) (by omega) hfit rfl ⟨by simp, fun _ _ => .nil⟩ hJ hst (Fr.refl _ _) (by omega) (by simp)).mono fun e w' h => h.cases)
  have HC2 : Hid (Calls Try.prog 89 #[.pointer (some ⟨D.gw, 0, none⟩), .int .i64 0, .func (.yield lc) #[] #[]] W0 _) := HC
  have c0 := hb.cell 0
  clear hY hSt hSY hgt hJ hst hb HC hOk hfit
  go_enter Try.func88, Try.ntmps88
  go_wp2_with ((with_reducible refine HC2.out.mono ?_); rintro e w4 (⟨rfl, x4, n4, s4, j4⟩ | ⟨rfl, x4, n4, s4, j4⟩ | ⟨rfl, x4, n4, j4⟩))
  · go_end0
    exact ⟨x4.out, .inl ⟨by have := n4.out.1; omega, rfl, by have := s4.out; rwa [Nat.zero_add] at this, fun _ => j4.out, fun e => by rw [n4.out.2] at e; cases e⟩⟩
  · go_end0
    exact ⟨x4.out, .inl ⟨by have := n4.out.1; omega, rfl, by have := s4.out; rwa [Nat.zero_add] at this, fun e => (by rw [n4.out.2] at e; cases e), fun _ => j4.out⟩⟩
  · exact ⟨rfl, x4.out, .inr ⟨by have := n4.out; omega, rfl, j4.out⟩⟩
end Go.Proofs.Ytpfjkjmimmklcaa

namespace Go.Proofs.Ytpfjkjmimmklcaa
open Go.RowKit

/-- a deferred function that may recover, its contract at the wide fence -/
theorem callsDIn_of_wpS {n : Nat} {P : Program} {f : FuncId} {fn : Func} {c : Code} {args : Array Value} {u : FrameMode} {w : World} {R : Ending → FrameMode → World → Prop} (hf : P.funcs[f]? = some fn) (hb : fn.body = some c)
    (h : ∀ (c₀ : Frame) (cs : List Frame), c₀.mode = u → c.wpS P (bodyPostS P fn c₀ cs R) { tmps := args ++ Array.replicate (fn.ntmps - args.size) undef, defers := [] } (c₀ :: cs) w) : CallsDIn Fence.wide n P f args u w R := by
  refine ⟨trivial, fun c₀ cs hu _ => ?_⟩
  obtain ⟨b, hbd⟩ : ∃ b : Frame, b = { (default : Frame) with fn := f, kind := .deferred } := ⟨_, rfl⟩
  have hk : b.kind = .deferred := by rw [hbd]
  have hr : b.roundOf = none := by rw [hbd]; rfl
  have hfn : b.fn = f := by rw [hbd]
  have henter : Frame.enter P f args .deferred = b.at { tmps := args ++ Array.replicate (fn.ntmps - args.size) undef, defers := [] } [.code c] := by
    simp [Frame.enter, Frame.at, hf, hb, hbd]
  obtain ⟨e, a', cs', w', hq, harr⟩ := h c₀ cs hu b [] hk hr
  rw [← henter] at harr
  cases e with
  | normal =>
    obtain ⟨hd, u', rfl, v, hv, hR⟩ := hq
    exact ⟨.returned v, u', w', _, hR, stepsIn_wide.2 (Steps.trans harr (.one step_end)), hk, hfn, rfl, hd, fn, (by rw [← hf]; exact congrArg _ hfn), hv⟩
  | ret =>
    obtain ⟨hd, u', rfl, v, hv, hR⟩ := hq
    obtain ⟨todo, hs⟩ := harr
    exact ⟨.returned v, u', w', _, hR, stepsIn_wide.2 hs, hk, hfn, rfl, hd, fn, (by rw [← hf]; exact congrArg _ hfn), hv⟩
  | panic chain =>
    obtain ⟨hd, u', rfl, hR⟩ := hq
    obtain ⟨todo, hs⟩ := harr
    exact ⟨.panicked chain, u', w', _, hR, stepsIn_wide.2 hs, hk, hfn, rfl, hd, fn, (by rw [← hf]; exact congrArg _ hfn)⟩
  | exit id => exact hq.elim
  | goto t => exact hq.elim
  | outgrown =>
    obtain ⟨u', hR⟩ := hq
    exact ⟨.outgrown, u', w', b, hR, harr.resolve_left (by simp [hbd]), hk, hfn, trivial⟩

set_option maxRecDepth 100000 in
theorem tired_nil (w : World) : Calls Try.prog 54 #[.nilIface] w fun e w' => e = .returned (.bool false) ∧ w = w' := by
  go_enter Try.func54, Try.ntmps54
  go_wp2_with fail
  go_ret
  exact ⟨rfl, rfl⟩
set_option maxRecDepth 100000 in
theorem tired_much (w : World) : Calls Try.prog 54 #[.iface 144 (.agg #[])] w fun e w' => e = .returned (.bool true) ∧ Ext w w' := by
  have hta : ∀ w, (Instr.typeAssert (.iface 144 (.agg #[])) 20 144 true).run Try.prog w = .ok (.tuple #[.agg #[], .bool true]) w := fun w => by kernel_rfl
  have hE := hide (Ext.alloc w (.cells #[] 144))
  go_enter Try.func54, Try.ntmps54
  go_wp2_with fail
  go_ret
  exact ⟨rfl, hE.out⟩

set_option maxRecDepth 100000 in
theorem door_quiet (n ga gt ge : Nat) (w : World) : CallsDIn Fence.wide n Try.prog 81 #[.pointer (some ⟨ga, 0, none⟩), .pointer (some ⟨gt, 0, none⟩), .pointer (some ⟨ge, 0, none⟩)] .returning w fun e u' w' => u' = .returning ∧ e = .returned (.tuple #[]) ∧ w = w' := by
  refine callsDIn_of_wpS Try.func81 rfl fun c₀ cs hu => ?_
  apply wpS_seq
  apply wpS_region
  simp [wpOpsS, go_sem, recoverD, hu, Try.ntmps81, Exit.thenS]
  refine (tired_nil w).mono ?_
  rintro e w' ⟨rfl, rfl⟩
  refine wpS_cond (t := false) (by simp [Act.eval, Array.replicate]) ?_
  refine wpS_of_wp ?_
  simp only [Bool.false_eq_true, if_false]
  go_wp2
  exact ⟨rfl, .returning, by rw [← hu], _, results_none rfl _ _ _, rfl, rfl, rfl⟩

set_option maxRecDepth 100000 in
/-- what gave up leaves: no answers, no trials, the error -/
theorem door_tired (n ga gt ge : Nat) (va vt ve : Value) (w : World) (ha : Blk w ga 27 #[va]) (ht : Blk w gt 3 #[vt]) (he : Blk w ge 28 #[ve]) (h1 : ga ≠ gt) (h2 : ga ≠ ge) (h3 : gt ≠ ge) :
    CallsDIn Fence.wide n Try.prog 81 #[.pointer (some ⟨ga, 0, none⟩), .pointer (some ⟨gt, 0, none⟩), .pointer (some ⟨ge, 0, none⟩)] (.panicking tooMany) w fun e u' w' =>
      u' = .panicking [{ v := .iface 144 (.agg #[]), recovered := true }] ∧ e = .returned (.tuple #[]) ∧ ∃ w1, Ext w w1 ∧ w' = ((w1.setCell ⟨ga, 0, none⟩ (.slice none 0 0)).setCell ⟨gt, 0, none⟩ (.int .i64 0)).setCell ⟨ge, 0, none⟩ (.int .i64 120) := by
  refine callsDIn_of_wpS Try.func81 rfl fun c₀ cs hu => ?_
  have hu' : c₀.mode = .panicking [{ v := .iface 144 (.agg #[]), recovered := false }] := hu
  apply wpS_seq
  apply wpS_region
  simp [wpOpsS, go_sem, recoverD, hu', Try.ntmps81, Exit.thenS]
  refine (tired_much w).mono ?_
  rintro e w' ⟨rfl, hE⟩
  have HA := hide (ha.ext hE); have HT := hide (ht.ext hE); have HR := hide (he.ext hE); have HE := hide hE
  have c1 := HA.out.cell 0
  have c2 := HT.out.cell 0
  have c3 := HR.out.cell 0
  have f1 := HA.out.frozen 0
  have f2 := HT.out.frozen 0
  have f3 := HR.out.frozen 0
  clear ha ht he hE hu
  refine wpS_cond (t := true) (by simp [Act.eval, Array.replicate]) ?_
  refine wpS_of_wp ?_
  simp only [if_true]
  go_wp2
  exact ⟨rfl, _, rfl, _, results_none rfl _ _ _, rfl, rfl, w', HE.out, rfl⟩
set_option maxRecDepth 100000 in
theorem all_any (g : Nat) (w : World) : Calls Try.prog 56 #[.pointer (some ⟨g, 0, none⟩)] w fun e w' => e = .returned (.func (.func 88) #[] #[.pointer (some ⟨w.heap.size, 0, none⟩)]) ∧ w' = w.alloc (.cells #[.pointer (some ⟨g, 0, none⟩)] 106) := by
  have hmf : ∀ (fn : Fn) (first cap : Array Value) (w : World), (Instr.makeFunc fn first cap).run Try.prog w = .ok (.func fn first cap) w := fun _ _ _ _ => rfl
  go_enter Try.func56, Try.ntmps56
  go_wp2_with fail
  go_ret
  exact ⟨rfl, rfl⟩
/-- a call of a function, in a statement that draws its order -/
theorem step_calls {P : Program} {w : World} {f : FuncId} {args : Array Value} {R : Value → World → Prop} {ops : Array Oper} {o : Oper} {a : Act} {K : Act → World → Prop} {Q : Exit → Act → World → Prop} {E : Prop}
    (hgd : o.guard = none) (hrun : (execOp a.eval o).run P w = .ok (.enter f args) w) (hc : Calls P f args w fun e w' => ∃ v, e = .returned v ∧ R v w') (hK : ∀ v w', R v w' → K (a.put o.dst v) w') :
    if Region.wanted o (yielded ops a.tmps) = true then Oper.wp P o a w K Q else E := by
  have hw : Region.wanted o (yielded ops a.tmps) = true := by simp [Region.wanted, hgd]
  rw [if_pos hw]
  unfold Oper.wp
  rw [hrun]
  simp only [Oper.upon]
  refine hc.mono ?_
  rintro e w' ⟨v, rfl, hR⟩
  exact hK v w' hR
/-- rows that were collected, behind the stores of the results and the mark's end -/
theorem rmine_end {b : Nat} {w : World} {cs : List Value} {r : List V} {ga gt ge d : Nat} {va vt ve ua ut ue : Value} {o : Obj} (h : RMine b w cs r) (ha : Blk w ga 27 #[va]) (ht : Blk w gt 3 #[vt]) (he : Blk w ge 28 #[ve]) (n1 : ga ≠ gt) (n2 : ga ≠ ge) (n3 : gt ≠ ge) (hd : d < b) :
    RMine b ((((w.setCell ⟨ga, 0, none⟩ ua).setCell ⟨gt, 0, none⟩ ut).setCell ⟨ge, 0, none⟩ ue).putObj d o) cs r := by
  obtain ⟨A, n, c, h1, h2⟩ := ((h.set_ ha (by decide) 0 ua).set_ (ht.far (p := ⟨ga, 0, none⟩) (Ne.symm n1) ua) (by decide) 0 ut).set_ ((he.far (p := ⟨ga, 0, none⟩) (Ne.symm n2) ua).far (p := ⟨gt, 0, none⟩) (Ne.symm n3) ut) (by decide) 0 ue
  exact ⟨A, n, c, h1, own_putObj h2 fun g hg e => by have := (h2.lt g hg).1; omega⟩
theorem own_end {b : Nat} {w : World} {e : TypeId} {s n : Nat} {v : Value} {xs : List Value} {ga gt ge d : Nat} {va vt ve ua ut ue : Value} {o : Obj} (h : w.ownsRow b e s v n xs) (ha : Blk w ga 27 #[va]) (ht : Blk w gt 3 #[vt]) (he : Blk w ge 28 #[ve]) (n1 : ga ≠ gt) (n2 : ga ≠ ge) (n3 : gt ≠ ge) (hd : d < b)
    (e1 : e ≠ 27) (e2 : e ≠ 3) (e3 : e ≠ 28) : ((((w.setCell ⟨ga, 0, none⟩ ua).setCell ⟨gt, 0, none⟩ ut).setCell ⟨ge, 0, none⟩ ue).putObj d o).ownsRow b e s v n xs := by
  have h2 := mine_set (mine_set (mine_set h ha e1 0 ua) (ht.far (p := ⟨ga, 0, none⟩) (Ne.symm n1) ua) e2 0 ut) ((he.far (p := ⟨ga, 0, none⟩) (Ne.symm n2) ua).far (p := ⟨gt, 0, none⟩) (Ne.symm n3) ut) e3 0 ue
  exact own_putObj h2 fun g hg e => by have := (h2.lt g hg).1; omega
theorem ext_end {w0 w : World} {ga gt ge d : Nat} {ua ut ue : Value} {o : Obj} (h : Ext w0 w) (h1 : w0.heap.size ≤ ga) (h2 : w0.heap.size ≤ gt) (h3 : w0.heap.size ≤ ge) (h4 : w0.heap.size ≤ d) : Ext w0 ((((w.setCell ⟨ga, 0, none⟩ ua).setCell ⟨gt, 0, none⟩ ut).setCell ⟨ge, 0, none⟩ ue).putObj d o) := by
  have hF : Fr (fun g => w0.heap.size ≤ g) w0 ((((w.setCell ⟨ga, 0, none⟩ ua).setCell ⟨gt, 0, none⟩ ut).setCell ⟨ge, 0, none⟩ ue).putObj d o) := ((((Fr.of_ext h).setCell (p := ⟨ga, 0, none⟩) (.inl h1) _).setCell (p := ⟨gt, 0, none⟩) (.inl h2) _).setCell (p := ⟨ge, 0, none⟩) (.inl h3) _).putObj (.inl h4)
  exact hF.out fun _ h => h
theorem blks_end {w : World} {ga gt ge d : Nat} {va vt ve ua ut ue : Value} {o : Obj} (ha : Blk w ga 27 #[va]) (ht : Blk w gt 3 #[vt]) (he : Blk w ge 28 #[ve]) (n1 : ga ≠ gt) (n2 : ga ≠ ge) (n3 : gt ≠ ge) (m1 : ga ≠ d) (m2 : gt ≠ d) (m3 : ge ≠ d) :
    Blk ((((w.setCell ⟨ga, 0, none⟩ ua).setCell ⟨gt, 0, none⟩ ut).setCell ⟨ge, 0, none⟩ ue).putObj d o) ga 27 #[ua] ∧ Blk ((((w.setCell ⟨ga, 0, none⟩ ua).setCell ⟨gt, 0, none⟩ ut).setCell ⟨ge, 0, none⟩ ue).putObj d o) gt 3 #[ut] ∧
    Blk ((((w.setCell ⟨ga, 0, none⟩ ua).setCell ⟨gt, 0, none⟩ ut).setCell ⟨ge, 0, none⟩ ue).putObj d o) ge 28 #[ue] :=
  ⟨Blk.putObj (((ha.set_ 0 _).far (p := ⟨gt, 0, none⟩) n1 _).far (p := ⟨ge, 0, none⟩) n2 _) m1, Blk.putObj (((ht.far (p := ⟨ga, 0, none⟩) (Ne.symm n1) _).set_ 0 _).far (p := ⟨ge, 0, none⟩) n3 _) m2,
    Blk.putObj (((he.far (p := ⟨ga, 0, none⟩) (Ne.symm n2) _).far (p := ⟨gt, 0, none⟩) (Ne.symm n3) _).set_ 0 _) m3⟩
theorem mark_end {w : World} {ga gt ge d : Nat} {ua ut ue : Value} {o : Obj} (h : w.heap[d]? = some o) (m1 : ga ≠ d) (m2 : gt ≠ d) (m3 : ge ≠ d) : (((w.setCell ⟨ga, 0, none⟩ ua).setCell ⟨gt, 0, none⟩ ut).setCell ⟨ge, 0, none⟩ ue).heap[d]? = some o :=
  (Below.heap_setCell _ ⟨ge, 0, none⟩ _ d (Ne.symm m3)).trans ((Below.heap_setCell _ ⟨gt, 0, none⟩ _ d (Ne.symm m2)).trans ((Below.heap_setCell _ ⟨ga, 0, none⟩ _ d (Ne.symm m1)).trans h))
/-- the call's two deferred calls: the range's mark, the function that makes an error of a walk that gave up -/
def doors (d ga gt ge : Nat) : List Deferred := [{ target := .collected d, args := #[] }, { target := .fn (.func 81) #[.pointer (some ⟨ga, 0, none⟩), .pointer (some ⟨gt, 0, none⟩), .pointer (some ⟨ge, 0, none⟩)], args := #[] }]
theorem door_enters (w : World) (ga gt ge : Nat) : (invoke (.fn (.func 81) #[.pointer (some ⟨ga, 0, none⟩), .pointer (some ⟨gt, 0, none⟩), .pointer (some ⟨ge, 0, none⟩)]) #[]).run Try.prog w = .ok (.enter 81 #[.pointer (some ⟨ga, 0, none⟩), .pointer (some ⟨gt, 0, none⟩), .pointer (some ⟨ge, 0, none⟩)]) w := by
  have e2 := (enters_of Try.func81 (by kernel_rfl) rfl : Enters Try.prog 81) #[.pointer (some ⟨ga, 0, none⟩), .pointer (some ⟨gt, 0, none⟩), .pointer (some ⟨ge, 0, none⟩)] w
  simp [invoke, go_sem, e2]
theorem door_ok {n d ga gt ge : Nat} {fn : Func} {tmps : Array Value} {R : Ending → World → Prop} {W : World} (hk : W.heap[d]? = some (.deferred (some [])))
    (h : ∃ v, (results fn tmps).run Try.prog (W.putObj d (.deferred none)) = .ok v (W.putObj d (.deferred none)) ∧ R (.returned v) (W.putObj d (.deferred none))) : LeavesInM Fence.wide n Try.prog fn tmps R (doors d ga gt ge) .returning W := by
  refine ⟨by simp, .inl ⟨d, _, rfl, run_takeDeferred hk, by simp, .inr ⟨fun h => absurd h (by simp [Fence.wide]), .func 81, _, 81, _, rfl, door_enters _ ga gt ge, fun _ _ => trivial, (door_quiet _ ga gt ge _).mono ?_⟩⟩⟩
  rintro e u' w' ⟨rfl, rfl, rfl⟩
  exact h
theorem door_err {n d ga gt ge : Nat} {fn : Func} {tmps : Array Value} {R : Ending → World → Prop} {W : World} {va vt ve : Value} (hk : W.heap[d]? = some (.deferred (some []))) (ha : Blk W ga 27 #[va]) (ht : Blk W gt 3 #[vt]) (he : Blk W ge 28 #[ve]) (n1 : ga ≠ gt) (n2 : ga ≠ ge) (n3 : gt ≠ ge) (m1 : ga ≠ d) (m2 : gt ≠ d) (m3 : ge ≠ d)
    (h : ∀ w1, Ext (W.putObj d (.deferred none)) w1 → Blk (((w1.setCell ⟨ga, 0, none⟩ (.slice none 0 0)).setCell ⟨gt, 0, none⟩ (.int .i64 0)).setCell ⟨ge, 0, none⟩ (.int .i64 120)) ga 27 #[.slice none 0 0] →
      Blk (((w1.setCell ⟨ga, 0, none⟩ (.slice none 0 0)).setCell ⟨gt, 0, none⟩ (.int .i64 0)).setCell ⟨ge, 0, none⟩ (.int .i64 120)) gt 3 #[.int .i64 0] → Blk (((w1.setCell ⟨ga, 0, none⟩ (.slice none 0 0)).setCell ⟨gt, 0, none⟩ (.int .i64 0)).setCell ⟨ge, 0, none⟩ (.int .i64 120)) ge 28 #[.int .i64 120] →
      ∃ v, (results fn tmps).run Try.prog (((w1.setCell ⟨ga, 0, none⟩ (.slice none 0 0)).setCell ⟨gt, 0, none⟩ (.int .i64 0)).setCell ⟨ge, 0, none⟩ (.int .i64 120)) = .ok v (((w1.setCell ⟨ga, 0, none⟩ (.slice none 0 0)).setCell ⟨gt, 0, none⟩ (.int .i64 0)).setCell ⟨ge, 0, none⟩ (.int .i64 120)) ∧
        R (.returned v) (((w1.setCell ⟨ga, 0, none⟩ (.slice none 0 0)).setCell ⟨gt, 0, none⟩ (.int .i64 0)).setCell ⟨ge, 0, none⟩ (.int .i64 120))) : LeavesInM Fence.wide n Try.prog fn tmps R (doors d ga gt ge) (.panicking tooMany) W := by
  have ha' := ha.putObj (l := d) (o := .deferred none) m1
  have ht' := ht.putObj (l := d) (o := .deferred none) m2
  have he' := he.putObj (l := d) (o := .deferred none) m3
  refine ⟨by simp, .inl ⟨d, _, rfl, run_takeDeferred hk, by simp, .inr ⟨fun h => absurd h (by simp [Fence.wide]), .func 81, _, 81, _, rfl, door_enters _ ga gt ge, fun _ _ => trivial, (door_tired _ ga gt ge va vt ve _ ha' ht' he' n1 n2 n3).mono ?_⟩⟩⟩
  rintro e u' w' ⟨rfl, rfl, w1, hE, rfl⟩
  exact h w1 hE ((((ha'.ext hE).set_ 0 _).far (p := ⟨gt, 0, none⟩) n1 _).far (p := ⟨ge, 0, none⟩) n2 _) (((((ht'.ext hE).far (p := ⟨ga, 0, none⟩) (Ne.symm n1) _).set_ 0 _)).far (p := ⟨ge, 0, none⟩) n3 _)
    (((((he'.ext hE).far (p := ⟨ga, 0, none⟩) (Ne.symm n2) _).far (p := ⟨gt, 0, none⟩) (Ne.symm n3) _)).set_ 0 _)
end Go.Proofs.Ytpfjkjmimmklcaa
