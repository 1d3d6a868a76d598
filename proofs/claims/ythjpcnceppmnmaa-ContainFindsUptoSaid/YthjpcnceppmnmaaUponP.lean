/-
  Laying an atom upon an atom, step by step; a world that is as it was but for one map.
-/
import Derived.Test.YthjpcnceppmnmaaMap
namespace Go.Proofs.Ythjpcnceppmnmaa
open Go.RowKit

def stepX (σ : Env) (t u : Tm) : Tm := if noVar t then t else (σ t.v).getD u
def stepS (σ : Env) (t u : Tm) : Env := if noVar t then σ else match σ t.v with | some _ => σ | none => σ.put t.v u
def stepF (σ : Env) (fr : List ByteArray) (t : Tm) : List ByteArray := if noVar t then fr else match σ t.v with | some _ => fr | none => fr ++ [t.v]
theorem stepF_len (σ : Env) (fr : List ByteArray) (t : Tm) : (stepF σ fr t).length ≤ fr.length + 1 := by
  unfold stepF
  split
  · omega
  · split
    · omega
    · simp
/-- so much has been laid; the rest is to come -/
def UGo (σ σi : Env) (ts us : List Tm) (i : Nat) (fr : List ByteArray) : Prop :=
  uponGo σ ts us = ((uponGo σi (ts.drop i) (us.drop i)).1, fr ++ (uponGo σi (ts.drop i) (us.drop i)).2.1, (uponGo σi (ts.drop i) (us.drop i)).2.2)
theorem UGo.start (σ : Env) (ts us : List Tm) : UGo σ σ ts us 0 [] := by simp [UGo]
theorem UGo.step {σ σi : Env} {ts us : List Tm} {i : Nat} {fr : List ByteArray} (h : UGo σ σi ts us i fr) {t u : Tm} (ht : ts[i]? = some t) (hu : us[i]? = some u) (hs : sameT (stepX σi t u) u = true) : UGo σ (stepS σi t u) ts us (i + 1) (stepF σi fr t) := by
  obtain ⟨h1, e1⟩ := List.getElem?_eq_some_iff.1 ht
  obtain ⟨h2, e2⟩ := List.getElem?_eq_some_iff.1 hu
  unfold UGo at h ⊢
  rw [h, List.drop_eq_getElem_cons h1, List.drop_eq_getElem_cons h2, e1, e2]
  simp only [uponGo]
  unfold stepX at hs
  unfold stepS stepF
  by_cases hn : noVar t = true
  · simp only [hn, if_true] at hs ⊢
    simp [hs]
  · simp only [hn, Bool.false_eq_true, if_false] at hs ⊢
    cases hσ : σi t.v with
    | some o =>
      rw [hσ] at hs
      simp only [Option.getD_some] at hs
      simp [hs]
    | none => simp
theorem UGo.stop {σ σi : Env} {ts us : List Tm} {i : Nat} {fr : List ByteArray} (h : UGo σ σi ts us i fr) {t u : Tm} (ht : ts[i]? = some t) (hu : us[i]? = some u) (hs : sameT (stepX σi t u) u = false) : uponGo σ ts us = (stepS σi t u, stepF σi fr t, false) := by
  obtain ⟨h1, e1⟩ := List.getElem?_eq_some_iff.1 ht
  obtain ⟨h2, e2⟩ := List.getElem?_eq_some_iff.1 hu
  unfold UGo at h
  rw [h, List.drop_eq_getElem_cons h1, List.drop_eq_getElem_cons h2, e1, e2]
  simp only [uponGo]
  unfold stepX at hs
  unfold stepS stepF
  by_cases hn : noVar t = true
  · simp only [hn, if_true] at hs ⊢
    simp [hs]
  · simp only [hn, Bool.false_eq_true, if_false] at hs ⊢
    cases hσ : σi t.v with
    | some o =>
      rw [hσ] at hs
      simp only [Option.getD_some] at hs
      simp [hs]
    | none =>
      rw [hσ] at hs
      have : sameT u u = true := sameT_iff.2 rfl
      simp only [Option.getD_none, this] at hs
      cases hs
theorem UGo.done {σ σi : Env} {ts us : List Tm} {i : Nat} {fr : List ByteArray} (h : UGo σ σi ts us i fr) (hi : ts.length ≤ i) : uponGo σ ts us = (σi, fr, true) := by
  unfold UGo at h
  rw [h, List.drop_of_length_le hi]
  simp [uponGo]

/-- what was there stays, but for the map in block g -/
def ExtM (g : Nat) (w w' : World) : Prop := w.grownBy w' (some g)
theorem ExtM.refl (g : Nat) (w : World) : ExtM g w w := ⟨rfl, rfl, rfl, Nat.le_refl _, fun _ _ _ => rfl⟩
theorem ExtM.trans {g : Nat} {a b c : World} (h : ExtM g a b) (k : ExtM g b c) : ExtM g a c :=
  ⟨k.os.trans h.os, k.tape.trans h.tape, k.output.trans h.output, Nat.le_trans h.size k.size, fun j hj hne => (k.block j (Nat.lt_of_lt_of_le hj h.size) hne).trans (h.block j hj hne)⟩
theorem ExtM.of {g : Nat} {w w' : World} (h : Ext w w') : ExtM g w w' := ⟨Below.os h, Below.tape h, Below.output h, h.size, fun _ hk _ => h.block hk⟩
theorem ExtM.toExt {g : Nat} {w0 w w' : World} (h : ExtM g w w') (h0 : Ext w0 w) (hg : w0.heap.size ≤ g) : Ext w0 w' :=
  Below.grown h0 h h0.size (fun k hk => by cases hk; exact hg)
theorem ExtM.turned {g : Nat} {w w' : World} (h : w.mapTurned w' g) : ExtM g w w' := h.grown
theorem ExtM.grown {g : Nat} {a w w' : World} {row : Option Nat} (h : ExtM g a w) (hg : w.grownBy w' row) (hr : ∀ k, row = some k → a.heap.size ≤ k) : ExtM g a w' :=
  ⟨hg.os.trans h.os, hg.tape.trans h.tape, hg.output.trans h.output, Nat.le_trans h.size hg.size, fun j hj hne => (hg.block j (Nat.lt_of_lt_of_le hj h.size) (fun e => by have := hr j e.symm; omega)).trans (h.block j hj hne)⟩
theorem ExtM.setCell {g : Nat} {a w : World} (h : ExtM g a w) {p : Addr} (hp : a.heap.size ≤ p.block) (u : Value) : ExtM g a (w.setCell p u) :=
  h.grown (row := some p.block) ⟨rfl, rfl, rfl, by simp, fun k _ hk => Below.heap_setCell _ _ _ _ (fun e => hk (by rw [e]))⟩ (fun k hk => by injection hk with hk; omega)
theorem ExtM.alloc {g : Nat} {a w : World} (h : ExtM g a w) (o : Obj) : ExtM g a (w.alloc o) := h.trans (.of (Ext.alloc w o))
theorem Blk.set4 {w : World} {g : Nat} {t : TypeId} {cs : Array Value} (h : Blk w g t cs) (hs : cs.size = 4) (a b c d : Value) : Blk ((((w.setCell ⟨g, 0, none⟩ a).setCell ⟨g, 1, none⟩ b).setCell ⟨g, 2, none⟩ c).setCell ⟨g, 3, none⟩ d) g t #[a, b, c, d] := by
  have := (((h.set_ 0 a).set_ 1 b).set_ 2 c).set_ 3 d
  obtain ⟨l⟩ := cs
  match l, hs with
  | [x0, x1, x2, x3], _ => simpa using this
theorem MapS.set4 {w : World} {b n g : Nat} {σ : SMap} (h : MapS w b n σ) (hg : b ≠ g) (u0 u1 u2 u3 : Value) : MapS ((((w.setCell ⟨g, 0, none⟩ u0).setCell ⟨g, 1, none⟩ u1).setCell ⟨g, 2, none⟩ u2).setCell ⟨g, 3, none⟩ u3) b n σ :=
  (((h.setCell (p := ⟨g, 0, none⟩) hg u0).setCell (p := ⟨g, 1, none⟩) hg u1).setCell (p := ⟨g, 2, none⟩) hg u2).setCell (p := ⟨g, 3, none⟩) hg u3
theorem ExtM.set4 {g : Nat} {a w : World} (h : ExtM g a w) {k : Nat} (hk : a.heap.size ≤ k) (u0 u1 u2 u3 : Value) : ExtM g a ((((w.setCell ⟨k, 0, none⟩ u0).setCell ⟨k, 1, none⟩ u1).setCell ⟨k, 2, none⟩ u2).setCell ⟨k, 3, none⟩ u3) :=
  (((h.setCell (p := ⟨k, 0, none⟩) hk u0).setCell (p := ⟨k, 1, none⟩) hk u1).setCell (p := ⟨k, 2, none⟩) hk u2).setCell (p := ⟨k, 3, none⟩) hk u3
theorem own_set4 {w : World} {base g : Nat} {e t : TypeId} {size n : Nat} {v : Value} {xs : List Value} {cs : Array Value} (h : w.ownsRow base e size v n xs) (hb : Blk w g t cs) (hne : e ≠ t) (u0 u1 u2 u3 : Value) :
    ((((w.setCell ⟨g, 0, none⟩ u0).setCell ⟨g, 1, none⟩ u1).setCell ⟨g, 2, none⟩ u2).setCell ⟨g, 3, none⟩ u3).ownsRow base e size v n xs := by
  have h1 := hb.set_ 0 u0
  have h2 := h1.set_ 1 u1
  have h3 := h2.set_ 2 u2
  exact own_set (own_set (own_set (own_set h hb hne 0 u0) h1 hne 1 u1) h2 hne 2 u2) h3 hne 3 u3
theorem own_turned {w w' : World} {b n' base : Nat} {σ : SMap} {e : TypeId} {size n : Nat} {v : Value} {xs : List Value} (h : w.ownsRow base e size v n xs) (hm : MapS w b n' σ) (ht : w.mapTurned w' b) : w'.ownsRow base e size v n xs :=
  h.kept ht.grown (.inr (Ne.symm (hm.ne_own h)))
theorem MapS.grown {w w' : World} {b n base : Nat} {σ : SMap} {e : TypeId} {size m : Nat} {v : Value} {xs : List Value} (h : MapS w b n σ) (ho : w.ownsRow base e size v m xs) (hg : w.grownBy w' v.ownBlock) : MapS w' b n σ :=
  h.block (hg.block b h.lt (h.ne_own ho))
theorem ExtM.cell {g : Nat} {w w' : World} (h : ExtM g w w') {p : Addr} {v : Value} (hp : w.cell? p = some v) (hg : p.block ≠ g) : w'.cell? p = some v :=
  World.grownBy.cell h hp (fun e => hg (by injection e))
theorem ExtM.frozen {g : Nat} {w w' : World} (h : ExtM g w w') {p : Addr} (hp : p.block < w.heap.size) (hg : p.block ≠ g) : w'.frozen? p = w.frozen? p :=
  World.frozen?_of_block (World.grownBy.block h p.block hp (fun e => hg (by injection e)))
theorem ExtM.blk {g g' : Nat} {w w' : World} (h : ExtM g w w') {t : TypeId} {cs : Array Value} (hb : Blk w g' t cs) (hg : g' ≠ g) : Blk w' g' t cs :=
  (World.grownBy.block h g' hb.lt (fun e => hg (by injection e))).trans hb
theorem ExtM.cells {g g' : Nat} {w w' : World} (h : ExtM g w w') {cs : List Value} (hb : CellsAt w g' cs) (hg : g' ≠ g) : CellsAt w' g' cs := fun i u hu => h.cell (hb i u hu) hg
theorem ExtM.own {g : Nat} {w w' : World} (h : ExtM g w w') {base : Nat} {e : TypeId} {s n : Nat} {v : Value} {xs : List Value} (ho : w.ownsRow base e s v n xs) (hg : some g ≠ v.ownBlock) : w'.ownsRow base e s v n xs :=
  ho.kept h (.inr (Ne.symm hg))
/-- block g is no row of cells -/
def NoRow (w : World) (g : Nat) : Prop := ∀ i, w.cell? ⟨g, i, none⟩ = none
theorem MapS.noRow {w : World} {b n : Nat} {σ : SMap} (h : MapS w b n σ) : NoRow w b := fun i => by
  cases hc : w.cell? ⟨b, i, none⟩ with
  | none => rfl
  | some u => exact absurd rfl (h.cell_ne hc)
theorem ExtM.sl {g : Nat} {w w' : World} (h : ExtM g w w') (hg : NoRow w g) {A : Option Addr} {n size : Nat} {xs : List Value} (hs : Sl w A n size xs) : Sl w' A n size xs := by
  refine ⟨hs.1, fun hn => ?_⟩
  obtain ⟨b, off, hA, hc⟩ := hs.2 hn
  refine ⟨b, off, hA, fun j u hu => h.cell (hc j u hu) (fun e => ?_)⟩
  have h1 := hc j u hu
  simp only at e
  rw [e, hg] at h1
  cases h1
theorem ExtM.flat {α : Type} {f : α → List Value} {s g : Nat} {w w' : World} (h : ExtM g w w') (hg : NoRow w g) {A : Option Addr} {n : Nat} {xs : List α} (hl : LAt (RFlat f) s w A n xs) : LAt (RFlat f) s w' A n xs := by
  obtain ⟨h1, cells, h2, h3⟩ := hl
  exact ⟨h1, cells, h2.mono fun _ _ h => h, h.sl hg h3⟩
theorem ExtM.tms {g : Nat} {w w' : World} (h : ExtM g w w') (hg : NoRow w g) {A : Option Addr} {n : Nat} {xs : List Tm} (hl : LAt RT 4 w A n xs) : LAt RT 4 w' A n xs := h.flat hg hl
theorem ExtM.strs {g : Nat} {w w' : World} (h : ExtM g w w') (hg : NoRow w g) {A : Option Addr} {n : Nat} {xs : List ByteArray} (hl : LAt RS 1 w A n xs) : LAt RS 1 w' A n xs := h.flat hg hl
theorem ExtM.atms {g : Nat} {w w' : World} (h : ExtM g w w') (hg : NoRow w g) {A : Option Addr} {n : Nat} {xs : List Atm} (hl : LAt RA 2 w A n xs) : LAt RA 2 w' A n xs := by
  obtain ⟨h1, cells, h2, h3⟩ := hl
  exact ⟨h1, cells, h2.mono fun cs a ⟨A, n, c, e, ha⟩ => ⟨A, n, c, e, h.tms hg ha⟩, h.sl hg h3⟩
theorem ExtM.query {g : Nat} {w w' : World} (h : ExtM g w w') (hg : NoRow w g) {L : QLoc} {q : Qy} (hq : QAt w L q) : QAt w' L q := ⟨h.strs hg hq.head, h.atms hg hq.atoms, hq.cap⟩

section
variable {P : Program}
theorem wpList_append_m {w : World} {ops : Array Oper} {rest : List Oper} {o : Oper} {a : Act} {Q : Exit → Act → World → Prop} (hgd : o.guard = none) (s x : Operand) (t : TypeId)
    (ho : o.op = .call { callee := .builtin .append, args := #[s, x], argTypes := #[t, t] })
    (e : TypeId) (i : TypeInfo) (z : Value) (size bytes : Nat) (ht : P.underlying t = some (.slice e)) (hi : P.info? e = some i) (hz : i.zero = some z)
    (hsize : i.size = size) (hby : i.bytes = bytes) (hzs : z.cells.size = size) (hsz : 0 < size) (base : Nat) (hbase : base ≤ w.heap.size)
    (v : Value) (n : Nat) (xs : List Value) (hs : a.eval s = v) (hown : w.ownsRow base e size v n xs)
    (A : Option Addr) (m c : Nat) (news : List Value) (hx : a.eval x = .slice A m c) (hr : Sl w A m size news) (h1 : OneCells news)
    (h63 : n + m ≤ maxLen) (hbytes : (n + m) * bytes ≤ 140737488355328)
    (h : ∀ A' c' w', Hid (w'.ownsRow base e size (.slice A' (n + m) c') (n + m) (xs ++ news)) → Hid (w.grownBy w' v.ownBlock) → Hid ((Value.slice A' (n + m) c').ownBlock = v.ownBlock ∨ (Value.slice A' (n + m) c').ownBlock = some w.heap.size) → wpList P ops Q rest (a.put o.dst (.slice A' (n + m) c')) w') : wpList P ops Q (o :: rest) a w := by
  refine wpList_plain hgd fun K hK => ?_
  obtain ⟨v', w', hrun, h2, h3, h4⟩ := run_append_sl (P := P) w base t o.type e i z size bytes ht hi hz hsize hby hzs hsz v n xs hown A m c news hr h1 h63 hbytes hbase
  have hv : ∃ A' c', v' = .slice A' (n + m) c' := by
    rcases h2.2 with ⟨h5, h6⟩ | ⟨g, cap, cur, h5, _⟩
    · exact ⟨none, 0, by rw [h5, h6]⟩
    · exact ⟨_, _, h5⟩
  obtain ⟨A', c', rfl⟩ := hv
  unfold Oper.wp execOp
  simp only [ho, resolve, invoke, builtin, Sem.run_bind, Sem.run_pure, Result.andThen_ok, List.map_toArray, List.map_cons, List.map_nil, hs, hx, hrun]
  exact hK _ _ (h A' c' w' h2 h3 h4)
end
end Go.Proofs.Ythjpcnceppmnmaa
