/-
  Slices in memory, over any program: what a slice reads as; copy and append onto memory of the call's own.
-/
import Derived.Test.YthjpcnceppmnmaaExt
import Derived.Laws.CopyOwn
import Derived.Laws.OwnMore
import Derived.OwnWalk
import Derived.Maps.AppendAt
namespace Go.Proofs.Ythjpcnceppmnmaa
open Go.RowKit

/-- the slice (A, n) holds the cells xs -/
def Sl (w : World) (A : Option Addr) (n size : Nat) (xs : List Value) : Prop :=
  xs.length = n * size ∧ (0 < n → ∃ b off, A = some ⟨b, off, none⟩ ∧ ∀ (j : Nat) (u : Value), xs[j]? = some u → w.cell? ⟨b, off + j, none⟩ = some u)
theorem Sl.ext {w w' : World} {A : Option Addr} {n size : Nat} {xs : List Value} (h : Sl w A n size xs) (hw : Ext w w') : Sl w' A n size xs :=
  ⟨h.1, fun hn => let ⟨b, off, hA, hc⟩ := h.2 hn; ⟨b, off, hA, fun j u hu => hw.cell (hc j u hu)⟩⟩
theorem Sl.nil (w : World) (A : Option Addr) (size : Nat) : Sl w A 0 size [] := ⟨by simp, fun h => absurd h (by omega)⟩
theorem add_flat (b o i : Nat) : (⟨b, o, none⟩ : Addr).add i = ⟨b, o + i, none⟩ := by unfold Addr.add; split <;> simp_all
theorem Sl.own {w : World} {base : Nat} {e : TypeId} {size n c : Nat} {A : Option Addr} {xs : List Value} (h : w.ownsRow base e size (.slice A n c) n xs) : Sl w A n size xs := by
  refine ⟨h.1, fun hn => ?_⟩
  rcases h.2 with ⟨h1, h2⟩ | ⟨g, cap, cur, hv, _⟩
  · omega
  · injection hv with hA
    subst hA
    refine ⟨g, 0, rfl, fun j u hu => ?_⟩
    have := h.cells (g := g) rfl j u hu
    rwa [add_flat] at this

/-- block g is just the cells cs -/
def Blk (w : World) (g : Nat) (t : TypeId) (cs : Array Value) : Prop := w.heap[g]? = some (.cells cs t (0, 0))
theorem Blk.lt {w : World} {g : Nat} {t : TypeId} {cs : Array Value} (h : Blk w g t cs) : g < w.heap.size := by
  rcases Nat.lt_or_ge g w.heap.size with hlt | hge
  · exact hlt
  · unfold Blk at h; rw [Array.getElem?_eq_none hge] at h; cases h
theorem Blk.cell {w : World} {g : Nat} {t : TypeId} {cs : Array Value} (h : Blk w g t cs) (i : Nat) : w.cell? ⟨g, i, none⟩ = cs[i]? := cell_of_row w g i cs t (0, 0) h
theorem Blk.frozen {w : World} {g : Nat} {t : TypeId} {cs : Array Value} (h : Blk w g t cs) (i : Nat) : w.frozen? ⟨g, i, none⟩ = false := by
  unfold Blk at h
  simp [World.frozen?, h]
theorem Blk.new (w : World) (t : TypeId) (cs : Array Value) : Blk (w.alloc (.cells cs t)) w.heap.size t cs := heap_alloc_new w _
theorem Blk.ext {w w' : World} {g : Nat} {t : TypeId} {cs : Array Value} (h : Blk w g t cs) (hw : Ext w w') : Blk w' g t cs := (hw.block h.lt).trans h
theorem Blk.set_ {w : World} {g : Nat} {t : TypeId} {cs : Array Value} (h : Blk w g t cs) (i : Nat) (u : Value) : Blk (w.setCell ⟨g, i, none⟩ u) g t (cs.setIfInBounds i u) := by
  unfold Blk at h ⊢
  simp [World.setCell, Array.getElem?_modify, h]
theorem Blk.far {w : World} {g : Nat} {t : TypeId} {cs : Array Value} (h : Blk w g t cs) {p : Addr} (hp : g ≠ p.block) (u : Value) : Blk (w.setCell p u) g t cs := (Below.heap_setCell w p u g hp).trans h
theorem Blk.sl {w : World} {g : Nat} {t : TypeId} {cs : Array Value} (h : Blk w g t cs) {n size : Nat} (hn : cs.size = n * size) : Sl w (some ⟨g, 0, none⟩) n size cs.toList :=
  ⟨by rw [Array.length_toList]; exact hn, fun _ => ⟨g, 0, rfl, fun j u hu => by rw [Nat.zero_add, h.cell]; simpa using hu⟩⟩

/-- a made block that is filled from its head on -/
def fillAt (vals : List Value) (z : Value) (i : Nat) : Array Value := (vals.take i ++ List.replicate (vals.length - i) z).toArray
theorem fillAt_zero (vals : List Value) (z : Value) : madeCells #[z] vals.length = fillAt vals z 0 := by
  apply Array.toList_inj.1
  rw [toList_madeCells_one]; simp [fillAt]
theorem fillAt_size (vals : List Value) (z : Value) (i : Nat) (h : i ≤ vals.length) : (fillAt vals z i).size = vals.length := by simp [fillAt]; omega
theorem fillAt_get (vals : List Value) (z : Value) (i : Nat) (h : i < vals.length) : (fillAt vals z i)[i]? = some z := by
  simp only [fillAt, List.getElem?_toArray]
  rw [List.getElem?_append_right (by simp; omega)]
  simp only [List.length_take]
  rw [List.getElem?_replicate]
  simp; omega
theorem fillAt_set (vals : List Value) (z : Value) (i : Nat) (v : Value) (h : vals[i]? = some v) : (fillAt vals z i).setIfInBounds i v = fillAt vals z (i + 1) := by
  have hl : i < vals.length := (List.getElem?_eq_some_iff.1 h).1
  have ht : vals.take (i + 1) = vals.take i ++ [v] := by rw [List.take_add_one, h]; rfl
  have hr : List.replicate (vals.length - i) z = z :: List.replicate (vals.length - (i + 1)) z := by
    rw [show vals.length - i = (vals.length - (i + 1)) + 1 by omega, List.replicate_succ]
  unfold fillAt
  rw [ht, hr, List.setIfInBounds_toArray]
  congr 1
  rw [List.set_append_right _ _ (by simp; omega)]
  simp [Nat.min_eq_left (Nat.le_of_lt hl)]
theorem fillAt_end (vals : List Value) (z : Value) : fillAt vals z vals.length = vals.toArray := by simp [fillAt]

def OneCells (xs : List Value) : Prop := ∀ v ∈ xs, v.oneCell' = true

/-- what is handed back is memory of the call's own -/
def RetOwn (w0 : World) (e : TypeId) (size n : Nat) (xs : List Value) (en : Ending) (w' : World) : Prop :=
  ∃ A c, en = .returned (.slice A n c) ∧ w'.ownsRow w0.heap.size e size (.slice A n c) n xs ∧ Ext w0 w'

theorem Blk.grown {w w' : World} {g : Nat} {t : TypeId} {cs : Array Value} {row : Option Nat} (h : Blk w g t cs) (hb : w.grownBy w' row) (hg : some g ≠ row) : Blk w' g t cs := (hb.block g h.lt hg).trans h
/-- blocks of different element types differ -/
theorem own_ne_blk {w : World} {base g : Nat} {e t : TypeId} {size n : Nat} {v : Value} {xs : List Value} {cs : Array Value} (h : w.ownsRow base e size v n xs) (hb : Blk w g t cs) (hne : e ≠ t) : some g ≠ v.ownBlock := by
  rcases h.2 with ⟨rfl, _⟩ | ⟨g', cap, cur, rfl, _, hh, _⟩
  · simp [Value.ownBlock]
  · intro he
    have : g' = g := by simpa [Value.ownBlock] using he.symm
    subst this
    unfold Blk at hb
    rw [hb] at hh
    injection hh with hh
    injection hh with _ ht
    exact hne ht.symm

section
variable {P : Program}
/-- an operation whose value is given -/
theorem wpList_val {w : World} {ops : Array Oper} {rest : List Oper} {o : Oper} {a : Act} {Q : Exit → Act → World → Prop} (hgd : o.guard = none) (v : Value) (hrun : (execOp a.eval o).run P w = .ok (.value v) w)
    (h : wpList P ops Q rest (a.put o.dst v) w) : wpList P ops Q (o :: rest) a w := by
  refine wpList_plain hgd fun K hK => ?_
  unfold Oper.wp
  rw [hrun]
  exact hK _ _ h
theorem exec_bin {w : World} {a : Act} {dst : Option Tmp} {op : BinOp} {t t' ty : TypeId} {x y : Operand} {pos : String} {aft : Array Edge} {u v r : Value} (hx : a.eval x = u) (hy : a.eval y = v) (hop : op ≠ .eql ∧ op ≠ .neq)
    (h : (binOp op t u v).run P w = .ok r w) : (execOp a.eval ⟨dst, .binOp op t x y t', ty, pos, aft, none⟩).run P w = .ok (.value r) w := by
  obtain ⟨h1, h2⟩ := hop
  cases op <;> first | exact absurd rfl h1 | exact absurd rfl h2 | (simp only [execOp, hx, hy]; simp [eqGuard, h])
theorem exec_conv {w : World} {a : Act} {dst : Option Tmp} {s t ty : TypeId} {x : Operand} {pos : String} {aft : Array Edge} {u r : Value} (hx : a.eval x = u)
    (h : (convert s t u).run P w = .ok r w) : (execOp a.eval ⟨dst, .convert s t x, ty, pos, aft, none⟩).run P w = .ok (.value r) w := by
  simp only [execOp, hx]; simp [h]
theorem run_conv_int {w : World} {s t : TypeId} {k j : IntKind} {n : Int} {d : TypeDesc} (hs : P.underlying s = some d) (ht : P.underlying t = some (.int k)) : (convert s t (.int j n)).run P w = .ok (.int k (k.wrap n)) w := by
  simp [convert, run_underlying hs, run_underlying ht, Conv.intToInt]
theorem run_shr {w : World} {t : TypeId} {k yk : IntKind} (x s : Nat) (hs : s ≤ k.bits) : (binOp .shr t (.int k (x : Int)) (.int yk (s : Int))).run P w = .ok (.int k ((x / 2 ^ s : Nat) : Int)) w := by
  have h1 : ¬ ((s : Int) < 0) := by omega
  have h2 : min s k.bits = s := Nat.min_eq_left hs
  have h3 : (x : Int).fdiv (2 ^ s) = ((x / 2 ^ s : Nat) : Int) := by
    rw [Int.fdiv_eq_ediv_of_nonneg _ (by exact Int.le_of_lt (Int.pow_pos (by omega)))]
    norm_cast
  simp [binOp, Op.shift, h1, h2, h3]
theorem run_copy_sl (w : World) (dT sT ty elem : TypeId) (g o dLen dCap : Nat) (A : Option Addr) (sLen sCap size : Nat) (cur : Array Value) (t : TypeId) (xs : List Value)
    (hu : P.underlying dT = some (.slice elem)) (hs : (P.info? elem).map (·.size) = some size)
    (hg : w.heap[g]? = some (.cells cur t (0, 0))) (hx : Sl w A sLen size xs) (hle : sLen ≤ dLen) (hfit : o + xs.length ≤ cur.size) (h1 : OneCells xs) :
    (Builtin.copy_ #[dT, sT] ty #[.slice (some ⟨g, o, none⟩) dLen dCap, .slice A sLen sCap]).run P w =
      .ok (goInt sLen) (w.setRow g (cur.toList.take o ++ xs ++ cur.toList.drop (o + xs.length)).toArray) := by
  have hst := run_storeCells_at P g o t xs 0 cur w hg (by simpa using hfit) h1
  have hm : Nat.min sLen dLen = sLen := Nat.min_eq_left hle
  cases hq : P.info? elem with
  | none => simp [hq] at hs
  | some i =>
    have hi : i.size = size := by simpa [hq] using hs
    by_cases h0 : sLen = 0
    · subst h0
      have hx0 : xs = [] := List.eq_nil_of_length_eq_zero (by simpa using hx.1)
      subst hx0
      cases A with
      | none => simp [Builtin.copy_, run_underlying hu, Builtin.lenOf, Builtin.firstCells, sizeOf, typeInfo, hq, hst]
      | some a =>
        have hl := run_loadCells_list (P := P) w a [] (fun j v hv => by simp at hv)
        simp only [List.length_nil] at hl
        simp [Builtin.copy_, run_underlying hu, Builtin.lenOf, Builtin.firstCells, sizeOf, typeInfo, hq, hl, hst]
    · obtain ⟨b, off, rfl, hc⟩ := hx.2 (by omega)
      have hl := run_loadCells_list (P := P) w ⟨b, off, none⟩ xs (fun j v hv => by rw [add_flat]; exact hc j v hv)
      rw [hx.1] at hl
      simp [Builtin.copy_, run_underlying hu, Builtin.lenOf, Builtin.firstCells, sizeOf, typeInfo, hq, hi, hm, hl, hst]

theorem wpList_copy_sl {w : World} {ops : Array Oper} {rest : List Oper} {o : Oper} {a : Act} {Q : Exit → Act → World → Prop} (hgd : o.guard = none) (d s : Operand) (dT sT : TypeId)
    (ho : o.op = .call { callee := .builtin .copy, args := #[d, s], argTypes := #[dT, sT] }) (elem : TypeId) (size : Nat) (hu : P.underlying dT = some (.slice elem)) (hsz : (P.info? elem).map (·.size) = some size)
    (A : Option Addr) (g off dLen dCap sLen sCap : Nat) (hd : a.eval d = .slice (some ⟨g, off, none⟩) dLen dCap) (hs : a.eval s = .slice A sLen sCap)
    (cur : Array Value) (t : TypeId) (hg : w.heap[g]? = some (.cells cur t (0, 0))) (xs : List Value) (hx : Sl w A sLen size xs) (hle : sLen ≤ dLen) (hfit : off + xs.length ≤ cur.size) (h1 : OneCells xs)
    (w0 : World) (hb : Ext w0 w) (hBg : w0.heap.size ≤ g)
    (h : ∀ w', Hid (w'.heap[g]? = some (.cells (splice cur.toList off xs).toArray t (0, 0))) → Hid (Ext w0 w') → w'.heap.size = w.heap.size → wpList P ops Q rest (a.put o.dst (goInt sLen)) w') :
    wpList P ops Q (o :: rest) a w := by
  refine wpList_plain hgd fun K hK => ?_
  have hrun := run_copy_sl (P := P) w dT sT o.type elem g off dLen dCap A sLen sCap size cur t xs hu hsz hg hx hle hfit h1
  unfold Oper.wp
  simp [execOp, ho, resolve, invoke, builtin, hd, hs, hrun, Result.andThen]
  refine hK _ _ (h _ ?_ (below_setRow hb hBg _) (by simp [World.setRow]))
  exact (show _ = _ by simpa [splice] using setRow_heap w g _ _ t _ hg)

theorem run_make_n (t e : TypeId) (i : TypeInfo) (z : Value) (ht : P.underlying t = some (.slice e)) (hi : P.info? e = some i) (hz : i.zero = some z) (hb : i.bytes ≤ 4096)
    (kl kc : IntKind) (n : Nat) (hn : n ≤ 16777216) (w : World) :
    (Instr.makeSlice t (.int kl (n : Int)) (.int kc (n : Int))).run P w = .ok (.slice (some ⟨w.heap.size, 0, none⟩) n n) (w.alloc (.cells (madeCells z.cells (n * i.size)) e)) := by
  have h1 : i.bytes * n ≤ 4096 * 16777216 := Nat.mul_le_mul hb hn
  have h2 : (i.bytes : Int) * (n : Int) ≤ 281474976710656 := by
    have h : ((i.bytes * n : Nat) : Int) ≤ 281474976710656 := by omega
    rwa [Int.natCast_mul] at h
  have hr := run_make (P := P) w t e i z ht hi hz kl kc n n (by omega) (by omega) h2 (by omega)
  simp only [Int.toNat_natCast] at hr
  exact hr

/-- append of a slice, whatever its form, onto a row of the call's own -/
theorem run_append_sl (w : World) (base : Nat) (t ty e : TypeId) (i : TypeInfo) (z : Value) (size bytes : Nat) (ht : P.underlying t = some (.slice e)) (hi : P.info? e = some i) (hz : i.zero = some z)
    (hsize : i.size = size) (hby : i.bytes = bytes) (hzs : z.cells.size = size) (hsz : 0 < size)
    (v : Value) (n : Nat) (xs : List Value) (hown : w.ownsRow base e size v n xs)
    (A : Option Addr) (m c : Nat) (news : List Value) (hr : Sl w A m size news) (h1 : OneCells news)
    (h63 : n + m ≤ maxLen) (hbytes : (n + m) * bytes ≤ 140737488355328) (hbase : base ≤ w.heap.size) :
    ∃ v' w', (Builtin.append_ #[t, t] ty #[v, .slice A m c]).run P w = .ok v' w' ∧ w'.ownsRow base e size v' (n + m) (xs ++ news) ∧ w.grownBy w' v.ownBlock ∧
      (v'.ownBlock = v.ownBlock ∨ v'.ownBlock = some w.heap.size) := by
  rcases A with _ | ad
  · have hm : m = 0 := by
      rcases Nat.eq_zero_or_pos m with h0 | h0
      · exact h0
      · obtain ⟨b, off, h, _⟩ := hr.2 h0
        cases h
    subst hm
    have hn : news = [] := List.eq_nil_of_length_eq_zero (by simpa using hr.1)
    subst hn
    refine ⟨v, w, ?_, by simpa using hown, World.grownBy.refl w _, .inl rfl⟩
    rcases hown.2 with ⟨rfl, rfl⟩ | ⟨g, cap, cur, rfl, _, _, hnc, _⟩
    · simp [Builtin.append_, run_underlying ht, sizeOf, typeInfo, hi, Builtin.lenOf, Builtin.firstCells]
    · simp [Builtin.append_, run_underlying ht, sizeOf, typeInfo, hi, Builtin.lenOf, Builtin.firstCells, hnc, storeCells]
  · have hcells : ∀ j u, news[j]? = some u → w.cell? (ad.add j) = some u := by
      intro j u hu
      rcases Nat.eq_zero_or_pos m with h0 | h0
      · subst h0
        have hn : news = [] := List.eq_nil_of_length_eq_zero (by simpa using hr.1)
        subst hn
        simp at hu
      · obtain ⟨b, off, h, hc⟩ := hr.2 h0
        injection h with h
        subst h
        rw [add_flat]
        exact hc j u hu
    obtain ⟨v', w', hrun, h2, h3, _, h5⟩ := run_append_own_at (P := P) w base t ty e i z size bytes ht hi hz hsize hby hzs hsz v n xs hown ad m c news hr.1 hcells h1 h63 hbytes hbase
    exact ⟨v', w', hrun, h2, h3, h5⟩

theorem wp_append_sl {w : World} {o : Oper} {a : Act} {K : Act → World → Prop} {Q : Exit → Act → World → Prop} (s x : Operand) (t : TypeId)
    (ho : o.op = .call { callee := .builtin .append, args := #[s, x], argTypes := #[t, t] })
    (e : TypeId) (i : TypeInfo) (z : Value) (size bytes : Nat) (ht : P.underlying t = some (.slice e)) (hi : P.info? e = some i) (hz : i.zero = some z)
    (hsize : i.size = size) (hby : i.bytes = bytes) (hzs : z.cells.size = size) (hsz : 0 < size) (w0 : World) (hbase : Ext w0 w)
    (v : Value) (n : Nat) (xs : List Value) (hs : a.eval s = v) (hown : w.ownsRow w0.heap.size e size v n xs)
    (A : Option Addr) (m c : Nat) (news : List Value) (hx : a.eval x = .slice A m c) (hr : Sl w A m size news) (h1 : OneCells news)
    (h63 : n + m ≤ maxLen) (hbytes : (n + m) * bytes ≤ 140737488355328)
    (h : ∀ A' c' w', Hid (w'.ownsRow w0.heap.size e size (.slice A' (n + m) c') (n + m) (xs ++ news)) → Hid (Ext w0 w') → Hid (w.grownBy w' v.ownBlock) → Hid ((Value.slice A' (n + m) c').ownBlock = v.ownBlock ∨ (Value.slice A' (n + m) c').ownBlock = some w.heap.size) → K (a.put o.dst (.slice A' (n + m) c')) w') : o.wp P a w K Q := by
  obtain ⟨v', w', hrun, h2, h3, h4⟩ := run_append_sl (P := P) w w0.heap.size t o.type e i z size bytes ht hi hz hsize hby hzs hsz v n xs hown A m c news hr h1 h63 hbytes hbase.size
  have hv : ∃ A' c', v' = .slice A' (n + m) c' := by
    rcases h2.2 with ⟨h5, h6⟩ | ⟨g, cap, cur, h5, _⟩
    · exact ⟨none, 0, by rw [h5, h6]⟩
    · exact ⟨_, _, h5⟩
  obtain ⟨A', c', rfl⟩ := hv
  unfold Oper.wp execOp
  simp only [ho, resolve, invoke, builtin, Sem.run_bind, Sem.run_pure, Result.andThen_ok, List.map_toArray, List.map_cons, List.map_nil, hs, hx, hrun]
  refine h A' c' w' h2 (Below.grown hbase h3 hbase.size fun k hk => ?_) h3 h4
  exact (hown.lt k hk).1

theorem wpList_append_sl {w : World} {ops : Array Oper} {rest : List Oper} {o : Oper} {a : Act} {Q : Exit → Act → World → Prop} (hgd : o.guard = none) (s x : Operand) (t : TypeId)
    (ho : o.op = .call { callee := .builtin .append, args := #[s, x], argTypes := #[t, t] })
    (e : TypeId) (i : TypeInfo) (z : Value) (size bytes : Nat) (ht : P.underlying t = some (.slice e)) (hi : P.info? e = some i) (hz : i.zero = some z)
    (hsize : i.size = size) (hby : i.bytes = bytes) (hzs : z.cells.size = size) (hsz : 0 < size) (w0 : World) (hbase : Ext w0 w)
    (v : Value) (n : Nat) (xs : List Value) (hs : a.eval s = v) (hown : w.ownsRow w0.heap.size e size v n xs)
    (A : Option Addr) (m c : Nat) (news : List Value) (hx : a.eval x = .slice A m c) (hr : Sl w A m size news) (h1 : OneCells news)
    (h63 : n + m ≤ maxLen) (hbytes : (n + m) * bytes ≤ 140737488355328)
    (h : ∀ A' c' w', Hid (w'.ownsRow w0.heap.size e size (.slice A' (n + m) c') (n + m) (xs ++ news)) → Hid (Ext w0 w') → Hid (w.grownBy w' v.ownBlock) → Hid ((Value.slice A' (n + m) c').ownBlock = v.ownBlock ∨ (Value.slice A' (n + m) c').ownBlock = some w.heap.size) → wpList P ops Q rest (a.put o.dst (.slice A' (n + m) c')) w') : wpList P ops Q (o :: rest) a w :=
  wpList_plain hgd fun _ hK => wp_append_sl s x t ho e i z size bytes ht hi hz hsize hby hzs hsz w0 hbase v n xs hs hown A m c news hx hr h1 h63 hbytes fun A' c' w' h2 h3 h4 h5 => hK _ _ (h A' c' w' h2 h3 h4 h5)
end
end Go.Proofs.Ythjpcnceppmnmaa
