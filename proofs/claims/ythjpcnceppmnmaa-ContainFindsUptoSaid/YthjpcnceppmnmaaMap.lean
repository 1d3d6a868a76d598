/-
  A map whose keys are texts, as a function from texts to values.
-/
import Derived.Test.YthjpcnceppmnmaaRef6
import Derived.Maps.OwnSet
namespace Go.Proofs.Ythjpcnceppmnmaa
open Go.RowKit

/-- an element reads as itself -/
def valElem : Value → Option (DataW Value × List MemPlace) := fun v => some (.held v, [])
def skey (x : ByteArray) : Lit := .string x.data.toList
theorem skey_inj {x y : ByteArray} (h : skey x = skey y) : x = y := by
  unfold skey at h
  injection h with h
  obtain ⟨x⟩ := x; obtain ⟨y⟩ := y
  exact congrArg ByteArray.mk (Array.toList_inj.1 h)
theorem skey_lit (x : ByteArray) : WideAt.IsKeyLit (skey x) := by unfold skey WideAt.IsKeyLit; trivial
theorem skeyed : Maps.Keyed Try.prog 9 := Maps.string_keyed Try.underlying9
theorem skey_of {x : ByteArray} (h : x.size ≤ maxLen) : keyOf Try.prog 9 (.string x) = some (skey x) := WideMaps.keyOf_string_mk Try.underlying9 h

abbrev SMap : Type := ByteArray → Option Value
def SMap.put (σ : SMap) (x : ByteArray) (v : Value) : SMap := fun y => if y = x then some v else σ y
def SMap.del (σ : SMap) (x : ByteArray) : SMap := fun y => if y = x then none else σ y

/-- block b is a map of at most n entries: σ -/
def MapS (w : World) (b n : Nat) (σ : SMap) : Prop :=
  ∃ D : DataW Value, w.ownsMap Try.prog 9 valElem b n D ∧ ∀ x, Maps.has D (skey x) = (σ x).isSome ∧ ∀ v, σ x = some v → ∀ z, D.atKey (skey x) z = .held v
theorem MapS.made (w : World) : MapS (w.alloc (.map #[] 0)) w.heap.size 0 (fun _ => none) :=
  ⟨_, World.ownsMap_made w _ _ _, fun x => ⟨rfl, fun v h => by cases h⟩⟩
theorem MapS.mono {w : World} {b n n' : Nat} {σ : SMap} (h : MapS w b n σ) (hn : n ≤ n') : MapS w b n' σ := by
  obtain ⟨D, h1, h2⟩ := h
  exact ⟨D, h1.mono hn, h2⟩
theorem MapS.block {w w' : World} {b n : Nat} {σ : SMap} (h : MapS w b n σ) (hb : w'.heap[b]? = w.heap[b]?) : MapS w' b n σ := by
  obtain ⟨D, ⟨es, clock, h1, h3⟩, h2⟩ := h
  exact ⟨D, ⟨es, clock, hb.trans h1, h3⟩, h2⟩
theorem MapS.lt {w : World} {b n : Nat} {σ : SMap} (h : MapS w b n σ) : b < w.heap.size := by
  obtain ⟨D, ⟨es, clock, h1, h3⟩, h2⟩ := h
  rcases Nat.lt_or_ge b w.heap.size with hlt | hge
  · exact hlt
  · rw [Array.getElem?_eq_none hge] at h1; cases h1
theorem MapS.ext {w w' : World} {b n : Nat} {σ : SMap} (h : MapS w b n σ) (hw : Ext w w') : MapS w' b n σ := h.block (hw.block h.lt)
theorem MapS.setCell {w : World} {b n : Nat} {σ : SMap} (h : MapS w b n σ) {p : Addr} (hp : b ≠ p.block) (u : Value) : MapS (w.setCell p u) b n σ := h.block (Below.heap_setCell _ _ _ _ hp)
/-- a map's block is no row of cells -/
theorem MapS.ne_blk {w : World} {b n g : Nat} {σ : SMap} {t : TypeId} {cs : Array Value} (h : MapS w b n σ) (hb : Blk w g t cs) : b ≠ g := fun e => by
  subst e
  obtain ⟨D, ⟨es, clock, h1, h3⟩, h2⟩ := h
  unfold Blk at hb
  rw [h1] at hb
  cases hb
theorem MapS.ne_own {w : World} {b n base m size : Nat} {σ : SMap} {e : TypeId} {v : Value} {xs : List Value} (h : MapS w b n σ) (ho : w.ownsRow base e size v m xs) : some b ≠ v.ownBlock := by
  rcases ho.2 with ⟨rfl, _⟩ | ⟨g', cap, cur, rfl, _, hh, _⟩
  · simp [Value.ownBlock]
  · intro he
    have he' : b = g' := by simpa [Value.ownBlock] using he
    subst he'
    obtain ⟨D, ⟨es, clock, h1, h3⟩, h2⟩ := h
    rw [h1] at hh
    cases hh
theorem MapS.cell_ne {w : World} {b n : Nat} {σ : SMap} {p : Addr} {u : Value} (h : MapS w b n σ) (hp : w.cell? p = some u) : p.block ≠ b := fun e => by
  obtain ⟨D, ⟨es, clock, h1, h3⟩, h2⟩ := h
  rw [← e] at h1
  unfold World.cell? at hp
  rw [h1] at hp
  cases hs : p.spot <;> simp [hs] at hp

theorem turned_block {w w' : World} {b k : Nat} (h : w.mapTurned w' b) (hk : k ≠ b) : w'.heap[k]? = w.heap[k]? := by
  obtain ⟨es, clock, es', clock', hb, rfl⟩ := h
  exact ChangeMaps.heap_setBlock_other hb _ hk
theorem turned_ext {w0 w w' : World} {b : Nat} (h : Ext w0 w) (ht : w.mapTurned w' b) (hb : w0.heap.size ≤ b) : Ext w0 w' :=
  Below.grown h ht.grown h.size (fun k hk => by cases hk; exact hb)
theorem turned_cell {w w' : World} {b : Nat} (h : w.mapTurned w' b) {p : Addr} {v : Value} (hp : w.cell? p = some v) (hb : p.block ≠ b) : w'.cell? p = some v :=
  (World.cell?_of_block (turned_block h hb)).trans hp
theorem turned_blk {w w' : World} {b g : Nat} {t : TypeId} {cs : Array Value} (h : w.mapTurned w' b) (hg : Blk w g t cs) (hb : g ≠ b) : Blk w' g t cs := (turned_block h hb).trans hg

section
variable {w : World} {ops : Array Oper} {rest : List Oper} {o : Oper} {a : Act} {Q : Exit → Act → World → Prop}
theorem wpList_smap_lookup (hg : o.guard = none) (m x : Operand) (t e : TypeId) (hop : o.op = Op.lookup t m x true) (ht : Try.prog.underlying t = some (.map 9 e)) {z : Value} (hz : (zeroValue e).run Try.prog w = .ok z w)
    (b n : Nat) (σ : SMap) (hm : a.eval m = .map (some b)) (hown : MapS w b n σ) (k : ByteArray) (hx : a.eval x = .string k) (hk : k.size ≤ maxLen)
    (hK : ∀ v, v = (σ k).getD z → wpList Try.prog ops Q rest (a.put o.dst (.tuple #[v, .bool (σ k).isSome])) w) : wpList Try.prog ops Q (o :: rest) a w := by
  obtain ⟨D, h1, h2⟩ := hown
  refine wpList_lookup_own_ok w hg m x t hop 9 e skeyed ht valElem hz (.held z) [] rfl b n D hm h1 (.string k) (skey k) hx (skey_of hk) fun v ps hv => ?_
  rw [(h2 k).1]
  refine hK v ?_
  have hv' : DataW.held v = D.atKey (skey k) (.held z) := by simpa [valElem] using congrArg (fun o => o.map Prod.fst) hv
  cases hs : σ k with
  | none =>
    have := Maps.atKey_of_not_has (D := D) (k := skey k) (by rw [(h2 k).1, hs]; rfl) (.held z)
    rw [this] at hv'
    injection hv'
  | some u =>
    rw [(h2 k).2 u hs] at hv'
    injection hv'
theorem wpList_smap_put (hg : o.guard = none) (m x v : Operand) (t e : TypeId) (hop : o.op = Op.mapUpdate t m x v) (ht : Try.prog.underlying t = some (.map 9 e))
    (b n : Nat) (σ : SMap) (hm : a.eval m = .map (some b)) (hown : MapS w b n σ) (hn : n < maxLen) (k : ByteArray) (val : Value) (hx : a.eval x = .string k) (hv : a.eval v = val) (hk : k.size ≤ maxLen)
    (hK : ∀ w', Hid (MapS w' b (n + 1) (σ.put k val)) → Hid (w.mapTurned w' b) → wpList Try.prog ops Q rest (a.put o.dst undef) w') : wpList Try.prog ops Q (o :: rest) a w := by
  obtain ⟨D, h1, h2⟩ := hown
  refine wpList_mapUpdate_in w hg m x v t hop 9 e skeyed ht valElem b n D hm h1 hn (.string k) val (skey k) hx hv (skey_of hk) (.held val) [] rfl fun w' h3 h4 => hK w' ⟨_, h3, fun y => ?_⟩ h4
  by_cases hy : y = k
  · subst hy
    simp only [SMap.put, if_true]
    refine ⟨?_, fun v hv z => ?_⟩
    · rw [Maps.has_put_same h1.isMap (skey_lit y)]; rfl
    · have hv2 : val = v := Option.some.inj hv
      rw [Maps.atKey_put_same h1.isMap (skey_lit y), hv2]
  · have hne : skey y ≠ skey k := fun e => hy (skey_inj e)
    simp only [SMap.put, hy, if_false]
    exact ⟨by rw [Maps.has_put_other hne]; exact (h2 y).1, fun v hv z => by rw [Maps.atKey_put_other hne]; exact (h2 y).2 v hv z⟩
theorem wpList_smap_del (hg : o.guard = none) (m x : Operand) (t e : TypeId) (hop : o.op = Op.call { callee := Callee.builtin Builtin.delete, args := #[m, x], argTypes := #[t, 9] }) (ht : Try.prog.underlying t = some (.map 9 e))
    (b n : Nat) (σ : SMap) (hm : a.eval m = .map (some b)) (hown : MapS w b n σ) (k : ByteArray) (hx : a.eval x = .string k) (hk : k.size ≤ maxLen)
    (hK : ∀ w', Hid (MapS w' b n (σ.del k)) → Hid (w.mapTurned w' b) → wpList Try.prog ops Q rest (a.put o.dst (.tuple #[])) w') : wpList Try.prog ops Q (o :: rest) a w := by
  obtain ⟨D, h1, h2⟩ := hown
  refine wpList_delete_own w hg m x t 9 hop e skeyed ht valElem b n D hm h1 (.string k) (skey k) hx (skey_of hk) fun w' h3 h4 => hK w' ⟨_, h3, fun y => ?_⟩ h4
  by_cases hy : y = k
  · subst hy
    simp only [SMap.del, if_true]
    exact ⟨Maps.has_del_same, fun v hv => by cases hv⟩
  · have hne : skey y ≠ skey k := fun e => hy (skey_inj e)
    simp only [SMap.del, hy, if_false]
    exact ⟨by rw [Maps.has_del_other hne]; exact (h2 y).1, fun v hv z => by rw [Maps.atKey_del_other hne]; exact (h2 y).2 v hv z⟩
end

/-- terms as elements -/
def valS (σ : Env) : SMap := fun x => (σ x).map Tm.val
theorem valS_put (σ : Env) (x : ByteArray) (t : Tm) : valS (σ.put x t) = (valS σ).put x t.val := by
  funext y
  unfold valS Env.put SMap.put
  split <;> rfl
theorem valS_del (σ : Env) (x : ByteArray) : valS (σ.del x) = (valS σ).del x := by
  funext y
  unfold valS Env.del SMap.del
  split <;> rfl
def MapT (w : World) (b n : Nat) (σ : Env) : Prop := MapS w b n (valS σ)
end Go.Proofs.Ythjpcnceppmnmaa
