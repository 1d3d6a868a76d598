/-
  A map whose keys are texts, as a function from texts to values.
  A node's memory: its structs, its stores, its counts, each in blocks of its own.
  node: what is asked of the live rows.
  node: what a turn tells; check; one.
-/
import Derived.Test.YtahdiiaadjdmcaaGaB
import Derived.Maps.OwnSet
import Derived.Test.YtahdiiaadjdmcaaNgA
import Derived.Test.YtahdiiaadjdmcaaGbN
import Derived.Test.YtahdiiaadjdmcaaStgA
import Derived.Test.YtahdiiaadjdmcaaGbC
namespace Go.Proofs.Ytahdiiaadjdmcaa
open Go.RowKit

def skey (x : ByteArray) : Lit := .string x.data.toList
theorem skey_inj {x y : ByteArray} (h : skey x = skey y) : x = y := by
  unfold skey at h
  injection h with h
  obtain ⟨x⟩ := x; obtain ⟨y⟩ := y
  exact congrArg ByteArray.mk (Array.toList_inj.1 h)
theorem skey_lit (x : ByteArray) : WideAt.IsKeyLit (skey x) := by unfold skey WideAt.IsKeyLit; trivial
theorem skeyed : Maps.Keyed Try.prog 9 := Maps.string_keyed Try.underlying9
theorem skey_of {x : ByteArray} (h : x.size ≤ maxLen) : keyOf Try.prog 9 (.string x) = some (skey x) := WideMaps.keyOf_string_mk Try.underlying9 h

abbrev SMap : Type := ByteArray → Option Value
def SMap.put (σ : SMap) (x : ByteArray) (v : Value) : SMap := fun y => if y = x then some v else σ y
def SMap.del (σ : SMap) (x : ByteArray) : SMap := fun y => if y = x then none else σ y

/-- block b is a map of at most n entries: σ -/
def MapS (w : World) (b n : Nat) (σ : SMap) : Prop :=
  ∃ D : DataW Value, w.ownsMap Try.prog 9 valElem b n D ∧ ∀ x, Maps.has D (skey x) = (σ x).isSome ∧ ∀ v, σ x = some v → ∀ z, D.atKey (skey x) z = .held v
theorem MapS.made (w : World) : MapS (w.alloc (.map #[] 0)) w.heap.size 0 (fun _ => none) :=
  ⟨_, World.ownsMap_made w _ _ _, fun x => ⟨rfl, fun v h => by cases h⟩⟩
theorem MapS.mono {w : World} {b n n' : Nat} {σ : SMap} (h : MapS w b n σ) (hn : n ≤ n') : MapS w b n' σ := by
  obtain ⟨D, h1, h2⟩ := h
  exact ⟨D, h1.mono hn, h2⟩
theorem MapS.block {w w' : World} {b n : Nat} {σ : SMap} (h : MapS w b n σ) (hb : w'.heap[b]? = w.heap[b]?) : MapS w' b n σ := by
  obtain ⟨D, ⟨es, clock, h1, h3⟩, h2⟩ := h
  exact ⟨D, ⟨es, clock, hb.trans h1, h3⟩, h2⟩
theorem MapS.lt {w : World} {b n : Nat} {σ : SMap} (h : MapS w b n σ) : b < w.heap.size := by
  obtain ⟨D, ⟨es, clock, h1, h3⟩, h2⟩ := h
  rcases Nat.lt_or_ge b w.heap.size with hlt | hge
  · exact hlt
  · rw [Array.getElem?_eq_none hge] at h1; cases h1
theorem MapS.ext {w w' : World} {b n : Nat} {σ : SMap} (h : MapS w b n σ) (hw : Ext w w') : MapS w' b n σ := h.block (hw.block h.lt)
theorem MapS.setCell {w : World} {b n : Nat} {σ : SMap} (h : MapS w b n σ) {p : Addr} (hp : b ≠ p.block) (u : Value) : MapS (w.setCell p u) b n σ := h.block (Below.heap_setCell _ _ _ _ hp)
/-- a map's block is no row of cells -/
theorem MapS.ne_blk {w : World} {b n g : Nat} {σ : SMap} {t : TypeId} {cs : Array Value} (h : MapS w b n σ) (hb : Blk w g t cs) : b ≠ g := fun e => by
  subst e
  obtain ⟨D, ⟨es, clock, h1, h3⟩, h2⟩ := h
  unfold Blk at hb
  rw [h1] at hb
  cases hb
theorem MapS.ne_own {w : World} {b n base m size : Nat} {σ : SMap} {e : TypeId} {v : Value} {xs : List Value} (h : MapS w b n σ) (ho : w.ownsRow base e size v m xs) : some b ≠ v.ownBlock := by
  rcases ho.2 with ⟨rfl, _⟩ | ⟨g', cap, cur, rfl, _, hh, _⟩
  · simp [Value.ownBlock]
  · intro he
    have he' : b = g' := by simpa [Value.ownBlock] using he
    subst he'
    obtain ⟨D, ⟨es, clock, h1, h3⟩, h2⟩ := h
    rw [h1] at hh
    cases hh
theorem MapS.cell_ne {w : World} {b n : Nat} {σ : SMap} {p : Addr} {u : Value} (h : MapS w b n σ) (hp : w.cell? p = some u) : p.block ≠ b := fun e => by
  obtain ⟨D, ⟨es, clock, h1, h3⟩, h2⟩ := h
  rw [← e] at h1
  unfold World.cell? at hp
  rw [h1] at hp
  cases hs : p.spot <;> simp at hp

theorem turned_ext {w0 w w' : World} {b : Nat} (h : Ext w0 w) (ht : w.mapTurned w' b) (hb : w0.heap.size ≤ b) : Ext w0 w' :=
  Below.grown h ht.grown h.size (fun k hk => by cases hk; exact hb)
theorem turned_cell {w w' : World} {b : Nat} (h : w.mapTurned w' b) {p : Addr} {v : Value} (hp : w.cell? p = some v) (hb : p.block ≠ b) : w'.cell? p = some v :=
  (World.cell?_of_block (turned_block h hb)).trans hp

section
variable {w : World} {ops : Array Oper} {rest : List Oper} {o : Oper} {a : Act} {Q : Exit → Act → World → Prop}
theorem wpList_smap_lookup (hg : o.guard = none) (m x : Operand) (t e : TypeId) (hop : o.op = Op.lookup t m x true) (ht : Try.prog.underlying t = some (.map 9 e)) {z : Value} (hz : (zeroValue e).run Try.prog w = .ok z w)
    (b n : Nat) (σ : SMap) (hm : a.eval m = .map (some b)) (hown : MapS w b n σ) (k : ByteArray) (hx : a.eval x = .string k) (hk : k.size ≤ maxLen)
    (hK : ∀ v, v = (σ k).getD z → wpList Try.prog ops Q rest (a.put o.dst (.tuple #[v, .bool (σ k).isSome])) w) : wpList Try.prog ops Q (o :: rest) a w := by
  obtain ⟨D, h1, h2⟩ := hown
  refine wpList_lookup_own_ok w hg m x t hop 9 e skeyed ht valElem hz (.held z) [] rfl b n D hm h1 (.string k) (skey k) hx (skey_of hk) fun v ps hv => ?_
  rw [(h2 k).1]
  refine hK v ?_
  have hv' : DataW.held v = D.atKey (skey k) (.held z) := by simpa [valElem] using congrArg (fun o => o.map Prod.fst) hv
  cases hs : σ k with
  | none =>
    have := Maps.atKey_of_not_has (D := D) (k := skey k) (by rw [(h2 k).1, hs]; rfl) (.held z)
    rw [this] at hv'
    injection hv'
  | some u =>
    rw [(h2 k).2 u hs] at hv'
    injection hv'
theorem wpList_smap_put (hg : o.guard = none) (m x v : Operand) (t e : TypeId) (hop : o.op = Op.mapUpdate t m x v) (ht : Try.prog.underlying t = some (.map 9 e))
    (b n : Nat) (σ : SMap) (hm : a.eval m = .map (some b)) (hown : MapS w b n σ) (hn : n < maxLen) (k : ByteArray) (val : Value) (hx : a.eval x = .string k) (hv : a.eval v = val) (hk : k.size ≤ maxLen)
    (hK : ∀ w', Hid (MapS w' b (n + 1) (σ.put k val)) → Hid (w.mapTurned w' b) → wpList Try.prog ops Q rest (a.put o.dst undef) w') : wpList Try.prog ops Q (o :: rest) a w := by
  obtain ⟨D, h1, h2⟩ := hown
  refine wpList_mapUpdate_in w hg m x v t hop 9 e skeyed ht valElem b n D hm h1 hn (.string k) val (skey k) hx hv (skey_of hk) (.held val) [] rfl fun w' h3 h4 => hK w' ⟨_, h3, fun y => ?_⟩ h4
  by_cases hy : y = k
  · subst hy
    simp only [SMap.put, if_true]
    refine ⟨?_, fun v hv z => ?_⟩
    · rw [Maps.has_put_same h1.isMap (skey_lit y)]; rfl
    · have hv2 : val = v := Option.some.inj hv
      rw [Maps.atKey_put_same h1.isMap (skey_lit y), hv2]
  · have hne : skey y ≠ skey k := fun e => hy (skey_inj e)
    simp only [SMap.put, hy, if_false]
    exact ⟨by rw [Maps.has_put_other hne]; exact (h2 y).1, fun v hv z => by rw [Maps.atKey_put_other hne]; exact (h2 y).2 v hv z⟩
theorem wpList_smap_del (hg : o.guard = none) (m x : Operand) (t e : TypeId) (hop : o.op = Op.call { callee := Callee.builtin Builtin.delete, args := #[m, x], argTypes := #[t, 9] }) (ht : Try.prog.underlying t = some (.map 9 e))
    (b n : Nat) (σ : SMap) (hm : a.eval m = .map (some b)) (hown : MapS w b n σ) (k : ByteArray) (hx : a.eval x = .string k) (hk : k.size ≤ maxLen)
    (hK : ∀ w', Hid (MapS w' b n (σ.del k)) → Hid (w.mapTurned w' b) → wpList Try.prog ops Q rest (a.put o.dst (.tuple #[])) w') : wpList Try.prog ops Q (o :: rest) a w := by
  obtain ⟨D, h1, h2⟩ := hown
  refine wpList_delete_own w hg m x t 9 hop e skeyed ht valElem b n D hm h1 (.string k) (skey k) hx (skey_of hk) fun w' h3 h4 => hK w' ⟨_, h3, fun y => ?_⟩ h4
  by_cases hy : y = k
  · subst hy
    simp only [SMap.del, if_true]
    exact ⟨Maps.has_del_same, fun v hv => by cases hv⟩
  · have hne : skey y ≠ skey k := fun e => hy (skey_inj e)
    simp only [SMap.del, hy, if_false]
    exact ⟨by rw [Maps.has_del_other hne]; exact (h2 y).1, fun v hv z => by rw [Maps.atKey_del_other hne]; exact (h2 y).2 v hv z⟩
end

end Go.Proofs.Ytahdiiaadjdmcaa

namespace Go.Proofs.Ytahdiiaadjdmcaa
open Go.RowKit

structure NAbs where
  now : NSt
  old : Option NSt
/-- where a node's memory lies -/
structure NdV where
  n : Nat
  l : Nat
  k : Nat
  kA : Option Addr
  kC : Nat
  sA : Option Addr
  sC : Nat
  uA : Option Addr
  uC : Nat
  x1 : Nat
  x2 : Nat
  x3 : Nat
  m1 : Nat
  m2 : Value
abbrev ptr (x : Nat) : Value := .pointer (some ⟨x, 0, none⟩)
def liveC (K : NK) (v : NdV) : Array Value := #[.int .i64 K.kind, .int .i64 K.inn, .slice v.kA K.keep.length v.kC, .slice v.sA K.side.length v.sC, .slice v.uA K.up.length v.uC, .int .i64 K.most, ptr v.x1]
def workT (K : NK) : TypeId := if K.kind = 2 then 77 else if K.kind = 3 then 64 else 74
def workS (K : NK) : TypeId := if K.kind = 2 then 80 else if K.kind = 3 then 67 else 76
def workC (K : NK) (v : NdV) : Array Value := if K.kind = 2 then #[ptr v.l, .map (some v.m1), v.m2] else if K.kind = 3 then #[ptr v.l, ptr v.x2, ptr v.x3] else #[ptr v.l]
def S1 (K : NK) (a : NAbs) : SAbs := ⟨K.width, K.most, [K.up], a.now.live, a.old.map (·.live)⟩
def S2 (K : NK) (a : NAbs) : SAbs := ⟨K.inn, K.most, [K.side], a.now.ons, a.old.map (·.ons)⟩
def S3 (K : NK) (a : NAbs) : SAbs := ⟨K.side.length, K.most, [], a.now.sides, a.old.map (·.sides)⟩
def strB (l : List UInt8) : ByteArray := ⟨l.toArray⟩
theorem strB_inj {l m : List UInt8} (h : strB l = strB m) : l = m := by
  unfold strB at h
  injection h with h
  exact List.toArray_inj h
/-- the counts, in a map -/
def CntAt (w : World) (B : Nat → Prop) (K : NK) (b N : Nat) (s : NSt) : Prop :=
  B b ∧ ∃ n σ, n ≤ N ∧ MapS w b n σ ∧ ∀ own, Fit K.width own → σ (strB (pk own)) = if cntL s.ons s.cnt own = 0 then none else some (.int .i64 (cntL s.ons s.cnt own : Nat))
theorem CntAt.chg {w w' : World} {B C : Nat → Prop} {K : NK} {b N : Nat} {s : NSt} (h : CntAt w B K b N s) (hw : Chg C w w') (hC : ∀ g, B g → ¬ C g) : CntAt w' B K b N s := by
  obtain ⟨h1, n, σ, h2, h3, h4⟩ := h
  exact ⟨h1, n, σ, h2, h3.block (hw.block b h3.lt (hC b h1)), h4⟩
theorem CntAt.mono {w : World} {B C : Nat → Prop} {K : NK} {b N M : Nat} {s : NSt} (h : CntAt w B K b N s) (hC : ∀ g, B g → C g) (hN : N ≤ M) : CntAt w C K b M s := by
  obtain ⟨h1, n, σ, h2, h3⟩ := h
  exact ⟨hC _ h1, n, σ, Nat.le_trans h2 hN, h3⟩
theorem StI.mono {w : World} {B C : Nat → Prop} {x : Nat} {S : SAbs} {N : Nat} (h : StI w B x S N) (hC : ∀ g, B g → C g) : StI w C x S N := by
  obtain ⟨lab, v, D, P0, F0, h1, h2, h3⟩ := h
  exact ⟨lab, v, D, P0, F0, h1, fun b hb => hC b (h2 b hb), h3⟩
theorem StI.more {w : World} {B : Nat → Prop} {x : Nat} {S : SAbs} {N : Nat} (h : StI w B x S N) {M : Nat} (hM : N ≤ M) : StI w B x S M := by
  rcases Nat.lt_or_ge N M with hl | hl
  · obtain ⟨lab, v, D, P0, F0, h1, h2, h3, h4⟩ := h
    have h5 := h4.tick 0 (M - N) (by omega) (by omega)
    rw [show N + (M - N) = M by omega] at h5
    exact ⟨lab, v.tick 0, D, P0, F0, h1.tick 0, h2, h3.tick 0, h5⟩
  · obtain rfl : N = M := by omega
    exact h
theorem StI.lt {w : World} {B : Nat → Prop} {x : Nat} {S : SAbs} {N : Nat} (h : StI w B x S N) : ∃ B', StI w B' x S N ∧ (∀ b, B' b → B b) ∧ ∀ b, B' b → b < w.heap.size := by
  obtain ⟨lab, v, D, P0, F0, h1, h2, h3⟩ := h
  exact ⟨lab.dom, ⟨lab, v, D, P0, F0, h1, fun _ hb => hb, h3⟩, h2, fun b ⟨i, hi⟩ => h1.lt b i hi⟩
/-- the node's parts but the live rows -/
def npart (w : World) (B : Nat → Prop) (K : NK) (v : NdV) (a : NAbs) (N : Nat) : Nat → Prop
  | 0 => (Blk w v.n 38 #[ptr v.l, .iface (workT K) (ptr v.k)] ∧ B v.n) ∧ (Blk w v.l 69 (liveC K v) ∧ B v.l) ∧ (Blk w v.k (workS K) (workC K v) ∧ B v.k) ∧ NumIn w B v.kA K.keep.length (K.keep.map Int.ofNat) ∧ NumIn w B v.sA K.side.length (K.side.map Int.ofNat) ∧ NumIn w B v.uA K.up.length (K.up.map Int.ofNat)
  | 2 => K.kind = 3 → StI w B v.x2 (S2 K a) N
  | 3 => K.kind = 3 → StI w B v.x3 (S3 K a) N
  | 4 => K.kind = 2 → CntAt w B K v.m1 N a.now
  | 5 => K.kind = 2 → ∃ p, v.m2 = .map p ∧ ∀ o, a.old = some o → ∃ b, p = some b ∧ CntAt w B K b N o
  | _ => True
theorem npart_chg {w w' : World} {B C : Nat → Prop} {K : NK} {v : NdV} {a : NAbs} {N : Nat} (hw : Chg C w w') (hC : ∀ g, B g → ¬ C g) : ∀ i, npart w B K v a N i → npart w' B K v a N i
  | 0, ⟨⟨h1, h2⟩, ⟨h3, h4⟩, ⟨h5, h6⟩, h7, h8, h9⟩ => ⟨⟨hw.blk h1 (hC _ h2), h2⟩, ⟨hw.blk h3 (hC _ h4), h4⟩, ⟨hw.blk h5 (hC _ h6), h6⟩, h7.chg hw hC, h8.chg hw hC, h9.chg hw hC⟩
  | 1, _ => trivial
  | 2, h => fun hk => (h hk).chg hw hC
  | 3, h => fun hk => (h hk).chg hw hC
  | 4, h => fun hk => (h hk).chg hw hC
  | 5, h => fun hk => by
    obtain ⟨p, h1, h2⟩ := h hk
    refine ⟨p, h1, fun o ho => ?_⟩
    obtain ⟨b, h3, h4⟩ := h2 o ho
    exact ⟨b, h3, h4.chg hw hC⟩
  | _ + 6, _ => trivial
theorem npart_mono {w : World} {B C : Nat → Prop} {K : NK} {v : NdV} {a : NAbs} {N M : Nat} (hC : ∀ g, B g → C g) (hM : N ≤ M) : ∀ i, npart w B K v a N i → npart w C K v a M i
  | 0, ⟨⟨h1, h2⟩, ⟨h3, h4⟩, ⟨h5, h6⟩, h7, h8, h9⟩ => ⟨⟨h1, hC _ h2⟩, ⟨h3, hC _ h4⟩, ⟨h5, hC _ h6⟩, h7.mono hC, h8.mono hC, h9.mono hC⟩
  | 1, _ => trivial
  | 2, h => fun hk => ((h hk).mono hC).more hM
  | 3, h => fun hk => ((h hk).mono hC).more hM
  | 4, h => fun hk => (h hk).mono hC hM
  | 5, h => fun hk => by
    obtain ⟨p, h1, h2⟩ := h hk
    refine ⟨p, h1, fun o ho => ?_⟩
    obtain ⟨b, h3, h4⟩ := h2 o ho
    exact ⟨b, h3, h4.mono hC hM⟩
  | _ + 6, _ => trivial
structure NdR (w : World) (lab : Lab) (K : NK) (v : NdV) (a : NAbs) (N : Nat) : Prop where
  lt : ∀ b i, lab b = some i → b < w.heap.size
  part : ∀ i, npart w (lab.own i) K v a N i
theorem NdR.chg {w w' : World} {C : Nat → Prop} {lab : Lab} {K : NK} {v : NdV} {a : NAbs} {N : Nat} (h : NdR w lab K v a N) (hw : Chg C w w') (hC : ∀ g, lab.dom g → ¬ C g) : NdR w' lab K v a N :=
  ⟨fun b i hb => Nat.lt_of_lt_of_le (h.lt b i hb) hw.size, fun i => npart_chg hw (fun g hg => hC g ⟨i, hg⟩) i (h.part i)⟩
theorem NdR.ext {w w' : World} {lab : Lab} {K : NK} {v : NdV} {a : NAbs} {N : Nat} (h : NdR w lab K v a N) (hw : Ext w w') : NdR w' lab K v a N := h.chg (C := fun _ => False) (Chg.of hw) fun _ _ x => x
theorem NdR.more {w : World} {lab : Lab} {K : NK} {v : NdV} {a : NAbs} {N M : Nat} (h : NdR w lab K v a N) (hM : N ≤ M) : NdR w lab K v a M := ⟨h.lt, fun i => npart_mono (fun _ h => h) hM i (h.part i)⟩
/-- one part is another one behind a call -/
theorem NdR.turn {w w' : World} {lab : Lab} {K : NK} {v v' : NdV} {a a' : NAbs} {N N' : Nat} (h : NdR w lab K v a N) (j : Nat) {B' : Nat → Prop} (hB : ∀ b, B' b → lab.own j b ∨ w.heap.size ≤ b) (hl : ∀ b, B' b → b < w'.heap.size) (hC : Chg (lab.own j) w w')
    (hs : ∀ i, i ≠ j → npart w' (lab.own i) K v a N i → npart w' (lab.own i) K v' a' N' i) (hp : npart w' B' K v' a' N' j) :
    ∃ lab' : Lab, NdR w' lab' K v' a' N' ∧ (∀ b, B' b → lab'.own j b) ∧ (∀ i, i ≠ j → lab'.own i = lab.own i) ∧ (∀ b, lab'.dom b → lab.dom b ∨ B' b) ∧ Step w lab w' lab' := by
  have hlt : ∀ b i, lab.grow w.heap.size j B' b = some i → b < w'.heap.size := fun b i hb => by
    unfold Lab.grow at hb
    split at hb
    · have := hC.size; omega
    · split at hb
      · exact hl b (by assumption)
      · cases hb
  have hown : ∀ b, B' b → (lab.grow w.heap.size j B').own j b := fun b hb => by
    show lab.grow w.heap.size j B' b = some j
    unfold Lab.grow
    rcases hB b hb with h1 | h1
    · rw [if_pos (h.lt b _ h1)]; exact h1
    · rw [if_neg (by omega), if_pos hb]
  have hoth : ∀ i, i ≠ j → (lab.grow w.heap.size j B').own i = lab.own i := fun i hi => by
    funext b
    unfold Lab.own Lab.grow
    apply propext
    split
    · exact Iff.rfl
    · split
      · constructor
        · intro h1; injection h1 with h1; exact absurd h1.symm hi
        · intro h1; have := h.lt b _ h1; omega
      · constructor
        · intro h1; cases h1
        · intro h1; have := h.lt b _ h1; omega
  have hdom : ∀ b, (lab.grow w.heap.size j B').dom b → lab.dom b ∨ (B' b ∧ w.heap.size ≤ b) := fun b hb => by
    obtain ⟨i, hi⟩ := hb
    unfold Lab.grow at hi
    split at hi
    · exact .inl ⟨i, hi⟩
    · split at hi
      · rename_i h1; exact .inr ⟨h1, by omega⟩
      · cases hi
  refine ⟨lab.grow w.heap.size j B', ⟨hlt, fun i => ?_⟩, hown, hoth, fun b hb => (hdom b hb).imp id And.left, fun b hb => (hdom b hb).imp id And.right, hC.mono fun g hg _ => ⟨j, hg⟩⟩
  by_cases hi : i = j
  · subst hi
    exact npart_mono hown (Nat.le_refl _) i hp
  · rw [hoth i hi]
    exact hs i hi (npart_chg hC (fun g hg hg2 => hi (by
      have h1 : some i = some j := hg.symm.trans hg2
      injection h1)) i (h.part i))
theorem own_apart {lab : Lab} {i j : Nat} (h : i ≠ j) : ∀ g, lab.own i g → ¬ lab.own j g := fun g hg hg2 => h (by
  have h1 : some i = some j := hg.symm.trans hg2
  injection h1)
/-- a node with its live rows' store -/
structure NdQ (w : World) (lab : Lab) (K : NK) (v : NdV) (a : NAbs) (S : SAbs) (N : Nat) : Prop where
  r : NdR w lab K v a N
  s : StI w (lab.own 1) v.x1 S N
theorem NdQ.chg {w w' : World} {C : Nat → Prop} {lab : Lab} {K : NK} {v : NdV} {a : NAbs} {S : SAbs} {N : Nat} (h : NdQ w lab K v a S N) (hw : Chg C w w') (hC : ∀ g, lab.dom g → ¬ C g) : NdQ w' lab K v a S N := ⟨h.r.chg hw hC, h.s.chg hw fun g hg => hC g ⟨1, hg⟩⟩
theorem NdQ.ext {w w' : World} {lab : Lab} {K : NK} {v : NdV} {a : NAbs} {S : SAbs} {N : Nat} (h : NdQ w lab K v a S N) (hw : Ext w w') : NdQ w' lab K v a S N := ⟨h.r.ext hw, h.s.ext hw⟩
theorem NdQ.more {w : World} {lab : Lab} {K : NK} {v : NdV} {a : NAbs} {S : SAbs} {N M : Nat} (h : NdQ w lab K v a S N) (hM : N ≤ M) : NdQ w lab K v a S M := ⟨h.r.more hM, h.s.more hM⟩
/-- what a call leaves -/
def NdT (w : World) (lab : Lab) (K : NK) (v : NdV) (a : NAbs) (S : SAbs) (N : Nat) (w' : World) : Prop := ∃ lab', NdQ w' lab' K v a S N ∧ Step w lab w' lab'
theorem NdT.pre {w w1 w2 : World} {lab lab1 : Lab} {K : NK} {v : NdV} {a : NAbs} {S : SAbs} {N : Nat} (hs : Step w lab w1 lab1) (h : NdT w1 lab1 K v a S N w2) : NdT w lab K v a S N w2 := by
  obtain ⟨lab2, h1, h2⟩ := h
  exact ⟨lab2, h1, step_on hs h2⟩
theorem step_refl (w : World) (lab : Lab) : Step w lab w lab := ⟨fun _ h => .inl h, Chg.refl _ _⟩
theorem step_ext {w w' : World} {lab : Lab} (h : Ext w w') : Step w lab w' lab := ⟨fun _ h => .inl h, Chg.of h⟩
/-- a call of the live rows' store -/
theorem NdQ.live {w w' : World} {lab : Lab} {K : NK} {v : NdV} {a : NAbs} {S S' : SAbs} {N M : Nat} (h : NdQ w lab K v a S N) (hM : N ≤ M) (hs : StS w (lab.own 1) v.x1 S' M w') : NdT w lab K v a S' M w' := by
  obtain ⟨B', h1, h2, h3, h4⟩ := hs
  obtain ⟨lab', r1, r2, r3, r4, r5⟩ := h.r.turn 1 (v' := v) (a' := a) (N' := M) h2 h3 h4 (fun i hi hp => npart_mono (fun _ h => h) hM i hp) trivial
  exact ⟨lab', ⟨r1, h1.mono r2⟩, r5⟩
/-- a call that tells rows from T on -/
theorem NdQ.liveM {w w' : World} {lab : Lab} {K : NK} {v : NdV} {a : NAbs} {S S' : SAbs} {N M T : Nat} (h : NdQ w lab K v a S N) (hM : N ≤ M) (hs : StSM w (lab.own 1) v.x1 S' M w' T) : ∃ lab', NdQ w' lab' K v a S' M ∧ Step w lab w' lab' ∧ (∀ b, lab'.dom b → b < T) ∧ w.heap.size ≤ T ∧ T ≤ w'.heap.size := by
  obtain ⟨B', h1, h2, h3, h4, h5, h6⟩ := hs
  obtain ⟨lab', r1, r2, r3, r4, r5⟩ := h.r.turn 1 (v' := v) (a' := a) (N' := M) h2 (fun b hb => by have := h3 b hb; omega) h4 (fun i hi hp => npart_mono (fun _ h => h) hM i hp) trivial
  exact ⟨lab', ⟨r1, h1.mono r2⟩, r5, fun b hb => (r4 b hb).elim (fun ⟨i, hi⟩ => by have := h.r.lt b i hi; omega) (h3 b), h5, h6⟩
/-- a call of the source's store -/
theorem NdQ.source {w w' : World} {lab : Lab} {K : NK} {v : NdV} {a a' : NAbs} {S : SAbs} {N M : Nat} (h : NdQ w lab K v a S N) (hk : K.kind = 3) (hM : N ≤ M) (hs : StS w (lab.own 2) v.x2 (S2 K a') M w') (h3 : S3 K a' = S3 K a) : NdT w lab K v a' S M w' := by
  obtain ⟨B', h1, h2, h3', h4⟩ := hs
  have key : ∀ i, i ≠ 2 → npart w' (lab.own i) K v a N i → npart w' (lab.own i) K v a' M i := fun i hi hp => by
    have hp := npart_mono (fun _ h => h) hM i hp
    match i, hi, hp with
    | 0, _, hp => exact hp
    | 1, _, hp => exact trivial
    | 2, hi, hp => exact absurd rfl hi
    | 3, hi, hp => exact fun hk => by rw [h3]; exact hp hk
    | 4, _, _ => exact fun hk2 => by omega
    | 5, _, _ => exact fun hk2 => by omega
    | _ + 6, _, hp => exact trivial
  obtain ⟨lab', r1, r2, r3, r4, r5⟩ := h.r.turn 2 (v' := v) (a' := a') (N' := M) h2 h3' h4 key (fun _ => h1)
  exact ⟨lab', ⟨r1, by rw [r3 1 (by decide)]; exact (h.s.chg h4 (own_apart (by decide))).more hM⟩, r5⟩
/-- a call of the source's store that tells rows from T on -/
theorem NdQ.sourceM {w w' : World} {lab : Lab} {K : NK} {v : NdV} {a : NAbs} {S : SAbs} {N M T : Nat} (h : NdQ w lab K v a S N) (hM : N ≤ M) (hs : StSM w (lab.own 2) v.x2 (S2 K a) M w' T) : ∃ lab', NdQ w' lab' K v a S M ∧ Step w lab w' lab' ∧ (∀ b, lab'.dom b → b < T) ∧ w.heap.size ≤ T ∧ T ≤ w'.heap.size := by
  obtain ⟨B', h1, h2, h3', h4, h5, h6⟩ := hs
  obtain ⟨lab', r1, r2, r3, r4, r5⟩ := h.r.turn 2 (v' := v) (a' := a) (N' := M) h2 (fun b hb => by have := h3' b hb; omega) h4 (fun i hi hp => npart_mono (fun _ h => h) hM i hp) (fun _ => h1)
  exact ⟨lab', ⟨r1, by rw [r3 1 (by decide)]; exact (h.s.chg h4 (own_apart (by decide))).more hM⟩, r5, fun b hb => (r4 b hb).elim (fun ⟨i, hi⟩ => by have := h.r.lt b i hi; omega) (h3' b), h5, h6⟩
/-- a call of the side's store -/
theorem NdQ.side {w w' : World} {lab : Lab} {K : NK} {v : NdV} {a a' : NAbs} {S : SAbs} {N M : Nat} (h : NdQ w lab K v a S N) (hk : K.kind = 3) (hM : N ≤ M) (hs : StS w (lab.own 3) v.x3 (S3 K a') M w') (h3 : S2 K a' = S2 K a) : NdT w lab K v a' S M w' := by
  obtain ⟨B', h1, h2, h3', h4⟩ := hs
  have key : ∀ i, i ≠ 3 → npart w' (lab.own i) K v a N i → npart w' (lab.own i) K v a' M i := fun i hi hp => by
    have hp := npart_mono (fun _ h => h) hM i hp
    match i, hi, hp with
    | 0, _, hp => exact hp
    | 1, _, hp => exact trivial
    | 2, hi, hp => exact fun hk => by rw [h3]; exact hp hk
    | 3, hi, hp => exact absurd rfl hi
    | 4, _, _ => exact fun hk2 => by omega
    | 5, _, _ => exact fun hk2 => by omega
    | _ + 6, _, hp => exact trivial
  obtain ⟨lab', r1, r2, r3, r4, r5⟩ := h.r.turn 3 (v' := v) (a' := a') (N' := M) h2 h3' h4 key (fun _ => h1)
  exact ⟨lab', ⟨r1, by rw [r3 1 (by decide)]; exact (h.s.chg h4 (own_apart (by decide))).more hM⟩, r5⟩
/-- other blocks of the node are none of what is kept in P -/
structure NdI (w : World) (B : Nat → Prop) (n : Nat) (K : NK) (a : NAbs) (N : Nat) : Prop where
  ok : NKOk K
  now : NOk K a.now
  old : ∀ o, a.old = some o → NOk K o
  at_ : ∃ lab v, NdQ w lab K v a (S1 K a) N ∧ v.n = n ∧ ∀ b, lab.dom b → B b
def NdS (w : World) (B : Nat → Prop) (n : Nat) (K : NK) (a : NAbs) (N : Nat) (w' : World) : Prop :=
  ∃ B', NdI w' B' n K a N ∧ (∀ b, B' b → B b ∨ w.heap.size ≤ b) ∧ (∀ b, B' b → b < w'.heap.size) ∧ Chg B w w'
/-- what a call leaves, with the rows it tells from T on -/
def NdSM (w : World) (B : Nat → Prop) (n : Nat) (K : NK) (a : NAbs) (N : Nat) (w' : World) (T : Nat) : Prop :=
  ∃ B', NdI w' B' n K a N ∧ (∀ b, B' b → B b ∨ w.heap.size ≤ b) ∧ (∀ b, B' b → b < T) ∧ Chg B w w' ∧ w.heap.size ≤ T ∧ T ≤ w'.heap.size
theorem NdI.chg {w w' : World} {B C : Nat → Prop} {n : Nat} {K : NK} {a : NAbs} {N : Nat} (h : NdI w B n K a N) (hw : Chg C w w') (hC : ∀ g, B g → ¬ C g) : NdI w' B n K a N := by
  obtain ⟨lab, v, h1, h2, h3⟩ := h.at_
  exact ⟨h.ok, h.now, h.old, lab, v, h1.chg hw fun g hg => hC g (h3 g hg), h2, h3⟩
theorem NdI.ext {w w' : World} {B : Nat → Prop} {n : Nat} {K : NK} {a : NAbs} {N : Nat} (h : NdI w B n K a N) (hw : Ext w w') : NdI w' B n K a N := h.chg (C := fun _ => False) (Chg.of hw) fun _ _ x => x
theorem NdI.more {w : World} {B : Nat → Prop} {n : Nat} {K : NK} {a : NAbs} {N M : Nat} (h : NdI w B n K a N) (hM : N ≤ M) : NdI w B n K a M := by
  obtain ⟨lab, v, h1, h2, h3⟩ := h.at_
  exact ⟨h.ok, h.now, h.old, lab, v, h1.more hM, h2, h3⟩
theorem NdS.of {w w' : World} {B : Nat → Prop} {lab : Lab} {n : Nat} {K : NK} {v : NdV} {a : NAbs} {N : Nat} (hk : NKOk K) (h1 : NOk K a.now) (h2 : ∀ o, a.old = some o → NOk K o) (hn : v.n = n) (hB : ∀ b, lab.dom b → B b) (h : NdT w lab K v a (S1 K a) N w') : NdS w B n K a N w' := by
  obtain ⟨lab', h3, h4, h5⟩ := h
  exact ⟨lab'.dom, ⟨hk, h1, h2, lab', v, h3, hn, fun _ h => h⟩, fun b hb => (h4 b hb).imp (hB b) id, fun b ⟨i, hi⟩ => h3.r.lt b i hi, h5.mono fun g hg _ => hB g hg⟩
theorem NdS.ofM {w w' : World} {B : Nat → Prop} {lab : Lab} {n : Nat} {K : NK} {v : NdV} {a : NAbs} {N T : Nat} (hk : NKOk K) (h1 : NOk K a.now) (h2 : ∀ o, a.old = some o → NOk K o) (hn : v.n = n) (hB : ∀ b, lab.dom b → B b) (h : ∃ lab', NdQ w' lab' K v a (S1 K a) N ∧ Step w lab w' lab' ∧ (∀ b, lab'.dom b → b < T) ∧ w.heap.size ≤ T ∧ T ≤ w'.heap.size) : NdSM w B n K a N w' T := by
  obtain ⟨lab', h3, ⟨h4, h5⟩, h6, h7, h8⟩ := h
  exact ⟨lab'.dom, ⟨hk, h1, h2, lab', v, h3, hn, fun _ h => h⟩, fun b hb => (h4 b hb).imp (hB b) id, h6, h5.mono fun g hg _ => hB g hg, h7, h8⟩
theorem NdSM.nds {w w' : World} {B : Nat → Prop} {n : Nat} {K : NK} {a : NAbs} {N T : Nat} (h : NdSM w B n K a N w' T) : NdS w B n K a N w' := by
  obtain ⟨B', h1, h2, h3, h4, h5, h6⟩ := h
  exact ⟨B', h1, h2, fun b hb => by have := h3 b hb; omega, h4⟩
end Go.Proofs.Ytahdiiaadjdmcaa

namespace Go.Proofs.Ytahdiiaadjdmcaa
open Go.RowKit

theorem NdR.node {w : World} {lab : Lab} {K : NK} {v : NdV} {a : NAbs} {N : Nat} (h : NdR w lab K v a N) : Blk w v.n 38 #[ptr v.l, .iface (workT K) (ptr v.k)] := (h.part 0).1.1
theorem NdR.lv {w : World} {lab : Lab} {K : NK} {v : NdV} {a : NAbs} {N : Nat} (h : NdR w lab K v a N) : Blk w v.l 69 (liveC K v) := (h.part 0).2.1.1
theorem NdR.wk {w : World} {lab : Lab} {K : NK} {v : NdV} {a : NAbs} {N : Nat} (h : NdR w lab K v a N) : Blk w v.k (workS K) (workC K v) := (h.part 0).2.2.1.1
theorem NdR.rows6 {w : World} {lab : Lab} {K : NK} {v : NdV} {a : NAbs} {N : Nat} (h : NdR w lab K v a N) : w.cell? ⟨v.l, 6, none⟩ = some (.pointer (some ⟨v.x1, 0, none⟩)) := h.lv.cell 6
section
variable {w : World} {lab : Lab} {K : NK} {v : NdV} {a : NAbs} {S : SAbs} {N : Nat}
set_option maxRecDepth 100000 in
theorem live_has (h : NdQ w lab K v a S N) (hN : N + 1 ≤ 8796093022208) {r : List V} {A : Option Addr} {n : Nat} (c : Nat) (ha : ArgR w A n r) :
    Calls Try.prog 14 #[.pointer (some ⟨v.l, 0, none⟩), .slice A n c] w fun e w' => e = .returned (.bool (inB S.rows r)) ∧ NdT w lab K v a S (N + 1) w' := by
  have HS := hide (has_st h.s (by omega) c ha)
  have a6 := h.r.rows6
  have HH := hide h
  clear h ha
  go_enter Try.func14, Try.ntmps14
  go_wp2_with ((with_reducible refine HS.out.mono ?_); rintro e w2 ⟨rfl, h2⟩; have S2 := hide h2; clear h2)
  go_ret
  exact ⟨rfl, HH.out.live (Nat.le_add_right _ _) S2.out⟩
/-- rows that are told from T on, and the node behind it -/
def NdTM (w : World) (lab : Lab) (K : NK) (v : NdV) (a : NAbs) (S : SAbs) (N : Nat) (w' : World) (T : Nat) : Prop := ∃ lab', NdQ w' lab' K v a S N ∧ Step w lab w' lab' ∧ (∀ b, lab'.dom b → b < T) ∧ w.heap.size ≤ T ∧ T ≤ w'.heap.size
theorem NdTM.ndt {w' : World} {T : Nat} (h : NdTM w lab K v a S N w' T) : NdT w lab K v a S N w' := by
  obtain ⟨lab', h1, h2, h3⟩ := h
  exact ⟨lab', h1, h2⟩
set_option maxRecDepth 100000 in
theorem live_rows (h : NdQ w lab K v a S N) :
    Calls Try.prog 7 #[.pointer (some ⟨v.l, 0, none⟩)] w fun e w' => ∃ A c M, e = .returned (.slice A S.rows.length c) ∧ MineA M w' A S.rows.length c S.rows ∧ NdTM w lab K v a S (N + 1) w' M := by
  have HS := hide (rows_stA h.s)
  have a6 := h.r.rows6
  have HH := hide h
  clear h
  go_enter Try.func7, Try.ntmps7
  go_wp2_with ((with_reducible refine HS.out.mono ?_); rintro e w2 ⟨A, c, M, rfl, h1, h2⟩; have S1 := hide h1; have S2 := hide h2; clear h1 h2)
  go_ret
  exact ⟨A, c, M, rfl, S1.out, HH.out.liveM (Nat.le_add_right _ _) S2.out⟩
/-- one row is told, or none is -/
def OneN (w : World) (lab : Lab) (K : NK) (v : NdV) (a : NAbs) (S : SAbs) (N : Nat) (o : Option (List V)) (f : Value → Bool → Ending) (e : Ending) (w' : World) : Prop := match o with
  | none => e = f (.slice none 0 0) false ∧ NdT w lab K v a S N w'
  | some r => ∃ A c M, e = f (.slice A r.length c) true ∧ w'.ownsRow M 59 3 (.slice A r.length c) r.length (cellsR r) ∧ NdTM w lab K v a S N w' M
theorem NdQ.one {w' : World} {o : Option (List V)} {f : Value → Bool → Ending} {e : Ending} (h : NdQ w lab K v a S N) (hs : OneSays w (lab.own 1) v.x1 S (N + 1) o e w') (e' : Ending) (he : ∀ y b, e = .returned (.tuple #[y, .bool b, .int .i64 0]) → e' = f y b) : OneN w lab K v a S (N + 1) o f e' w' := by
  cases o with
  | none => exact ⟨he _ _ hs.1, h.live (Nat.le_add_right _ _) hs.2⟩
  | some r =>
    obtain ⟨A, c, M, h1, h2, h3⟩ := hs
    exact ⟨A, c, M, he _ _ h1, h2, h.liveM (Nat.le_add_right _ _) h3⟩
def firstE (y : Value) (b : Bool) : Ending := .returned (.tuple #[y, .bool b])
def nextE (y : Value) (b : Bool) : Ending := .returned (.tuple #[y, .bool b, .int .i64 0])
theorem OneSays.ret {w' : World} {B : Nat → Prop} {x : Nat} {o : Option (List V)} {e : Ending} (h : OneSays w B x S N o e w') : ∃ A n c b, e = .returned (.tuple #[.slice A n c, .bool b, .int .i64 0]) := by
  cases o with
  | none => exact ⟨_, _, _, _, h.1⟩
  | some r =>
    obtain ⟨A, c, M, h1, _⟩ := h
    exact ⟨_, _, _, _, h1⟩
/-- what Next answers -/
def NextN (w : World) (lab : Lab) (K : NK) (v : NdV) (a : NAbs) (S : SAbs) (N : Nat) (r : List V) (e : Ending) (w' : World) : Prop :=
  (inB S.rows r = false ∧ e = .returned (.tuple #[.slice none 0 0, .bool false, .int .i64 62]) ∧ NdT w lab K v a S N w') ∨
  (inB S.rows r = true ∧ ∃ i, (grpS S 0 (keyR K.up r))[i]? = some r ∧ OneN w lab K v a S N (grpS S 0 (keyR K.up r))[i + 1]? nextE e w')
theorem NextSays.ret {w' : World} {B : Nat → Prop} {x k : Nat} {g : List Nat} {r : List V} {e : Ending} (h : NextSays w B x S N k g r e w') : ∃ A n c b z, e = .returned (.tuple #[.slice A n c, .bool b, .int .i64 z]) := by
  rcases h with ⟨-, h, -⟩ | ⟨-, i, -, h⟩
  · exact ⟨_, _, _, _, _, h⟩
  · obtain ⟨A, n, c, b, h⟩ := h.ret
    exact ⟨_, _, _, _, _, h⟩
end
end Go.Proofs.Ytahdiiaadjdmcaa

namespace Go.Proofs.Ytahdiiaadjdmcaa
open Go.RowKit

/-- rows that are told, each in a block of its own, in P -/
def ToldA (w : World) (P : Nat → Prop) (A : Option Addr) (n c : Nat) (rows : List (List V)) : Prop :=
  n = rows.length ∧ ∃ cells, OwnH w P 62 1 n (.slice A n c) cells ∧ Els (fun w cs r => ∃ A n c, cs = [.slice A n c] ∧ OwnH w P 59 3 n (.slice A n c) (cellsR r)) 1 w cells rows ∧ Apart cells
theorem ToldA.nil (w : World) (P : Nat → Prop) : ToldA w P none 0 0 [] := ⟨rfl, [], OwnH.nil _ _ _ _, .nil, by unfold Apart; exact .nil⟩
theorem MineA.toldA {M : Nat} {P : Nat → Prop} {w : World} {A : Option Addr} {n c : Nat} {rows : List (List V)} (h : MineA M w A n c rows) (hP : ∀ b, M ≤ b → b < w.heap.size → P b) : ToldA w P A n c rows := by
  obtain ⟨cells, h1, h2, h3, h4⟩ := h
  refine ⟨h1, cells, ⟨own_base0 h2 (Nat.zero_le _), fun g hg => hP g (h2.lt g hg).1 (h2.lt g hg).2⟩, h3.mono fun cs r hx => ?_, h4⟩
  obtain ⟨A, n, c, e, ho⟩ := hx
  exact ⟨A, n, c, e, own_base0 ho (Nat.zero_le _), fun g hg => hP g (ho.lt g hg).1 (ho.lt g hg).2⟩
theorem ToldA.chg {w w' : World} {P Q C : Nat → Prop} {A : Option Addr} {n c : Nat} {rows : List (List V)} (h : ToldA w P A n c rows) (hw : Chg C w w') (hC : ∀ b, P b → ¬ C b) (hq : ∀ b, P b → Q b) : ToldA w' Q A n c rows := by
  obtain ⟨h1, cells, h2, h3, h4⟩ := h
  refine ⟨h1, cells, (h2.chg hw hC).mono hq, h3.mono fun cs r hx => ?_, h4⟩
  obtain ⟨A, n, c, e, ho⟩ := hx
  exact ⟨A, n, c, e, (ho.chg hw hC).mono hq⟩
theorem ToldA.ext {w w' : World} {P : Nat → Prop} {A : Option Addr} {n c : Nat} {rows : List (List V)} (h : ToldA w P A n c rows) (hw : Ext w w') : ToldA w' P A n c rows := h.chg (C := fun _ => False) (Chg.of hw) (fun _ _ x => x) fun _ x => x
theorem ToldA.lat {w : World} {P : Nat → Prop} {A : Option Addr} {n c : Nat} {rows : List (List V)} (h : ToldA w P A n c rows) : LAt RRow 1 w A n rows := by
  obtain ⟨h1, cells, h2, h3, -⟩ := h
  refine ⟨h1, cells, h3.mono fun cs r hx => ?_, Sl.own h2.own⟩
  obtain ⟨A, n, c, e, ho⟩ := hx
  exact ⟨A, n, c, e, RowAt.own ho.own⟩
theorem own_blk1 {w : World} {base g : Nat} {e : TypeId} {u : Value} (hb : Blk w g e #[u]) (hg : base ≤ g) : w.ownsRow base e 1 (.slice (some ⟨g, 0, none⟩) 1 1) 1 [u] :=
  ⟨rfl, .inr ⟨g, 1, #[u], rfl, hg, hb, Nat.le_refl _, by unfold maxLen; omega, rfl, rfl⟩⟩
set_option maxRecDepth 100000 in
theorem one_any {w : World} {r : List V} {A : Option Addr} {n : Nat} (c : Nat) (ha : ArgR w A n r) :
    Calls Try.prog 75 #[.slice A n c] w fun e w' => ∃ A', e = .returned (.slice A' 1 1) ∧ MineA w.heap.size w' A' 1 1 [r] ∧ Ext w w' := by
  have HC := hide (cloneV (cellsR r) A n c w ha.at_.2 (cellsR_one r) (by have := ha.len; omega))
  clear ha
  go_enter Try.func75, Try.ntmps75
  go_wp2_with ((with_reducible refine HC.out.mono ?_); rintro e w2 ⟨A2, c2, rfl, h2, x2⟩; have O2 := hide h2; have X2 := hide x2; clear h2 x2)
  go_ret
  have hb := Blk.new w2 62 #[.slice A2 n c2]
  have hE := Ext.alloc w2 (.cells #[.slice A2 n c2] 62)
  refine ⟨_, rfl, ⟨[.slice A2 n c2], rfl, own_blk1 hb X2.out.size, Els.single rfl (fun v hv => by obtain rfl := List.mem_singleton.1 hv; rfl) ⟨A2, n, c2, rfl, hid_keep O2.out hE⟩, by unfold Apart; exact List.pairwise_singleton _ _⟩, X2.out.trans hE⟩
/-- what a turn told -/
def MovedAt (T : Nat) (D : Nat → Prop) (w' : World) (F U : List (List V)) (y : Value) : Prop :=
  ∃ A c A2 c2 P Q, y = .agg #[.slice A F.length c, .slice A2 U.length c2] ∧ ToldA w' P A F.length c F ∧ ToldA w' Q A2 U.length c2 U ∧ (∀ b, P b → ¬ Q b) ∧ (∀ b, P b ∨ Q b → T ≤ b ∧ b < w'.heap.size ∧ ¬ D b)
def movedNil : Value := .agg #[.slice none 0 0, .slice none 0 0]
theorem MovedAt.nil (T : Nat) (D : Nat → Prop) (w' : World) : MovedAt T D w' [] [] movedNil :=
  ⟨none, 0, none, 0, fun _ => False, fun _ => False, rfl, ToldA.nil _ _, ToldA.nil _ _, fun _ h => h.elim, fun _ h => h.elim (fun h => h.elim) fun h => h.elim⟩
def TurnAt (w : World) (lab : Lab) (K : NK) (v : NdV) (a : NAbs) (N : Nat) (t : Turn) (e : Ending) (w' : World) : Prop :=
  ∃ y lab', e = .returned (.tuple #[y, .int .i64 t.2.2.2]) ∧ NdQ w' lab' K v { a with now := t.1 } (S1 K { a with now := t.1 }) N ∧ Step w lab w' lab' ∧ MovedAt w.heap.size lab'.dom w' t.2.1 t.2.2.1 y
/-- may a row come there? -/
def chkN (K : NK) (from_ : Int) (r : List V) : Int :=
  if from_ = 2 ∧ K.kind = 3 then if fitsR K.side.length r then 0 else 62 else if from_ ≠ 1 then 190 else if fitsR K.inn r then 0 else 62
theorem NdR.kind {w : World} {lab : Lab} {K : NK} {v : NdV} {a : NAbs} {N : Nat} (h : NdR w lab K v a N) : w.cell? ⟨v.n, 0, none⟩ = some (.pointer (some ⟨v.l, 0, none⟩)) ∧ w.cell? ⟨v.n, 1, none⟩ = some (.iface (workT K) (.pointer (some ⟨v.k, 0, none⟩))) ∧ w.cell? ⟨v.l, 0, none⟩ = some (.int .i64 K.kind) ∧ w.cell? ⟨v.l, 1, none⟩ = some (.int .i64 K.inn) ∧ w.cell? ⟨v.l, 2, none⟩ = some (.slice v.kA K.keep.length v.kC) ∧ w.cell? ⟨v.l, 3, none⟩ = some (.slice v.sA K.side.length v.sC) ∧ w.cell? ⟨v.l, 4, none⟩ = some (.slice v.uA K.up.length v.uC) :=
  ⟨h.node.cell 0, h.node.cell 1, h.lv.cell 0, h.lv.cell 1, h.lv.cell 2, h.lv.cell 3, h.lv.cell 4⟩
set_option maxRecDepth 100000 in
theorem check_any {w : World} {lab : Lab} {K : NK} {v : NdV} {a : NAbs} {N : Nat} (h : NdR w lab K v a N) (from_ : Int) {r : List V} {A : Option Addr} {n : Nat} (c : Nat) (ha : ArgR w A n r) :
    Calls Try.prog 23 #[.pointer (some ⟨v.n, 0, none⟩), .int .i64 from_, .slice A n c] w fun e w' => e = .returned (.int .i64 (chkN K from_ r)) ∧ Ext w w' := by
  have HV := hide (row_valid r A n c w ha.at_ ha.len ha.small)
  obtain ⟨n0, -, l0, l1, -, l3, -⟩ := h.kind
  have hl := ha.at_.len
  clear h ha
  unfold chkN fitsR
  generalize v.n = nb at *
  generalize v.l = l at *
  generalize K.side.length = sl at *
  generalize K.inn = inn at *
  generalize K.kind = kd at *
  generalize validR r = vr at *
  generalize r.length = m at *
  subst hl
  by_cases hside : from_ = 2 ∧ kd = 3
  · obtain ⟨rfl, rfl⟩ := hside
    rw [if_pos ⟨rfl, rfl⟩]
    by_cases hm : n = sl
    · subst hm
      cases vr with
      | true =>
        rw [if_pos (by simp)]
        go_enter Try.func23, Try.ntmps23
        go_wp2_with ((with_reducible refine HV.out.mono ?_); rintro e w1 ⟨rfl, h1⟩; have X1 := hide h1; clear h1)
        go_ret
        exact ⟨rfl, X1.out⟩
      | false =>
        rw [if_neg (by simp)]
        go_enter Try.func23, Try.ntmps23
        go_wp2_with ((with_reducible refine HV.out.mono ?_); rintro e w1 ⟨rfl, h1⟩; have X1 := hide h1; clear h1)
        go_ret
        exact ⟨rfl, X1.out⟩
    · have hm2 : ((n : Int) != (sl : Int)) = true := by simp; omega
      have hm3 : ¬ (n : Int) = (sl : Int) := by omega
      rw [if_neg (by simp [hm])]
      go_enter Try.func23, Try.ntmps23
      go_wp2_with fail
      go_ret
      exact ⟨rfl, Ext.refl _⟩
  · rw [if_neg hside]
    by_cases h1 : from_ = 1
    · subst h1
      simp only [ne_eq, not_true_eq_false, if_false]
      by_cases hm : n = inn
      · subst hm
        cases vr with
        | true =>
          rw [if_pos (by simp)]
          go_enter Try.func23, Try.ntmps23
          go_wp2_with ((with_reducible refine HV.out.mono ?_); rintro e w1 ⟨rfl, h1⟩; have X1 := hide h1; clear h1)
          go_ret
          exact ⟨rfl, X1.out⟩
        | false =>
          rw [if_neg (by simp)]
          go_enter Try.func23, Try.ntmps23
          go_wp2_with ((with_reducible refine HV.out.mono ?_); rintro e w1 ⟨rfl, h1⟩; have X1 := hide h1; clear h1)
          go_ret
          exact ⟨rfl, X1.out⟩
      · have hm2 : ((n : Int) != (inn : Int)) = true := by simp; omega
        have hm3 : ¬ (n : Int) = (inn : Int) := by omega
        rw [if_neg (by simp [hm])]
        go_enter Try.func23, Try.ntmps23
        go_wp2_with fail
        go_ret
        exact ⟨rfl, Ext.refl _⟩
    · rw [if_pos h1]
      have hb1 : (from_ != 1) = true := by simp [h1]
      by_cases h2 : from_ = 2
      · subst h2
        have hk : ¬ kd = 3 := fun e => hside ⟨rfl, e⟩
        have hk2 : ((kd : Int) == 3) = false := by simp; omega
        clear hside
        go_enter Try.func23, Try.ntmps23
        go_wp2_with fail
        go_ret
        exact ⟨rfl, Ext.refl _⟩
      · have hb2 : (from_ == 2) = false := by simp [h2]
        clear hside
        go_enter Try.func23, Try.ntmps23
        go_wp2_with fail
        go_ret
        exact ⟨rfl, Ext.refl _⟩
end Go.Proofs.Ytahdiiaadjdmcaa
