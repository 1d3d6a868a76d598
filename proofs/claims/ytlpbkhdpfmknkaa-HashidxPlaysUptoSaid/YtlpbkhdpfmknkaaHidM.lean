/-
  hashidx: an index in memory; what writes into its blocks alone; bytes.Equal at keys.
-/
import Derived.Test.YtlpbkhdpfmknkaaHidP
import Derived.Test.YtlpbkhdpfmknkaaShelf
import Derived.Shelf.Bytes.SlSmallAll
namespace Go.Proofs.Ytlpbkhdpfmknkaa
open Go.RowKit

/-- nothing but the blocks of B (and new ones) is written -/
structure Chg (B : Nat → Prop) (w w' : World) : Prop where
  os : w'.os = w.os
  tape : w'.tape = w.tape
  output : w'.output = w.output
  size : w.heap.size ≤ w'.heap.size
  block : ∀ k, k < w.heap.size → ¬ B k → w'.heap[k]? = w.heap[k]?
theorem Chg.of {B : Nat → Prop} {w w' : World} (h : Ext w w') : Chg B w w' := ⟨Below.os h, Below.tape h, Below.output h, h.size, fun _ hk _ => h.block hk⟩
theorem Chg.refl (B : Nat → Prop) (w : World) : Chg B w w := .of (Ext.refl w)
theorem Chg.trans {B C : Nat → Prop} {a b c : World} (h : Chg B a b) (k : Chg C b c) (hC : ∀ g, C g → g < a.heap.size → B g) : Chg B a c :=
  ⟨k.os.trans h.os, k.tape.trans h.tape, k.output.trans h.output, Nat.le_trans h.size k.size, fun g hg hB => (k.block g (Nat.lt_of_lt_of_le hg h.size) (fun x => hB (hC g x hg))).trans (h.block g hg hB)⟩
theorem Chg.trans' {B : Nat → Prop} {a b c : World} (h : Chg B a b) (k : Chg B b c) : Chg B a c := h.trans k fun _ x _ => x
theorem Chg.mono {B C : Nat → Prop} {w w' : World} (h : Chg B w w') (hC : ∀ g, B g → g < w.heap.size → C g) : Chg C w w' :=
  ⟨h.os, h.tape, h.output, h.size, fun k hk hn => h.block k hk fun x => hn (hC k x hk)⟩
theorem Chg.ext {B : Nat → Prop} {w0 w w' : World} (h : Chg B w w') (h0 : Ext w0 w) (hB : ∀ g, B g → w0.heap.size ≤ g) : Ext w0 w' :=
  Below.trans h0 ⟨h.os, h.tape, h.output, h.size, fun k hk => h.block k (Nat.lt_of_lt_of_le hk h0.size) fun x => absurd (hB k x) (by omega)⟩
theorem Chg.setCell {B : Nat → Prop} {a w : World} (h : Chg B a w) {p : Addr} (hp : B p.block ∨ a.heap.size ≤ p.block) (u : Value) : Chg B a (w.setCell p u) :=
  h.trans (C := fun g => g = p.block) ⟨rfl, rfl, rfl, by simp, fun k _ hn => Below.heap_setCell w p u k hn⟩ fun g hg hl => by
    subst hg
    rcases hp with h | h
    · exact h
    · omega
theorem Chg.alloc {B : Nat → Prop} {a w : World} (h : Chg B a w) (o : Obj) : Chg B a (w.alloc o) := h.trans' (.of (Ext.alloc w o))
theorem Chg.blk {B : Nat → Prop} {w w' : World} (h : Chg B w w') {g : Nat} {t : TypeId} {cs : Array Value} (hb : Blk w g t cs) (hg : ¬ B g) : Blk w' g t cs := (h.block g hb.lt hg).trans hb
theorem Chg.cell {B : Nat → Prop} {w w' : World} (h : Chg B w w') {p : Addr} {v : Value} (hp : w.cell? p = some v) (hg : ¬ B p.block) : w'.cell? p = some v :=
  (World.cell?_of_block (w := w) (h.block p.block (World.block_lt_of_cell? w p hp) hg)).trans hp
theorem Chg.key {B : Nat → Prop} {w w' : World} (h : Chg B w w') {A : Option Addr} {n : Nat} {k : List UInt8} (hk : KeyAt w A n k) (hg : ∀ a, A = some a → ¬ B a.block) : KeyAt w' A n k :=
  ⟨hk.1, fun hn => by
    obtain ⟨b, off, hA, hc⟩ := hk.2 hn
    exact ⟨b, off, hA, fun j u hu => h.cell (hc j u hu) (by have := hg _ hA; simpa using this)⟩⟩

theorem Chg.own {B : Nat → Prop} {w w' : World} (h : Chg B w w') {base : Nat} {e : TypeId} {s n : Nat} {v : Value} {xs : List Value} (ho : w.ownsRow base e s v n xs) (hg : ∀ k, v.ownBlock = some k → ¬ B k) : w'.ownsRow base e s v n xs := by
  refine ⟨ho.1, ?_⟩
  rcases ho.2 with h1 | ⟨g, cap, cur, rfl, h2, h3, h4⟩
  · exact .inl h1
  · exact .inr ⟨g, cap, cur, rfl, h2, Chg.blk h h3 (hg g rfl), h4⟩
theorem own_keep {w w' : World} {base : Nat} {e : TypeId} {s n : Nat} {v : Value} {xs : List Value} (h : w.ownsRow base e s v n xs) (hw : Ext w w') : w'.ownsRow base e s v n xs :=
  (Chg.of (B := fun _ => False) hw).own h fun _ _ x => x
theorem own_type {w : World} {base g : Nat} {e t : TypeId} {size n : Nat} {v : Value} {xs : List Value} {cs : Array Value} (h : w.ownsRow base e size v n xs) (hb : Blk w g t cs) (hne : e ≠ t) : v.ownBlock ≠ some g := by
  rcases h.2 with ⟨rfl, _⟩ | ⟨g', cap, cur, rfl, _, h3, _⟩
  · simp [Value.ownBlock]
  · intro he
    simp only [Value.ownBlock, Option.some.injEq] at he
    subst he
    unfold Blk at hb
    rw [h3] at hb
    injection hb with hb
    injection hb with _ hb
    exact hne hb

/-! keys -/
theorem key_conv {w : World} {A : Option Addr} {n : Nat} {k : List UInt8} (h : KeyAt w A n k) (c : Nat) : (convert 30 9 (.slice A n c)).run Try.prog w = .ok (.string ⟨k.toArray⟩) w := by
  rcases Nat.eq_zero_or_pos n with h0 | h0
  · have := h.len
    subst h0
    obtain rfl : k = [] := List.eq_nil_of_length_eq_zero this.symm
    exact run_convert_bytes_zero w _ _ Try.underlying30 Try.underlying5 A c _ Try.underlying9
  · obtain ⟨b, off, rfl, hc⟩ := h.2 h0
    have hs : strOfNums (k.map fun b => (b.toNat : Int)) = ⟨k.toArray⟩ := by
      unfold strOfNums
      congr 1
      simp [List.map_map, Function.comp_def]
    rw [← hs]
    refine run_convert_bytes_arg w _ _ Try.underlying30 Try.underlying5 b off n c (k.map fun b => (b.toNat : Int)) (by rw [List.length_map, h.len]) (fun i hi => ?_) _ Try.underlying9
    have hl : i < k.length := by have := h.len; omega
    exact hc i _ (by simp [bytC, hl])
theorem eq_keys {w : World} {A B : Option Addr} {n m : Nat} {k l : List UInt8} (ha : KeyAt w A n k) (hb : KeyAt w B m l) (c d : Nat) : Calls Try.prog 29 #[.slice A n c, .slice B m d] w fun e w' => e = .returned (.bool (decide (k = l))) ∧ w' = w := by
  have h := Try.bytes_Equal_strs _ _ _ _ w (key_conv ha c) (key_conv hb d)
  refine h.mono fun e w' ⟨h1, h2⟩ => ⟨by rw [h1]; congr 2; rw [Bool.eq_iff_iff]; simp, h2⟩

/-! an index -/
/-- a key of the index's own -/
def OwnKey (w : World) (B : Nat → Prop) (K : Value) (k : List UInt8) : Prop := ∃ A n c, K = .slice A n c ∧ w.ownsRow 0 5 1 K n (bytC k) ∧ ∀ a, A = some a → B a.block
theorem OwnKey.keep {w w' : World} {B C : Nat → Prop} {K : Value} {k : List UInt8} (h : OwnKey w B K k) (hw : Chg C w w') (hC : ∀ A n c, K = .slice A n c → ∀ a, A = some a → ¬ C a.block) : OwnKey w' B K k := by
  obtain ⟨A, n, c, rfl, h2, h3⟩ := h
  refine ⟨A, n, c, rfl, hw.own h2 fun g hg => ?_, h3⟩
  cases A with
  | none => simp [Value.ownBlock] at hg
  | some a =>
    simp only [Value.ownBlock, Option.some.injEq] at hg
    rw [← hg]; exact hC _ _ _ rfl a rfl
theorem OwnKey.ext {w w' : World} {B : Nat → Prop} {K : Value} {k : List UInt8} (h : OwnKey w B K k) (hw : Ext w w') : OwnKey w' B K k :=
  h.keep (C := fun _ => False) (Chg.of hw) fun _ _ _ _ _ _ x => x
theorem OwnKey.mono {w : World} {B C : Nat → Prop} {K : Value} {k : List UInt8} (h : OwnKey w B K k) (hC : ∀ g, B g → C g) : OwnKey w C K k := by
  obtain ⟨A, n, c, e, h2, h3⟩ := h
  exact ⟨A, n, c, e, h2, fun a ha => hC _ (h3 a ha)⟩
/-- a key's block is of another kind than this one -/
theorem OwnKey.ne {w : World} {B : Nat → Prop} {K : Value} {k : List UInt8} (h : OwnKey w B K k) {g : Nat} {t : TypeId} {cs : Array Value} (hb : Blk w g t cs) (hne : 5 ≠ t) : ∀ A n c, K = .slice A n c → ∀ a, A = some a → a.block ≠ g := by
  rintro A n c rfl a rfl he
  obtain ⟨A', n', c', e, h2, _⟩ := h
  injection e with e1 e2 e3
  subst e1; subst e2; subst e3
  exact own_type h2 hb hne (by rw [← he]; rfl)
def plC (p : Pl) (K : Value) : List Value := [.int .u8 (p.st : Int), K, .int .i64 p.num]
def tabC : List Pl → List Value → List Value
  | p :: T, K :: Ks => plC p K ++ tabC T Ks
  | _, _ => []
/-- the cells of an index -/
def ixC (most size marks probes tb len : Nat) : Array Value := #[.int .i64 most, .int .i64 size, .int .i64 marks, .int .i64 probes, .slice (some ⟨tb, 0, none⟩) len len]
structure TabAt (w : World) (B : Nat → Prop) (tb : Nat) (T : List Pl) (Ks : List Value) : Prop where
  blk : Blk w tb 56 (tabC T Ks).toArray
  len : Ks.length = T.length
  keys : ∀ (i : Nat) (p : Pl) (K : Value), T[i]? = some p → Ks[i]? = some K → OwnKey w B K p.key
  inB : B tb
theorem TabAt.ext {w w' : World} {B : Nat → Prop} {tb : Nat} {T : List Pl} {Ks : List Value} (h : TabAt w B tb T Ks) (hw : Ext w w') : TabAt w' B tb T Ks :=
  ⟨h.blk.ext hw, h.len, fun i p K h1 h2 => (h.keys i p K h1 h2).ext hw, h.inB⟩
theorem tabC_len : ∀ {T : List Pl} {Ks : List Value}, Ks.length = T.length → (tabC T Ks).length = T.length * 3
  | [], [], _ => rfl
  | p :: T, K :: Ks, h => by
    have := tabC_len (T := T) (Ks := Ks) (by simpa using h)
    simp only [tabC, plC, List.length_append, List.length_cons, List.length_nil, this]; omega
theorem tabC_get : ∀ {T : List Pl} {Ks : List Value} {i : Nat} {p : Pl} {K : Value}, T[i]? = some p → Ks[i]? = some K → ∀ j v, (plC p K)[j]? = some v → (tabC T Ks)[i * 3 + j]? = some v
  | [], _, _, _, _, h, _ => by simp at h
  | _ :: _, [], _, _, _, _, h => by simp at h
  | p :: T, K :: Ks, 0, _, _, h1, h2 => fun j v hj => by
    simp only [List.getElem?_cons_zero, Option.some.injEq] at h1 h2
    subst h1; subst h2
    rw [tabC, Nat.zero_mul, Nat.zero_add, List.getElem?_append_left (by rw [List.getElem?_eq_some_iff] at hj; exact hj.1), hj]
  | p :: T, K :: Ks, i + 1, _, _, h1, h2 => fun j v hj => by
    simp only [List.getElem?_cons_succ] at h1 h2
    rw [tabC, List.getElem?_append_right (by simp [plC]; omega)]
    have := tabC_get h1 h2 j v hj
    rw [← this]
    congr 1
    simp [plC]; omega
theorem TabAt.at_ {w : World} {B : Nat → Prop} {tb : Nat} {T : List Pl} {Ks : List Value} (h : TabAt w B tb T Ks) {i : Nat} {p : Pl} (hp : T[i]? = some p) :
    ∃ A n c, w.cell? ⟨tb, i * 3, none⟩ = some (.int .u8 (p.st : Int)) ∧ w.cell? ⟨tb, i * 3 + 1, none⟩ = some (.slice A n c) ∧ w.cell? ⟨tb, i * 3 + 2, none⟩ = some (.int .i64 p.num) ∧ KeyAt w A n p.key ∧ Ks[i]? = some (.slice A n c) := by
  have hi : i < Ks.length := by rw [h.len]; exact (List.getElem?_eq_some_iff.1 hp).1
  have hK : Ks[i]? = some Ks[i] := List.getElem?_eq_getElem hi
  obtain ⟨A, n, c, e, ho, _⟩ := h.keys i p _ hp hK
  rw [e] at hK ho
  have hg : ∀ j v, (plC p (.slice A n c))[j]? = some v → w.cell? ⟨tb, i * 3 + j, none⟩ = some v := fun j v hv => (h.blk.cell (i * 3 + j)).trans (by rw [List.getElem?_toArray]; exact tabC_get hp hK j v hv)
  exact ⟨A, n, c, hg 0 _ rfl, hg 1 _ rfl, hg 2 _ rfl, Sl.own ho, hK⟩
end Go.Proofs.Ytlpbkhdpfmknkaa
