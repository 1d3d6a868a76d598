/-
  HashidxMemory: what holds in its loops.
-/
import Derived.Test.YtlpbkhdpfmknkaaHidO
namespace Go.Proofs.Ytlpbkhdpfmknkaa
open Go.RowKit

def spareS : ByteArray := ⟨#[115, 112, 97, 114, 101]⟩
theorem spare_text (s : ByteArray) : (⟨([] ++ keyOf s ++ keyOf spareS).toArray⟩ : ByteArray) = s ++ ⟨#[115, 112, 97, 114, 101]⟩ := by
  apply ByteArray.ext
  rw [ByteArray.data_append]
  apply Array.ext'
  simp [keyOf, spareS]
theorem keyOf_spare (s : ByteArray) : ([] ++ keyOf s ++ keyOf spareS).take s.size = keyOf s := by
  rw [List.nil_append, ← keyOf_len]; exact List.take_left
/-- what holds ahead of each key that is laid -/
structure MInv (w0 w : World) (x probes : Nat) (B : Nat → Prop) (A : Option Addr) (n c : Nat) (k : List UInt8) (E : List (List UInt8 × Int)) : Prop where
  ix : HIx w B x 1048576 probes E
  new : ∀ b, B b → w0.heap.size ≤ b
  own : w.ownsRow w0.heap.size 5 1 (.slice A n c) n (bytC k)
  some_ : A ≠ none
  apart : ∀ a, A = some a → ¬ B a.block
  ext : Ext w0 w
theorem own_pre {w : World} {base n c : Nat} {e : TypeId} {A : Option Addr} {k : List UInt8} (h : w.ownsRow base e 1 (.slice A n c) n (bytC k)) (m : Nat) (hm : m ≤ n) (hA : A ≠ none) : w.ownsRow base e 1 (.slice A m c) m (bytC (k.take m)) := by
  have hl : (bytC k).length = n := by simpa using h.1
  have hk : k.length = n := by simpa [bytC] using hl
  refine ⟨by simp [bytC]; omega, ?_⟩
  rcases h.2 with ⟨he, _⟩ | ⟨g, cap, cur, hv, h2, h3, h4, h5, h6, h7⟩
  · injection he with he
    exact absurd he hA
  · injection hv with e1 e2 e3
    subst e1; subst e3
    refine .inr ⟨g, c, cur, rfl, h2, h3, by omega, h5, h6, ?_⟩
    rw [Nat.mul_one] at h7 ⊢
    have : cur.toList.take m = (cur.toList.take n).take m := by rw [List.take_take, Nat.min_eq_left hm]
    rw [this, h7]
    simp [bytC, List.map_take]
/-- the text's bytes were laid at the head of the row, and more -/
theorem MInv.app {w0 w w' : World} {x probes : Nat} {B : Nat → Prop} {A A' : Option Addr} {n n' c c' : Nat} {k k' : List UInt8} {E : List (List UInt8 × Int)} (h : MInv w0 w x probes B A n c k E) (ho : w'.ownsRow w0.heap.size 5 1 (.slice A' n' c') n' (bytC k')) (hc : Chg (OnlyOwn A) w w') (hA : A' ≠ none)
    (ha : ∀ a', A' = some a' → (∃ a, A = some a ∧ a.block = a'.block) ∨ w.heap.size ≤ a'.block) : MInv w0 w' x probes B A' n' c' k' E := by
  refine ⟨h.ix.far hc ?_, h.new, ho, hA, fun a he hb => ?_, hc.ext h.ext ?_⟩
  · rintro g hg ⟨a, rfl, rfl⟩
    exact h.apart a rfl hg
  · rcases ha a he with ⟨a0, rfl, e⟩ | h1
    · exact h.apart a0 rfl (by rw [e]; exact hb)
    · have := h.ix.old _ hb
      omega
  · rintro g ⟨a, rfl, rfl⟩
    exact (h.own.lt _ rfl).1
theorem MInv.pre {w0 w : World} {x probes : Nat} {B : Nat → Prop} {A : Option Addr} {n c : Nat} {k : List UInt8} {E : List (List UInt8 × Int)} (h : MInv w0 w x probes B A n c k E) (m : Nat) (hm : m ≤ n) : MInv w0 w x probes B A m c (k.take m) E :=
  ⟨h.ix, h.new, own_pre h.own m hm h.some_, h.some_, h.apart, h.ext⟩
theorem MInv.put {w0 w w' : World} {x probes : Nat} {B B' : Nat → Prop} {A : Option Addr} {n c : Nat} {k : List UInt8} {E E' : List (List UInt8 × Int)} (h : MInv w0 w x probes B A n c k E) (hx : HIx w' B' x 1048576 (probes + 1) E') (hB : ∀ b, B' b → B b ∨ w.heap.size ≤ b) (hC : Chg B w w') : MInv w0 w' x (probes + 1) B' A n c k E' := by
  refine ⟨hx, fun b hb => ?_, hC.own h.own fun g hg => ?_, h.some_, fun a ha hb => ?_, hC.ext h.ext h.new⟩
  · rcases hB b hb with h1 | h1
    · exact h.new b h1
    · exact Nat.le_trans h.ext.size h1
  · cases A with
    | none => cases hg
    | some a =>
      injection hg with hg
      rw [← hg]
      exact h.apart a rfl
  · rcases hB _ hb with h1 | h1
    · exact h.apart a ha h1
    · subst ha
      have := (h.own.lt _ rfl).2
      omega
theorem MInv.form {w0 w : World} {x probes : Nat} {B : Nat → Prop} {A : Option Addr} {n c : Nat} {k : List UInt8} {E : List (List UInt8 × Int)} (h : MInv w0 w x probes B A n c k E) : (∃ g, A = some ⟨g, 0, none⟩) ∧ n ≤ c ∧ c ≤ 9223372036854775807 ∧ k.length = n := by
  have hl : (bytC k).length = n := by simpa using h.own.1
  have hk : k.length = n := by simpa [bytC] using hl
  rcases h.own.2 with ⟨he, _⟩ | ⟨g, cap, cur, hv, h2, h3, h4, h5, h6, h7⟩
  · injection he with he
    exact absurd he h.some_
  · injection hv with e1 e2 e3
    subst e3
    unfold maxLen at h5
    exact ⟨⟨g, e1⟩, h4, by omega, hk⟩
theorem MInv.key {w0 w : World} {x probes : Nat} {B : Nat → Prop} {A : Option Addr} {n c : Nat} {k : List UInt8} {E : List (List UInt8 × Int)} (h : MInv w0 w x probes B A n c k E) : KeyAt w A n k := Sl.own h.own
theorem MInv.aside {w0 w : World} {x probes : Nat} {B : Nat → Prop} {A : Option Addr} {n c : Nat} {k : List UInt8} {E : List (List UInt8 × Int)} (h : MInv w0 w x probes B A n c k E) : Aside B A := h.apart
theorem MInv.norm {w0 w : World} {x probes : Nat} {B : Nat → Prop} {A : Option Addr} {c : Nat} {E : List (List UInt8 × Int)} {s : ByteArray} (h : MInv w0 w x probes B A (0 + s.size + (⟨#[115, 112, 97, 114, 101]⟩ : ByteArray).size) c ([] ++ keyOf s ++ keyOf ⟨#[115, 112, 97, 114, 101]⟩) E) : MInv w0 w x probes B A (s.size + 5) c ([] ++ keyOf s ++ keyOf spareS) E := by
  have e : 0 + s.size + (⟨#[115, 112, 97, 114, 101]⟩ : ByteArray).size = s.size + 5 := by
    show 0 + s.size + 5 = s.size + 5
    omega
  rw [e] at h
  exact h
theorem MInv.pre_key {w0 w : World} {x probes : Nat} {B : Nat → Prop} {A : Option Addr} {c : Nat} {E : List (List UInt8 × Int)} {s : ByteArray} (h : MInv w0 w x probes B A (s.size + 5) c ([] ++ keyOf s ++ keyOf spareS) E) : KeyAt w A s.size (keyOf s) := by
  have := (h.pre s.size (by omega)).key
  rwa [keyOf_spare] at this
theorem MInv.text {w0 w : World} {x probes : Nat} {B : Nat → Prop} {A : Option Addr} {c : Nat} {E : List (List UInt8 × Int)} {s : ByteArray} (h : MInv w0 w x probes B A (s.size + 5) c ([] ++ keyOf s ++ keyOf spareS) E) : (convert 30 9 (.slice A (s.size + 5) c)).run Try.prog w = .ok (.string (s ++ ⟨#[115, 112, 97, 114, 101]⟩)) w := by
  have := key_conv h.key c
  rwa [spare_text] at this
theorem MInv.start {w0 w : World} {x : Nat} {B : Nat → Prop} (h : HIx w B x 1048576 0 []) (hB : ∀ b, B b → w0.heap.size ≤ b) (hE : Ext w0 w) : MInv w0 (w.alloc (.cells (madeCells #[.int .u8 0] (64 * 1)) 5)) x 0 B (some ⟨w.heap.size, 0, none⟩) 0 64 [] [] :=
  ⟨h.ext (Ext.alloc _ _), hB, World.ownsRow_made w _ 64 hE.size (by unfold maxLen; omega) (by rw [size_madeCells]), by simp, fun a ha hb => by injection ha with ha; subst ha; exact absurd (h.old _ hb) (Nat.lt_irrefl _), hE.alloc' _⟩
end Go.Proofs.Ytlpbkhdpfmknkaa
