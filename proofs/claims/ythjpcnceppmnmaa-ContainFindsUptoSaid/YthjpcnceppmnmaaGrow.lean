/-
  A list stays while another one of the call's own grows.
-/
import Derived.Test.YthjpcnceppmnmaaShape2
namespace Go.Proofs.Ythjpcnceppmnmaa
open Go.RowKit

/-- the two slices lie in different blocks -/
def Apart (A B : Option Addr) : Prop := ∀ a b, A = some a → B = some b → a.block ≠ b.block
def BlkIn (w : World) (B : Option Addr) : Prop := ∀ b, B = some b → b.block < w.heap.size
theorem BlkIn.ext {w w' : World} {B : Option Addr} (h : BlkIn w B) (hw : w.heap.size ≤ w'.heap.size) : BlkIn w' B := fun b hb => Nat.lt_of_lt_of_le (h b hb) hw
theorem Apart.none_left (B : Option Addr) : Apart none B := fun a b h _ => by cases h
theorem Apart.symm {A B : Option Addr} (h : Apart A B) : Apart B A := fun a b ha hb => Ne.symm (h b a hb ha)
theorem Apart.grown {w : World} {A A' B : Option Addr} {n c n' c' : Nat} (h : Apart A B) (hB : BlkIn w B) (hl : (Value.slice A' n' c').ownBlock = (Value.slice A n c).ownBlock ∨ (Value.slice A' n' c').ownBlock = some w.heap.size) : Apart A' B := fun a b ha hb => by
  subst ha
  simp only [Value.ownBlock] at hl
  rcases hl with hl | hl
  · cases A with
    | none => simp at hl
    | some a' =>
      simp only [Option.some.injEq] at hl
      rw [hl]
      exact h a' b rfl hb
  · simp only [Option.some.injEq] at hl
    have := hB b hb
    omega
theorem own_new {w0 w : World} {e : TypeId} {s n c : Nat} {A : Option Addr} {xs : List Value} (h : w.ownsRow w0.heap.size e s (.slice A n c) n xs) : ∀ a, A = some a → w0.heap.size ≤ a.block ∧ a.block < w.heap.size := fun a ha => by
  subst ha
  have := h.lt a.block (by simp [Value.ownBlock])
  exact this
theorem Apart.old {w0 w1 w : World} {e : TypeId} {s n c : Nat} {A B : Option Addr} {xs : List Value} (hB : BlkIn w1 B) (hw : w1.heap.size ≤ w0.heap.size) (h : w.ownsRow w0.heap.size e s (.slice A n c) n xs) : Apart A B := fun a b ha hb => by
  have h1 := (own_new h a ha).1
  have h2 := hB b hb
  omega
theorem grown_of_ext {w w' : World} (h : Ext w w') : w.grownBy w' none := ⟨Below.os h, Below.tape h, Below.output h, h.size, fun _ hk _ => h.block hk⟩
theorem own_ext {w w' : World} {base : Nat} {e : TypeId} {s n : Nat} {v : Value} {xs : List Value} (h : w.ownsRow base e s v n xs) (hw : Ext w w') : w'.ownsRow base e s v n xs :=
  h.kept (grown_of_ext hw) (by cases hv : v.ownBlock <;> simp)
theorem Sl.grown {w w' : World} {A B : Option Addr} {n c m size : Nat} {xs : List Value} (h : Sl w B m size xs) (hg : w.grownBy w' (Value.slice A n c).ownBlock) (hap : Apart A B) : Sl w' B m size xs := by
  refine ⟨h.1, fun hm => ?_⟩
  obtain ⟨b, off, hB, hc⟩ := h.2 hm
  refine ⟨b, off, hB, fun j u hu => hg.cell (hc j u hu) ?_⟩
  simp only [Value.ownBlock]
  cases A with
  | none => simp
  | some a =>
    simp only [ne_eq, Option.some.injEq]
    exact fun e => hap a _ rfl hB e.symm
theorem LAt.grown {α : Type} {f : α → List Value} {s : Nat} {w w' : World} {A B : Option Addr} {n c m : Nat} {xs : List α} (h : LAt (RFlat f) s w B m xs) (hg : w.grownBy w' (Value.slice A n c).ownBlock) (hap : Apart A B) : LAt (RFlat f) s w' B m xs := by
  obtain ⟨h1, cells, h2, h3⟩ := h
  exact ⟨h1, cells, h2.mono fun _ _ h => h, h3.grown hg hap⟩
theorem LAt.grownS {w w' : World} {A B : Option Addr} {n c m : Nat} {xs : List ByteArray} (h : LAt RS 1 w B m xs) (hg : w.grownBy w' (Value.slice A n c).ownBlock) (hap : Apart A B) : LAt RS 1 w' B m xs := LAt.grown h hg hap
end Go.Proofs.Ythjpcnceppmnmaa
