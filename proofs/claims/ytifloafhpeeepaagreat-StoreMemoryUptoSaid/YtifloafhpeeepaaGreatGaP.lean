/-
  The document's Pack.
  
  
-/
import Derived.Test.YtifloafhpeeepaaGreatGaG
import Derived.Test.YtifloafhpeeepaaGreatGaF
import Derived.Laws.IdiomStrings
namespace Go.Proofs.YtifloafhpeeepaaGreat
open Go.RowKit

end Go.Proofs.YtifloafhpeeepaaGreat

namespace Go.Proofs.YtifloafhpeeepaaGreat
open Go.RowKit

theorem RetOwn.nums {w0 w' : World} {e : TypeId} {n : Nat} {r : List Int} {en : Ending} (h : RetOwn w0 e 1 n (r.map (Value.int .i64)) en w') : ∃ A c, en = .returned (.slice A n c) ∧ NumAt w' A n r ∧ Ext w0 w' := by
  obtain ⟨A, c, he, ho, hE⟩ := h
  exact ⟨A, c, he, NumAt.own ho, hE⟩
theorem RetRowErr.row {w0 w' : World} {e : TypeId} {res : List V × Int} {en : Ending} (h : RetRowErr w0 e res en w') : ∃ A c, en = .returned (.tuple #[.slice A res.1.length c, .int .i64 res.2]) ∧ RowAt w' A res.1.length res.1 ∧ Ext w0 w' := by
  obtain ⟨A, c, he, ho, hE⟩ := h
  exact ⟨A, c, he, RowAt.own ho, hE⟩
end Go.Proofs.YtifloafhpeeepaaGreat

namespace Go.Proofs.YtifloafhpeeepaaGreat
open Go.RowKit

section
variable {P : Program} {w : World} {ops : Array Oper} {rest : List Oper} {a : Act} {Q : Exit → Act → World → Prop}
/-- no-ops that fit at one kind of operation alone: 'with_reducible refine at_conv ?_' is a cheap guard ahead of a law -/
theorem at_conv {dst : Option Tmp} {s t ty : TypeId} {x : Operand} {pos : String} {aft : Array Edge} {g : Option (Nat × Bool)} (h : wpList P ops Q (⟨dst, .convert s t x, ty, pos, aft, g⟩ :: rest) a w) : wpList P ops Q (⟨dst, .convert s t x, ty, pos, aft, g⟩ :: rest) a w := h
theorem at_stor {dst : Option Tmp} {t ty : TypeId} {x y : Operand} {pos : String} {aft : Array Edge} {g : Option (Nat × Bool)} (h : wpList P ops Q (⟨dst, .store t x y, ty, pos, aft, g⟩ :: rest) a w) : wpList P ops Q (⟨dst, .store t x y, ty, pos, aft, g⟩ :: rest) a w := h
end
theorem exec_convg {P : Program} {w : World} {a : Act} {dst : Option Tmp} {s t ty : TypeId} {x : Operand} {pos : String} {aft : Array Edge} {g : Option (Nat × Bool)} {u r : Value} (hx : a.eval x = u)
    (h : (convert s t u).run P w = .ok r w) : (execOp a.eval ⟨dst, .convert s t x, ty, pos, aft, g⟩).run P w = .ok (.value r) w := by
  simp only [execOp, hx]; simp [h]
/-- the text of bytes that lie in memory -/
theorem run_bytes_str {P : Program} {w : World} {src dst e : TypeId} {A : Option Addr} {n c : Nat} {l : List UInt8} (hs : P.underlying src = some (.slice e)) (he : P.underlying e = some (.int .u8)) (hd : P.underlying dst = some .string)
    (h : Sl w A n 1 (bcells l)) : (convert src dst (.slice A n c)).run P w = .ok (.string ⟨l.toArray⟩) w := by
  have hn : n = l.length := by have := h.1; rw [bcells_len] at this; omega
  subst hn
  cases A with
  | none =>
    have h0 : l.length = 0 := by
      rcases Nat.eq_zero_or_pos l.length with h0 | h0
      · exact h0
      · obtain ⟨b, off, h1, _⟩ := h.2 h0; cases h1
    rw [List.length_eq_zero_iff.1 h0, run_convert_bytes_string w src dst e none _ c hs he hd]
    simp [Conv.bytesToString]
    rfl
  | some ad =>
    refine run_convert_bytes_back w src dst e ad c l hs he hd fun j hj => ?_
    obtain ⟨b, off, h1, h2⟩ := h.2 (by omega)
    injection h1 with h1; subst h1
    rw [add_flat]
    exact h2 j _ (by simp [bcells, List.getElem?_eq_getElem hj])
theorem RetBytesErr.sl {w0 w' : World} {res : List UInt8 × Int} {en : Ending} (h : RetBytesErr w0 res en w') : ∃ A c, en = .returned (.tuple #[.slice A res.1.length c, .int .i64 res.2]) ∧ Sl w' A res.1.length 1 (bcells res.1) ∧ Ext w0 w' := by
  obtain ⟨A, c, he, ho, hE⟩ := h
  exact ⟨A, c, he, Sl.own ho, hE⟩
end Go.Proofs.YtifloafhpeeepaaGreat
