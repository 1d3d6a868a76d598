/-
  The document's Pack.
  
  
-/
import Derived.Test.YtifloafhpeeepaaGreatGaG
import Derived.Test.YtifloafhpeeepaaGreatGaF
import Derived.Laws.IdiomStrings
namespace Go.Proofs.YtifloafhpeeepaaGreat
open Go.RowKit

theorem be_byte (N s dn : Nat) (d : Int) (h2 : 2 ^ s = dn) (h1 : (dn : Int) = d) : Value.int .u8 ((N : Int) / d % 256) = .int .u8 ((UInt8.ofNat (N / 2 ^ s)).toNat : Int) := by
  subst h1; rw [h2]
  have e : ((UInt8.ofNat (N / dn)).toNat : Int) = ((N / dn % 256 : Nat) : Int) := by rw [UInt8.toNat_ofNat']
  rw [e, Int.natCast_emod, Int.natCast_ediv]; rfl
set_option maxRecDepth 100000 in
theorem be_cells {i : Int} (h : -9223372036854775808 ≤ i ∧ i ≤ 9223372036854775807) : (#[.int .u8 1, .int .u8 (IntKind.u64.wrap (IntKind.u64.wrap i + 9223372036854775808) / 72057594037927936 % 256), .int .u8 (IntKind.u64.wrap (IntKind.u64.wrap i + 9223372036854775808) / 281474976710656 % 256), .int .u8 (IntKind.u64.wrap (IntKind.u64.wrap i + 9223372036854775808) / 1099511627776 % 256), .int .u8 (IntKind.u64.wrap (IntKind.u64.wrap i + 9223372036854775808) / 4294967296 % 256), .int .u8 (IntKind.u64.wrap (IntKind.u64.wrap i + 9223372036854775808) / 16777216 % 256), .int .u8 (IntKind.u64.wrap (IntKind.u64.wrap i + 9223372036854775808) / 65536 % 256), .int .u8 (IntKind.u64.wrap (IntKind.u64.wrap i + 9223372036854775808) / 256 % 256), .int .u8 (IntKind.u64.wrap (IntKind.u64.wrap i + 9223372036854775808) % 256)] : Array Value) = (bcells (1 :: be64 (bias i))).toArray := by
  have e : IntKind.u64.wrap (IntKind.u64.wrap i + 9223372036854775808) = (bias i : Int) := by rw [wrapN_eq i]; exact bias_add h
  have e0 := be_byte (bias i) 0 1 1 rfl rfl
  rw [Int.ediv_one] at e0
  rw [e, be_byte _ 56 72057594037927936 72057594037927936 (by decide) rfl, be_byte _ 48 281474976710656 281474976710656 (by decide) rfl, be_byte _ 40 1099511627776 1099511627776 (by decide) rfl, be_byte _ 32 4294967296 4294967296 (by decide) rfl, be_byte _ 24 16777216 16777216 (by decide) rfl, be_byte _ 16 65536 65536 (by decide) rfl, be_byte _ 8 256 256 (by decide) rfl, e0]
  rfl

end Go.Proofs.YtifloafhpeeepaaGreat

namespace Go.Proofs.YtifloafhpeeepaaGreat
open Go.RowKit

theorem RetOwn.nums {w0 w' : World} {e : TypeId} {n : Nat} {r : List Int} {en : Ending} (h : RetOwn w0 e 1 n (r.map (Value.int .i64)) en w') : ∃ A c, en = .returned (.slice A n c) ∧ NumAt w' A n r ∧ Ext w0 w' := by
  obtain ⟨A, c, he, ho, hE⟩ := h
  exact ⟨A, c, he, NumAt.own ho, hE⟩
theorem RetRowErr.row {w0 w' : World} {e : TypeId} {res : List V × Int} {en : Ending} (h : RetRowErr w0 e res en w') : ∃ A c, en = .returned (.tuple #[.slice A res.1.length c, .int .i64 res.2]) ∧ RowAt w' A res.1.length res.1 ∧ Ext w0 w' := by
  obtain ⟨A, c, he, ho, hE⟩ := h
  exact ⟨A, c, he, RowAt.own ho, hE⟩
theorem projR_len (r : List V) (cols : List Int) : (projR r cols).1.length ≤ cols.length := by
  unfold projR
  split
  · simp
  · split
    · rename_i l h; exact Nat.le_of_eq (projGo_len r cols l h)
    · simp
theorem projR_err (r : List V) (cols : List Int) : (projR r cols).2 = 0 ∨ (projR r cols).2 = 20 ∨ (projR r cols).2 = 23 := by
  unfold projR
  split
  · simp
  · split <;> simp
theorem sameR_refl (r : List V) : sameR r r = true := sameR_iff.2 rfl

end Go.Proofs.YtifloafhpeeepaaGreat

namespace Go.Proofs.YtifloafhpeeepaaGreat
open Go.RowKit

section
variable {P : Program} {w : World} {ops : Array Oper} {rest : List Oper} {a : Act} {Q : Exit → Act → World → Prop}
/-- no-ops that fit at one kind of operation alone: 'with_reducible refine at_conv ?_' is a cheap guard ahead of a law -/
theorem at_conv {dst : Option Tmp} {s t ty : TypeId} {x : Operand} {pos : String} {aft : Array Edge} {g : Option (Nat × Bool)} (h : wpList P ops Q (⟨dst, .convert s t x, ty, pos, aft, g⟩ :: rest) a w) : wpList P ops Q (⟨dst, .convert s t x, ty, pos, aft, g⟩ :: rest) a w := h
theorem at_stor {dst : Option Tmp} {t ty : TypeId} {x y : Operand} {pos : String} {aft : Array Edge} {g : Option (Nat × Bool)} (h : wpList P ops Q (⟨dst, .store t x y, ty, pos, aft, g⟩ :: rest) a w) : wpList P ops Q (⟨dst, .store t x y, ty, pos, aft, g⟩ :: rest) a w := h
end
theorem wpList_valw {P : Program} {w : World} {ops : Array Oper} {rest : List Oper} {o : Oper} {a : Act} {Q : Exit → Act → World → Prop} (hw : Region.wanted o (yielded ops a.tmps) = true) (v : Value) (hrun : (execOp a.eval o).run P w = .ok (.value v) w)
    (h : wpList P ops Q rest (a.put o.dst v) w) : wpList P ops Q (o :: rest) a w :=
  BigFrame.wpList_want hw fun K hK => by
    unfold Oper.wp
    rw [hrun]
    exact hK _ _ h
theorem exec_convg {P : Program} {w : World} {a : Act} {dst : Option Tmp} {s t ty : TypeId} {x : Operand} {pos : String} {aft : Array Edge} {g : Option (Nat × Bool)} {u r : Value} (hx : a.eval x = u)
    (h : (convert s t u).run P w = .ok r w) : (execOp a.eval ⟨dst, .convert s t x, ty, pos, aft, g⟩).run P w = .ok (.value r) w := by
  simp only [execOp, hx]; simp [h]
/-- the text of bytes that lie in memory -/
theorem run_bytes_str {P : Program} {w : World} {src dst e : TypeId} {A : Option Addr} {n c : Nat} {l : List UInt8} (hs : P.underlying src = some (.slice e)) (he : P.underlying e = some (.int .u8)) (hd : P.underlying dst = some .string)
    (h : Sl w A n 1 (bcells l)) : (convert src dst (.slice A n c)).run P w = .ok (.string ⟨l.toArray⟩) w := by
  have hn : n = l.length := by have := h.1; rw [bcells_len] at this; omega
  subst hn
  cases A with
  | none =>
    have h0 : l.length = 0 := by
      rcases Nat.eq_zero_or_pos l.length with h0 | h0
      · exact h0
      · obtain ⟨b, off, h1, _⟩ := h.2 h0; cases h1
    rw [List.length_eq_zero_iff.1 h0, run_convert_bytes_string w src dst e none _ c hs he hd]
    simp [Conv.bytesToString]
    rfl
  | some ad =>
    refine run_convert_bytes_back w src dst e ad c l hs he hd fun j hj => ?_
    obtain ⟨b, off, h1, h2⟩ := h.2 (by omega)
    injection h1 with h1; subst h1
    rw [add_flat]
    exact h2 j _ (by simp [bcells, List.getElem?_eq_getElem hj])
theorem RetBytesErr.sl {w0 w' : World} {res : List UInt8 × Int} {en : Ending} (h : RetBytesErr w0 res en w') : ∃ A c, en = .returned (.tuple #[.slice A res.1.length c, .int .i64 res.2]) ∧ Sl w' A res.1.length 1 (bcells res.1) ∧ Ext w0 w' := by
  obtain ⟨A, c, he, ho, hE⟩ := h
  exact ⟨A, c, he, Sl.own ho, hE⟩
theorem packRes_err (r : List V) : (packRes r).2 = 0 ∨ (packRes r).2 = 20 ∨ (packRes r).2 = 21 := by
  unfold packRes
  split
  · simp
  · split <;> simp
theorem packRes_len (r : List V) : (packRes r).1.length ≤ 3930 := by
  unfold packRes
  split
  · simp
  · split
    · rename_i h1 h2
      simp [validR] at h2
      have := packR_len r (by simpa using h2.2)
      simp only; omega
    · simp

end Go.Proofs.YtifloafhpeeepaaGreat
