import Derived.Test.YtoahckibhmoikaaDoorPack2
import Derived.Test.YtoahckibhmoikaaDoorLawProj
import Derived.Laws.IdiomStrings
namespace Go.Proofs.YtoahckibhmoikaaDoor
open Go.RowKit

section
variable {P : Program} {w : World} {ops : Array Oper} {rest : List Oper} {a : Act} {Q : Exit → Act → World → Prop}
/-- no-ops that fit at one kind of operation alone: 'with_reducible refine at_conv ?_' is a cheap guard ahead of a law -/
theorem at_conv {dst : Option Tmp} {s t ty : TypeId} {x : Operand} {pos : String} {aft : Array Edge} {g : Option (Nat × Bool)} (h : wpList P ops Q (⟨dst, .convert s t x, ty, pos, aft, g⟩ :: rest) a w) : wpList P ops Q (⟨dst, .convert s t x, ty, pos, aft, g⟩ :: rest) a w := h
theorem at_stor {dst : Option Tmp} {t ty : TypeId} {x y : Operand} {pos : String} {aft : Array Edge} {g : Option (Nat × Bool)} (h : wpList P ops Q (⟨dst, .store t x y, ty, pos, aft, g⟩ :: rest) a w) : wpList P ops Q (⟨dst, .store t x y, ty, pos, aft, g⟩ :: rest) a w := h
end
theorem wpList_valw {P : Program} {w : World} {ops : Array Oper} {rest : List Oper} {o : Oper} {a : Act} {Q : Exit → Act → World → Prop} (hw : Region.wanted o (yielded ops a.tmps) = true) (v : Value) (hrun : (execOp a.eval o).run P w = .ok (.value v) w)
    (h : wpList P ops Q rest (a.put o.dst v) w) : wpList P ops Q (o :: rest) a w :=
  BigFrame.wpList_want hw fun K hK => by
    unfold Oper.wp
    rw [hrun]
    exact hK _ _ h
theorem exec_convg {P : Program} {w : World} {a : Act} {dst : Option Tmp} {s t ty : TypeId} {x : Operand} {pos : String} {aft : Array Edge} {g : Option (Nat × Bool)} {u r : Value} (hx : a.eval x = u)
    (h : (convert s t u).run P w = .ok r w) : (execOp a.eval ⟨dst, .convert s t x, ty, pos, aft, g⟩).run P w = .ok (.value r) w := by
  simp only [execOp, hx]; simp [h]
/-- the text of bytes that lie in memory -/
theorem run_bytes_str {P : Program} {w : World} {src dst e : TypeId} {A : Option Addr} {n c : Nat} {l : List UInt8} (hs : P.underlying src = some (.slice e)) (he : P.underlying e = some (.int .u8)) (hd : P.underlying dst = some .string)
    (h : Sl w A n 1 (bcells l)) : (convert src dst (.slice A n c)).run P w = .ok (.string ⟨l.toArray⟩) w := by
  have hn : n = l.length := by have := h.1; rw [bcells_len] at this; omega
  subst hn
  cases A with
  | none =>
    have h0 : l.length = 0 := by
      rcases Nat.eq_zero_or_pos l.length with h0 | h0
      · exact h0
      · obtain ⟨b, off, h1, _⟩ := h.2 h0; cases h1
    rw [List.length_eq_zero_iff.1 h0, run_convert_bytes_string w src dst e none _ c hs he hd]
    simp [Conv.bytesToString]
    rfl
  | some ad =>
    refine run_convert_bytes_back w src dst e ad c l hs he hd fun j hj => ?_
    obtain ⟨b, off, h1, h2⟩ := h.2 (by omega)
    injection h1 with h1; subst h1
    rw [add_flat]
    exact h2 j _ (by simp [bcells, List.getElem?_eq_getElem hj])
theorem RetBytesErr.sl {w0 w' : World} {res : List UInt8 × Int} {en : Ending} (h : RetBytesErr w0 res en w') : ∃ A c, en = .returned (.tuple #[.slice A res.1.length c, .int .i64 res.2]) ∧ Sl w' A res.1.length 1 (bcells res.1) ∧ Ext w0 w' := by
  obtain ⟨A, c, he, ho, hE⟩ := h
  exact ⟨A, c, he, Sl.own ho, hE⟩
theorem packRes_err (r : List V) : (packRes r).2 = 0 ∨ (packRes r).2 = 20 ∨ (packRes r).2 = 21 := by
  unfold packRes
  split
  · simp
  · split <;> simp
theorem packRes_len (r : List V) : (packRes r).1.length ≤ 3930 := by
  unfold packRes
  split
  · simp
  · split
    · rename_i h1 h2
      simp [validR] at h2
      have := packR_len r (by simpa using h2.2)
      simp only; omega
    · simp

set_option maxRecDepth 100000 in
set_option maxHeartbeats 2000000 in
theorem law_packs (r : List V) (A : Option Addr) (n c : Nat) (w : World) (ha : RowAt w A n r) (hn : n ≤ 1048576) (hs : smallR r) (hw : wfR r) :
    Calls Tryd.prog 7 #[.slice A n c] w fun e w' => e = .returned (.bool true) ∧ Ext w w' := by
  have Ha := hide ha; have Hs := hide hs; have Hw := hide hw; clear ha hs hw
  have hP := fun A c w ha => hide (row_pack r A n c w ha hn Hs.out Hw.out)
  have hR := hide (ref_pack r A n c w Ha.out hn Hs.out Hw.out)
  obtain ⟨p, Hp⟩ : ∃ p, Hid (p = packRes r) := ⟨_, rfl⟩
  have he := packRes_err r
  have hpl := packRes_len r
  simp only [← Hp.out] at hP hR he hpl
  have he1 : 0 ≤ p.2 := by omega
  have he2 : p.2 ≤ 100 := by omega
  clear he
  go_enter Tryd.func7, Tryd.ntmps7
  go_wp2_with fail
  refine hR.out.mono ?_
  intro e w1 h2
  obtain ⟨A1, c1, rfl, h2, h3⟩ := h2.sl
  have R1 := hide h2
  have E1 := hide h3; clear h2 h3
  go_wp2_with fail
  refine (copy_any r A n c _ (Ha.out.ext E1.out) (by omega)).mono ?_
  intro e w2 h2
  obtain ⟨A2, c2, rfl, h2, h3⟩ := h2.row
  have R2 := hide h2
  have E2 := hide (E1.out.trans h3); have E12 := hide h3; clear h2 h3
  go_wp2_with fail
  refine (hP A2 c2 _ R2.out).out.mono ?_
  intro e w3 h2
  obtain ⟨A3, c3, rfl, h2, h3⟩ := h2.sl
  have R3 := hide h2
  have E3 := hide (E2.out.trans h3); have E13 := hide (E12.out.trans h3); clear h2 h3
  go_wp2_with fail
  refine (awake_any _).mono ?_
  rintro e w4 ⟨rfl, h1⟩
  have E4 := hide (E3.out.trans h1); have E34 := hide h1; clear h1
  have B3 := hide (run_bytes_str (c := c3) (src := 38) (dst := 9) Tryd.underlying38 Tryd.underlying5 Tryd.underlying9 (R3.out.ext E34.out))
  have B1 := hide (run_bytes_str (c := c1) (src := 38) (dst := 9) Tryd.underlying38 Tryd.underlying5 Tryd.underlying9 (R1.out.ext (E13.out.trans E34.out)))
  go_wp2_with ((with_reducible refine at_conv ?_); first | refine wpList_valw (by rfl) _ (exec_convg rfl B3.out) ?_ | refine wpList_valw (by rfl) _ (exec_convg rfl B1.out) ?_)
  go_ret
  exact ⟨rfl, E4.out⟩
end Go.Proofs.YtoahckibhmoikaaDoor
