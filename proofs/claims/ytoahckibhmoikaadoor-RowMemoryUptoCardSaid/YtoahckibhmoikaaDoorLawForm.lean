import Derived.Test.YtoahckibhmoikaaDoorLawBack
namespace Go.Proofs.YtoahckibhmoikaaDoor
open Go.RowKit

theorem wpList_valW {P : Program} {w w' : World} {ops : Array Oper} {rest : List Oper} {o : Oper} {a : Act} {Q : Exit → Act → World → Prop} (hgd : o.guard = none) (v : Value) (hrun : (execOp a.eval o).run P w = .ok (.value v) w')
    (h : wpList P ops Q rest (a.put o.dst v) w') : wpList P ops Q (o :: rest) a w := by
  refine wpList_plain hgd fun K hK => ?_
  unfold Oper.wp
  rw [hrun]
  exact hK _ _ h
theorem exec_convW {P : Program} {w w' : World} {a : Act} {dst : Option Tmp} {s t ty : TypeId} {x : Operand} {pos : String} {aft : Array Edge} {g : Option (Nat × Bool)} {u r : Value} (hx : a.eval x = u)
    (h : (convert s t u).run P w = .ok r w') : (execOp a.eval ⟨dst, .convert s t x, ty, pos, aft, g⟩).run P w = .ok (.value r) w' := by
  simp only [execOp, hx]; simp [h]
/-- '[]byte(text)': the text's bytes, anew -/
theorem run_str_bytes {P : Program} (w : World) {src dst e : TypeId} (b : List UInt8) (hs : P.underlying src = some .string) (hd : P.underlying dst = some (.slice e)) (he : P.underlying e = some (.int .u8)) :
    ∃ w' c, (convert src dst (.string ⟨b.toArray⟩)).run P w = .ok (.slice (some ⟨w.heap.size, 0, none⟩) b.length c) w' ∧ BytesAt w' (some ⟨w.heap.size, 0, none⟩) b.length b ∧ b.length ≤ c ∧ Ext w w' := by
  have h1 := run_bytes_of_string (P := P) w src dst e ⟨b.toArray⟩ hs hd he
  have hsz : (⟨b.toArray⟩ : ByteArray).size = b.length := List.size_toArray
  rw [hsz] at h1
  refine ⟨_, _, h1, ⟨by rw [bcells_len]; omega, fun _ => ⟨w.heap.size, 0, rfl, fun j u hu => ?_⟩⟩, grownCap_ge w b.length 0 e, ?_⟩
  · have hg := heap_alloc_new w.drew (.cells (bytesRow ⟨b.toArray⟩ (grownCap w b.length 0 e)) e ((bytesRow ⟨b.toArray⟩ (grownCap w b.length 0 e)).size, (bytesRow ⟨b.toArray⟩ (grownCap w b.length 0 e)).size + 1))
    rw [heap_drew] at hg
    rw [Nat.zero_add, cell_of_row _ _ _ _ _ _ hg]
    have hj : j < b.length := by have := (List.getElem?_eq_some_iff.1 hu).1; rwa [bcells_len] at this
    unfold bytesRow
    rw [Array.getElem?_append_left (by simpa using hj)]
    simpa [bcells] using hu
  · exact Ext.trans (show Ext w w.drew from ⟨rfl, rfl, rfl, Nat.le_refl _, fun _ _ => rfl⟩) (Ext.alloc _ _)
theorem decR_cases (b : List UInt8) : (decR b = ([], 22)) ∨ ∃ r, decR b = (r, 0) ∧ packR r = b ∧ validR r = true ∧ wfR r ∧ packRes r = (b, 0) ∧ smallR r := by
  unfold decR
  cases h : decGo 30 b with
  | none => exact .inl rfl
  | some r =>
    obtain ⟨h1, h2, h3, h4⟩ := dec_back 30 b r h
    have hv : validR r = true := by simp only [validR, Bool.and_eq_true, decide_eq_true_eq]; exact ⟨h4, h2⟩
    have hk : ∀ v ∈ r, (v.k = 1 ∨ v.k = 2) ∧ v.t.size ≤ 64 := fun v hv' => by
      have h5 := List.all_eq_true.1 h2 v hv'
      rcases packV_head v h5 with ⟨h6, _⟩ | ⟨h6, _, h7⟩
      · refine ⟨.inl h6, ?_⟩
        unfold validV at h5
        rw [if_pos h6] at h5
        have h8 : v.t = ByteArray.empty := (toList_nil_iff_emptyBytes v.t).1 (by simpa using h5)
        rw [h8]; exact Nat.zero_le _
      · exact ⟨.inr h6, h7⟩
    refine .inr ⟨r, rfl, h1, hv, fun v hv' => ⟨by rcases (hk v hv').1 with h5 | h5 <;> (rw [h5]; omega), h3 v hv'⟩, ?_, fun v hv' => Nat.le_trans (hk v hv').2 (by omega)⟩
    unfold packRes
    rw [if_neg (by omega), if_pos hv, h1]

set_option maxRecDepth 100000 in
set_option maxHeartbeats 1000000 in
theorem law_form (b : List UInt8) (A : Option Addr) (n c : Nat) (w : World) (ha : BytesAt w A n b) (hn : n ≤ 1048576) :
    Calls Tryd.prog 11 #[.slice A n c] w fun e w' => e = .returned (.bool true) ∧ Ext w w' := by
  have Ha := hide ha; have hl := hide ha.len; clear ha
  have B0 := fun w' (hE : Ext w w') => hide (run_bytes_str (c := c) (src := 38) (dst := 9) Tryd.underlying38 Tryd.underlying5 Tryd.underlying9 (Ha.out.ext hE))
  have B1 := hide (B0 w (Ext.refl _)).out
  obtain ⟨w1, c1, h1, h2, h3, h4⟩ := run_str_bytes (P := Tryd.prog) w (src := 9) (dst := 38) b Tryd.underlying9 Tryd.underlying38 Tryd.underlying5
  have S1 := hide h1; have R1 := hide h2; have C1 := hide h3; have E1 := hide h4
  clear h1 h2 h3 h4
  have HU := hide (row_unpack b _ b.length c1 w1 R1.out (by have := hl.out; omega) C1.out)
  rcases decR_cases b with hd | ⟨r, hd, hp, hv, hwf, hpr, hsm⟩
  · rw [hd] at HU; clear hd
    go_enter Tryd.func11, Tryd.ntmps11
    go_wp2_with (((with_reducible refine at_conv ?_); first | refine wpList_val rfl _ (exec_convg rfl B1.out) ?_ | refine wpList_valW rfl _ (exec_convW rfl S1.out) ?_))
    refine HU.out.mono ?_
    intro e w5 h2
    obtain ⟨A5, c5, rfl, h2, h3⟩ := h2.row
    dsimp only at h2 ⊢
    have E5 := hide (E1.out.trans h3); clear h2 h3
    go_wp2_with fail
    refine (awake_any _).mono ?_
    rintro e w6 ⟨rfl, h1⟩
    have E6 := hide (E5.out.trans h1); clear h1
    go_wp2_with fail
    go_ret
    exact ⟨rfl, E6.out⟩
  · rw [hd] at HU; clear hd
    have Hwf := hide hwf; have Hpr := hide hpr; have Hsm := hide hsm; clear hp hv hwf hpr hsm
    have hlr : r.length ≤ 30 := by
      have := Hpr.out; unfold packRes at this
      split at this
      · cases this
      · omega
    go_enter Tryd.func11, Tryd.ntmps11
    go_wp2_with (((with_reducible refine at_conv ?_); first | refine wpList_val rfl _ (exec_convg rfl B1.out) ?_ | refine wpList_valW rfl _ (exec_convW rfl S1.out) ?_))
    refine HU.out.mono ?_
    intro e w5 h2
    obtain ⟨A5, c5, rfl, h2, h3⟩ := h2.row
    dsimp only at h2 ⊢
    have R5 := hide h2
    have E5 := hide (E1.out.trans h3); clear h2 h3
    go_wp2_with fail
    refine (row_pack r A5 _ c5 _ R5.out (by omega) Hsm.out Hwf.out).mono ?_
    intro e w6 h2
    rw [Hpr.out] at h2
    obtain ⟨A6, c6, rfl, h2, _, h3⟩ := h2.bytes
    dsimp only at h2 ⊢
    have R6 := hide h2
    have E6 := hide (E5.out.trans h3); clear h2 h3
    go_wp2_with fail
    refine (awake_any _).mono ?_
    rintro e w7 ⟨rfl, h1⟩
    have E7 := hide (E6.out.trans h1)
    have Bp := hide (run_bytes_str (c := c6) (src := 38) (dst := 9) Tryd.underlying38 Tryd.underlying5 Tryd.underlying9 (Sl.ext R6.out h1))
    have Bb := B0 w7 E7.out
    clear h1
    go_wp2_with (((with_reducible refine at_conv ?_); first | refine wpList_valw (by rfl) _ (exec_convg rfl Bp.out) ?_ | refine wpList_valw (by rfl) _ (exec_convg rfl Bb.out) ?_))
    go_ret
    exact ⟨rfl, E7.out⟩
end Go.Proofs.YtoahckibhmoikaaDoor
