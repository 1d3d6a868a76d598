import Derived.Test.YtoahckibhmoikaaDoorLawKeep
import Derived.Test.YtoahckibhmoikaaDoorDoor
import Derived.Test.YtoahckibhmoikaaDoorClose2
/-
  RowKeepsOrder: whatever comes in (of bulk at most 1048576), the law returns true and what came in reads as it did.
-/
namespace Go.Proofs.YtoahckibhmoikaaDoor
open Go.RowKit Go.ChangeShapes Go.WideShapes Go.ChangeAt

set_option maxRecDepth 100000 in
theorem rowKeepsOrder_contract (H : Type) (enc : TypeId × Value → H) (W : World) (base : Nat) (args : Array Value) (ds gs : List (DataW H)) (before : List MemPlace)
    (hval : ∀ (j : Nat) t v, Tryd.f12.params[j]? = some t → args[j]? = some v → Value.okWide Tryd.prog W .any base t v)
    (hW : DataW.Whole enc Tryd.prog Tryd.f12.params.toList Rows.rowKeepsOrderSpec.vars false W args.toList ds gs before) (hk : Rows.uptoSmall H (ds ++ gs) = true) :
    Calls Tryd.prog 12 args W fun e W' => ∃ v, e = .returned v ∧ Rows.rowKeepsOrderSpec.post enc Tryd.prog Tryd.f12 false true false false W args v W' := by
  have hW' := hW
  obtain ⟨p, q, hA, hV, rfl, hfz, hnd⟩ := hW
  obtain ⟨rfl, rfl⟩ := trodVars_none (hV : DataW.TrodVars enc Tryd.prog W (fun _ => true) [] gs q)
  have hA : DataW.TrodAll enc Tryd.prog W 0 (fun _ => true) true [23, 23] args.toList ds p := hA
  rw [Tryd.params12] at hval
  obtain ⟨v0, vs0, d0, ds0, p0, q0, hargs, rfl, rfl, h0, r0⟩ := trodAll_cons hA
  obtain ⟨v1, vs1, d1, ds1, p1, q1, rfl, rfl, rfl, h1, r1⟩ := trodAll_cons r0
  obtain ⟨rfl, rfl, rfl⟩ := trodAll_nil r1
  obtain rfl : args = #[v0, v1] := by cases args; simp_all
  have hbulk : Rows.uptoBulkAll ([d0, d1] ++ []) ≤ 1048576 := of_decide_eq_true hk
  simp only [List.cons_append, List.nil_append, Rows.uptoBulkAll] at hbulk
  obtain ⟨_, _, _, rfl⟩ := okWide_slice Tryd.underlying23 (hval 0 23 v0 rfl rfl)
  obtain ⟨f0, h0⟩ := h0
  obtain ⟨A0, n0, c0, x0, e0, a0, _, b0, s0, w0⟩ := open_row Tryd.underlying23 h0
  simp only [Value.cells, List.cons.injEq, and_true, Value.slice.injEq] at e0
  obtain ⟨rfl, rfl, rfl⟩ := e0
  dsimp only at b0 s0
  obtain ⟨_, _, _, rfl⟩ := okWide_slice Tryd.underlying23 (hval 1 23 v1 rfl rfl)
  obtain ⟨f1, h1⟩ := h1
  obtain ⟨A1, n1, c1, x1, e1, a1, _, b1, s1, w1⟩ := open_row Tryd.underlying23 h1
  simp only [Value.cells, List.cons.injEq, and_true, Value.slice.injEq] at e1
  obtain ⟨rfl, rfl, rfl⟩ := e1
  dsimp only at b1 s1
  refine (law_keeps _ _ _ _ _ _ _ _ _ a0 (by omega) (fun v hv => Nat.le_trans (s0 v hv) (by omega)) w0 a1 (by omega) (fun v hv => Nat.le_trans (s1 v hv) (by omega)) w1).mono fun e W' ⟨he, hE⟩ => ⟨_, he, ?_⟩
  exact law_post laidOut (tb := 4) (by kernel_rfl) (by rfl) Tryd.underlying4 rfl rfl hW' hE

theorem rowKeepsOrder_reads (os : Os) {H : Type} (enc : TypeId × Value → H) : ∃ places, DataW.whole enc Tryd.prog ((laidWorld os).forCall (fun _ _ => 0) ⟨#[], #[.slice none 0 0, .slice none 0 0], []⟩).memory Tryd.f12.params.toList Rows.rowKeepsOrderSpec.vars false (#[.slice none 0 0, .slice none 0 0] : Array Value).toList 8 = some ([.nil, .nil], [], places) :=
  ⟨[], by kernel_rfl⟩
set_option maxRecDepth 100000 in
theorem rowKeepsOrder_lifted (os : Os) (started : os.Started) (H : Type) (enc : TypeId × Value → H) (F : Stop.Interp) :
    ReturnsInHanded {} Tryd.checked os 12 .any ((Rows.OpenSpec.upto Rows.rowKeepsOrderSpec).preRow enc Tryd.prog Tryd.f12 Rows.rowKeepsOrderUptoRow.domain false Rows.rowKeepsOrderUptoRow.laid) (((Rows.OpenSpec.upto Rows.rowKeepsOrderSpec).at F).post enc Tryd.prog Tryd.f12 false true false false) := by
  obtain ⟨places, hx⟩ := rowKeepsOrder_reads os enc
  refine returnsInHanded_of_row (C := Tryd.checked) (s := Rows.OpenSpec.upto Rows.rowKeepsOrderSpec) own started (by kernel_rfl) Tryd.func12
    (witness_row_at (enc := enc) (C := Tryd.checked) false (laidWorld os) #[.slice none 0 0, .slice none 0 0] rfl (by kernel_rfl) (by kernel_rfl) (by kernel_rfl)
      (OpenSpec.preRow_of_cond 8 hx (by kernel_rfl) (fun k hk => by cases hk; kernel_rfl) (by kernel_rfl) (laid_met os _))) ?_
  intro W base args ds gs before hval hW _ hcond _ hL _ _
  exact rowKeepsOrder_contract H enc W base args ds gs before hval hW (hcond _ rfl)

theorem rowKeepsOrder_said : Rows.RowKeepsOrderUptoSaid :=
  OpenClaim.holds_of_cond 12 Tryd.f12 rfl rfl rfl rfl rfl rfl rfl ⟨rfl, rfl, rfl, rfl, rfl⟩ rfl rfl rfl rfl rfl (by kernel_rfl) Tryd.func12 (by kernel_rfl)
    (of_decide_eq_true (by kernel_rfl)) (by unfold Func.isWrapper; first | (rw [if_pos (by decide +kernel)]; kernel_rfl) | (rw [if_neg (by decide +kernel)]; exact ⟨rfl, rfl⟩))
    (fun os started H enc _ F => by rw [OpenClaim.pre_eq_preRow]; exact rowKeepsOrder_lifted os started H enc F)
set_option maxRecDepth 100000 in
theorem rowKeepsOrder_plain (f : FuncId) (fn : Func) (hf : Tryd.pinned.checked.prog.funcNamed Rows.rowKeepsOrderUptoRow.func = some f) (hfn : Tryd.pinned.checked.prog.funcs[f]? = some fn) :
    false = Tryd.pinned.checked.prog.looks [] ∧ ∀ (j : Nat) t, fn.params[j]? = some t → Tryd.pinned.checked.prog.wantsStandIn t = false := by
  obtain rfl : f = 12 := (Option.some.inj ((show Tryd.prog.funcNamed Rows.rowKeepsOrderUptoRow.func = some 12 by kernel_rfl).symm.trans hf)).symm
  obtain rfl : fn = Tryd.f12 := (Option.some.inj (Tryd.func12.symm.trans hfn)).symm
  refine ⟨by kernel_rfl, fun j t ht => ?_⟩
  have hall : (Tryd.f12.params.toList.all fun t => !Tryd.prog.wantsStandIn t) = true := by kernel_rfl
  have := List.all_eq_true.1 hall t (by simpa using Array.mem_of_getElem? ht)
  have h2 : Tryd.prog.wantsStandIn t = false := by simpa using this
  exact h2
theorem rowKeepsOrder_proved : Rows.RowKeepsOrderUptoCardSaid :=
  Claim7.holds_tied_plain_at .later [] _ _ _ _ rowKeepsOrder_said (fun _ h => by cases h) (by kernel_rfl) (fun _ h => by cases h) rowKeepsOrderUpto_row_tie rfl ⟨rfl, rfl⟩ (by kernel_rfl) rfl rowKeepsOrder_plain (by kernel_rfl)
end Go.Proofs.YtoahckibhmoikaaDoor
