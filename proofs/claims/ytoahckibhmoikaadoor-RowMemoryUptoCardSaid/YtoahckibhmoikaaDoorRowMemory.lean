/-
  RowMemory: whatever comes in (of bulk at most 1048576), the law returns true and what came in reads as it did.
-/
import Derived.Test.YtoahckibhmoikaaDoorMemA
import Derived.Test.YtoahckibhmoikaaDoorDoor
import Derived.Test.YtoahckibhmoikaaDoorCloseR
namespace Go.Proofs.YtoahckibhmoikaaDoor
open Go.RowKit Go.ChangeShapes Go.WideShapes Go.ChangeAt

set_option maxRecDepth 100000 in
theorem rowMemory_contract (H : Type) (enc : TypeId × Value → H) (W : World) (base : Nat) (args : Array Value) (ds gs : List (DataW H)) (before : List MemPlace)
    (hval : ∀ (j : Nat) t v, Tryd.f15.params[j]? = some t → args[j]? = some v → Value.okWide Tryd.prog W .any base t v)
    (hW : DataW.Whole enc Tryd.prog Tryd.f15.params.toList Rows.rowMemorySpec.vars false W args.toList ds gs before) (hk : Rows.uptoSmall H (ds ++ gs) = true) :
    Calls Tryd.prog 15 args W fun e W' => ∃ v, e = .returned v ∧ Rows.rowMemorySpec.post enc Tryd.prog Tryd.f15 false true false false W args v W' := by
  have hW' := hW
  obtain ⟨p, q, hA, hV, rfl, hfz, hnd⟩ := hW
  obtain ⟨rfl, rfl⟩ := trodVars_none (hV : DataW.TrodVars enc Tryd.prog W (fun _ => true) [] gs q)
  have hA : DataW.TrodAll enc Tryd.prog W 0 (fun _ => true) true [23, 28, 47] args.toList ds p := hA
  rw [Tryd.params15] at hval
  obtain ⟨v0, vs0, d0, ds0, p0, q0, hargs, rfl, rfl, h0, r0⟩ := trodAll_cons hA
  obtain ⟨v1, vs1, d1, ds1, p1, q1, rfl, rfl, rfl, h1, r1⟩ := trodAll_cons r0
  obtain ⟨v2, vs2, d2, ds2, p2, q2, rfl, rfl, rfl, h2, r2⟩ := trodAll_cons r1
  obtain ⟨rfl, rfl, rfl⟩ := trodAll_nil r2
  obtain rfl : args = #[v0, v1, v2] := by cases args; simp_all
  have hbulk : Rows.uptoBulkAll ([d0, d1, d2] ++ []) ≤ 1048576 := of_decide_eq_true hk
  simp only [List.cons_append, List.nil_append, Rows.uptoBulkAll] at hbulk
  obtain ⟨_, _, _, rfl⟩ := okWide_slice Tryd.underlying23 (hval 0 23 v0 rfl rfl)
  obtain ⟨f0, h0⟩ := h0
  obtain ⟨A0, n0, c0, x0, e0, a0, k0, b0, s0, w0⟩ := open_row Tryd.underlying23 h0
  simp only [Value.cells, List.cons.injEq, and_true, Value.slice.injEq] at e0
  obtain ⟨rfl, rfl, rfl⟩ := e0
  dsimp only at b0 s0
  obtain ⟨_, _, _, rfl⟩ := okWide_slice Tryd.underlying28 (hval 1 28 v1 rfl rfl)
  obtain ⟨f1, h1⟩ := h1
  obtain ⟨A1, n1, c1, x1, e1, a1, k1, b1, w1⟩ := open_ints' Tryd.underlying28 h1
  simp only [Value.cells, List.cons.injEq, and_true, Value.slice.injEq] at e1
  obtain ⟨rfl, rfl, rfl⟩ := e1
  dsimp only at b1
  obtain ⟨_, _, _, rfl⟩ := okWide_slice Tryd.underlying47 (hval 2 47 v2 rfl rfl)
  obtain ⟨f2, h2⟩ := h2
  obtain ⟨A2, n2, c2, x2, e2, a2, k2, b2, s2, w2⟩ := open_rows Tryd.underlying47 h2
  simp only [Value.cells, List.cons.injEq, and_true, Value.slice.injEq] at e2
  obtain ⟨rfl, rfl, rfl⟩ := e2
  dsimp only at b2 s2
  refine (law_memory _ _ _ _ _ _ _ _ _ _ _ _ _ a0 (by omega) (fun v hv => Nat.le_trans (s0 v hv) (by omega)) w0 a1 (by omega) w1 a2 k2 (by omega) (fun r hr => ⟨Nat.le_trans (s2 r hr).1 (by omega), fun v hv => Nat.le_trans ((s2 r hr).2 v hv) (by omega)⟩) w2).mono fun e W' ⟨he, hE⟩ => ⟨_, he, ?_⟩
  exact law_post laidOut (tb := 4) (by kernel_rfl) (by rfl) Tryd.underlying4 rfl rfl hW' hE

theorem rowMemory_reads (os : Os) {H : Type} (enc : TypeId × Value → H) : ∃ places, DataW.whole enc Tryd.prog ((laidWorld os).forCall (fun _ _ => 0) ⟨#[], #[.slice none 0 0, .slice none 0 0, .slice none 0 0], []⟩).memory Tryd.f15.params.toList Rows.rowMemorySpec.vars false (#[.slice none 0 0, .slice none 0 0, .slice none 0 0] : Array Value).toList 8 = some ([.nil, .nil, .nil], [], places) :=
  ⟨[], by kernel_rfl⟩
set_option maxRecDepth 100000 in
theorem rowMemory_lifted (os : Os) (started : os.Started) (H : Type) (enc : TypeId × Value → H) (F : Stop.Interp) :
    ReturnsInHanded {} Tryd.checked os 15 .any ((Rows.OpenSpec.upto Rows.rowMemorySpec).preRow enc Tryd.prog Tryd.f15 Rows.rowMemoryUptoRow.domain false Rows.rowMemoryUptoRow.laid) (((Rows.OpenSpec.upto Rows.rowMemorySpec).at F).post enc Tryd.prog Tryd.f15 false true false false) := by
  obtain ⟨places, hx⟩ := rowMemory_reads os enc
  refine returnsInHanded_of_row (C := Tryd.checked) (s := Rows.OpenSpec.upto Rows.rowMemorySpec) own started (by kernel_rfl) Tryd.func15
    (witness_row_at (enc := enc) (C := Tryd.checked) false (laidWorld os) #[.slice none 0 0, .slice none 0 0, .slice none 0 0] rfl (by kernel_rfl) (by kernel_rfl) (by kernel_rfl)
      (OpenSpec.preRow_of_cond 8 hx (by kernel_rfl) (fun k hk => by cases hk; kernel_rfl) (by kernel_rfl) (laid_met os _))) ?_
  intro W base args ds gs before hval hW _ hcond _ hL _ _
  exact rowMemory_contract H enc W base args ds gs before hval hW (hcond _ rfl)

theorem rowMemory_said : Rows.RowMemoryUptoSaid :=
  OpenClaim.holds_of_cond 15 Tryd.f15 rfl rfl rfl rfl rfl rfl rfl ⟨rfl, rfl, rfl, rfl, rfl⟩ rfl rfl rfl rfl rfl (by kernel_rfl) Tryd.func15 (by kernel_rfl)
    (of_decide_eq_true (by kernel_rfl)) (by unfold Func.isWrapper; first | (rw [if_pos (by decide +kernel)]; kernel_rfl) | (rw [if_neg (by decide +kernel)]; exact ⟨rfl, rfl⟩))
    (fun os started H enc _ F => by rw [OpenClaim.pre_eq_preRow]; exact rowMemory_lifted os started H enc F)
set_option maxRecDepth 100000 in
theorem rowMemory_plain (f : FuncId) (fn : Func) (hf : Tryd.pinned.checked.prog.funcNamed Rows.rowMemoryUptoRow.func = some f) (hfn : Tryd.pinned.checked.prog.funcs[f]? = some fn) :
    false = Tryd.pinned.checked.prog.looks [] ∧ ∀ (j : Nat) t, fn.params[j]? = some t → Tryd.pinned.checked.prog.wantsStandIn t = false := by
  obtain rfl : f = 15 := (Option.some.inj ((show Tryd.prog.funcNamed Rows.rowMemoryUptoRow.func = some 15 by kernel_rfl).symm.trans hf)).symm
  obtain rfl : fn = Tryd.f15 := (Option.some.inj (Tryd.func15.symm.trans hfn)).symm
  refine ⟨by kernel_rfl, fun j t ht => ?_⟩
  have hall : (Tryd.f15.params.toList.all fun t => !Tryd.prog.wantsStandIn t) = true := by kernel_rfl
  have := List.all_eq_true.1 hall t (by simpa using Array.mem_of_getElem? ht)
  have h2 : Tryd.prog.wantsStandIn t = false := by simpa using this
  exact h2
theorem rowMemory_proved : Rows.RowMemoryUptoCardSaid :=
  Claim7.holds_tied_plain_at .later [] _ _ _ _ rowMemory_said (fun _ h => by cases h) (by kernel_rfl) (fun _ h => by cases h) rowMemoryUpto_row_tie rfl ⟨rfl, rfl⟩ (by kernel_rfl) rfl rowMemory_plain (by kernel_rfl)
end Go.Proofs.YtoahckibhmoikaaDoor
