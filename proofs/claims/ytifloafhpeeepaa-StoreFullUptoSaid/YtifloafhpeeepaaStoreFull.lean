/-
  StoreFull: whatever comes in (of bulk at most 1048576), the law returns true and what came in reads as it did.
-/
import Derived.Test.YtifloafhpeeepaaStaF
import Derived.Test.YtifloafhpeeepaaClose
import Derived.Test.YtifloafhpeeepaaCloseN
import Derived.Test.YtifloafhpeeepaaCloseR
namespace Go.Proofs.Ytifloafhpeeepaa
open Go.RowKit Go.ChangeShapes Go.WideShapes Go.ChangeAt

set_option maxRecDepth 100000 in
theorem storeFull_contract (H : Type) (enc : TypeId × Value → H) (W : World) (base : Nat) (args : Array Value) (ds gs : List (DataW H)) (before : List MemPlace)
    (hval : ∀ (j : Nat) t v, Try.f4.params[j]? = some t → args[j]? = some v → Value.okWide Try.prog W .any base t v)
    (hW : DataW.Whole enc Try.prog Try.f4.params.toList Rows.storeFullSpec.vars false W args.toList ds gs before) (hk : Rows.uptoSmall H (ds ++ gs) = true) :
    Calls Try.prog 4 args W fun e W' => ∃ v, e = .returned v ∧ Rows.storeFullSpec.post enc Try.prog Try.f4 false true false false W args v W' := by
  have hW' := hW
  obtain ⟨p, q, hA, hV, rfl, hfz, hnd⟩ := hW
  obtain ⟨rfl, rfl⟩ := trodVars_none (hV : DataW.TrodVars enc Try.prog W (fun _ => true) [] gs q)
  have hA : DataW.TrodAll enc Try.prog W 0 (fun _ => true) true [3, 29] args.toList ds p := hA
  rw [Try.params4] at hval
  obtain ⟨v0, vs0, d0, ds0, p0, q0, hargs, rfl, rfl, h0, r0⟩ := trodAll_cons hA
  obtain ⟨v1, vs1, d1, ds1, p1, q1, rfl, rfl, rfl, h1, r1⟩ := trodAll_cons r0
  obtain ⟨rfl, rfl, rfl⟩ := trodAll_nil r1
  obtain rfl : args = #[v0, v1] := by cases args; simp_all
  have hbulk : Rows.uptoBulkAll ([d0, d1] ++ []) ≤ 1048576 := of_decide_eq_true hk
  simp only [List.cons_append, List.nil_append, Rows.uptoBulkAll] at hbulk
  obtain ⟨x0, rfl, rfl, rfl, w0⟩ := open_int Try.underlying3 (hval 0 3 v0 rfl rfl) h0
  have hx0 := int_range w0
  obtain ⟨_, _, _, rfl⟩ := okWide_slice Try.underlying29 (hval 1 29 v1 rfl rfl)
  obtain ⟨f1, h1⟩ := h1
  obtain ⟨A1, n1, c1, x1, e1, a1, k1, b1, s1, w1⟩ := open_rows Try.underlying29 h1
  simp only [Value.cells, List.cons.injEq, and_true, Value.slice.injEq] at e1
  obtain ⟨rfl, rfl, rfl⟩ := e1
  dsimp only at b1 s1
  refine (law_fullS _ _ _ _ _ _ hx0 a1 k1 (by omega) (fun r hr => ⟨Nat.le_trans (s1 r hr).1 (by omega), fun v hv => Nat.le_trans ((s1 r hr).2 v hv) (by omega)⟩) w1).mono fun e W' ⟨he, hE⟩ => ⟨_, he, ?_⟩
  exact law_post laidOut (tb := 4) (by kernel_rfl) (by rfl) Try.underlying4 rfl rfl hW' hE

set_option maxRecDepth 100000 in
theorem storeFull_lifted (os : Os) (started : os.Started) (H : Type) (enc : TypeId × Value → H) (F : Stop.Interp) :
    ReturnsInHanded {} Try.checked os 4 .any ((Rows.OpenSpec.upto Rows.storeFullSpec).pre6 enc Try.prog Try.f4 Rows.storeFullUptoRow.domain false) (((Rows.OpenSpec.upto Rows.storeFullSpec).at F).post enc Try.prog Try.f4 false true false false) := by
  refine returnsInHanded_of_cond (C := Try.checked) (s := Rows.OpenSpec.upto Rows.storeFullSpec) (k := Rows.uptoSmall) rfl own started (by kernel_rfl) Try.func4
    (OpenSpec.witness (enc := enc) (C := Try.checked) (s := Rows.OpenSpec.upto Rows.storeFullSpec) (k := Rows.uptoSmall) rfl false ⟨#[], #[.int .i64 0, .slice none 0 0], []⟩ 8 (by kernel_rfl) (by kernel_rfl) (by kernel_rfl)
      (x := ([.lit (.int .i64 0), .nil], [], [])) (by kernel_rfl) rfl (by kernel_rfl)) ?_
  intro W base args ds gs before hval hW _ hk _
  exact storeFull_contract H enc W base args ds gs before hval hW hk

theorem storeFull_said : Rows.StoreFullUptoSaid :=
  OpenClaim.holds_of_cond 4 Try.f4 rfl rfl rfl rfl rfl rfl rfl ⟨rfl, rfl, rfl, rfl, rfl⟩ rfl rfl rfl rfl rfl (by kernel_rfl) Try.func4 (by kernel_rfl)
    (of_decide_eq_true (by kernel_rfl)) (by unfold Func.isWrapper; first | (rw [if_pos (by decide +kernel)]; kernel_rfl) | (rw [if_neg (by decide +kernel)]; exact ⟨rfl, rfl⟩))
    (fun os started H enc _ F => storeFull_lifted os started H enc F)
end Go.Proofs.Ytifloafhpeeepaa
