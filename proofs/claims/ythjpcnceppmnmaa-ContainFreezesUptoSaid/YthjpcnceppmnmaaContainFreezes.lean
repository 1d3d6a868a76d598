/-
  ContainFreezes: whatever comes in (of bulk at most 1048576), the law returns true and what came in reads as it did.
-/
import Derived.Test.YthjpcnceppmnmaaLawFrz
import Derived.Test.YthjpcnceppmnmaaCloseA
namespace Go.Proofs.Ythjpcnceppmnmaa
open Go.RowKit Go.ChangeShapes Go.WideShapes Go.ChangeAt

set_option maxRecDepth 100000 in
theorem containFreezes_contract (H : Type) (enc : TypeId × Value → H) (W : World) (base : Nat) (args : Array Value) (ds gs : List (DataW H)) (before : List MemPlace)
    (hval : ∀ (j : Nat) t v, Try.f8.params[j]? = some t → args[j]? = some v → Value.okWide Try.prog W .any base t v)
    (hW : DataW.Whole enc Try.prog Try.f8.params.toList Rows.containFreezesSpec.vars false W args.toList ds gs before) (hk : Rows.uptoSmall H (ds ++ gs) = true) :
    Calls Try.prog 8 args W fun e W' => ∃ v, e = .returned v ∧ Rows.containFreezesSpec.post enc Try.prog Try.f8 false true false false W args v W' := by
  have hW' := hW
  obtain ⟨p, q, hA, hV, rfl, hfz, hnd⟩ := hW
  obtain ⟨rfl, rfl⟩ := trodVars_none (hV : DataW.TrodVars enc Try.prog W (fun _ => true) [] gs q)
  have hA : DataW.TrodAll enc Try.prog W 0 (fun _ => true) true [25] args.toList ds p := hA
  rw [Try.params8] at hval
  obtain ⟨v0, vs0, d0, ds0, p0, q0, hargs, rfl, rfl, h0, r0⟩ := trodAll_cons hA
  obtain ⟨rfl, rfl, rfl⟩ := trodAll_nil r0
  obtain rfl : args = #[v0] := by cases args; simp_all
  have hbulk : Rows.uptoBulkAll ([d0] ++ []) ≤ 1048576 := of_decide_eq_true hk
  simp only [List.cons_append, List.nil_append, Rows.uptoBulkAll] at hbulk
  obtain ⟨cs0, rfl, _⟩ := okWide_struct Try.underlying25 (hval 0 25 v0 rfl rfl)
  obtain ⟨f0, h0⟩ := h0
  obtain ⟨x0, L0, e0, a0, b0⟩ := open_query (t := 25) rfl (by kernel_rfl) h0
  obtain rfl : cs0 = #[.string x0.name, .slice L0.A L0.n L0.c, .slice L0.B L0.m L0.d] := by cases cs0; simp_all [Value.cells]
  dsimp only at b0
  refine (law_freezes _ _ W a0 (b0.mono (by omega))).mono fun e W' ⟨he, hE⟩ => ⟨_, he, ?_⟩
  exact law_post laidOut (tb := 4) (by kernel_rfl) (by rfl) Try.underlying4 rfl rfl hW' hE

set_option maxRecDepth 100000 in
theorem containFreezes_lifted (os : Os) (started : os.Started) (H : Type) (enc : TypeId × Value → H) (F : Stop.Interp) :
    ReturnsInHanded {} Try.checked os 8 .any ((Rows.OpenSpec.upto Rows.containFreezesSpec).pre6 enc Try.prog Try.f8 Rows.containFreezesUptoRow.domain false) (((Rows.OpenSpec.upto Rows.containFreezesSpec).at F).post enc Try.prog Try.f8 false true false false) := by
  refine returnsInHanded_of_cond (C := Try.checked) (s := Rows.OpenSpec.upto Rows.containFreezesSpec) (k := Rows.uptoSmall) rfl own started (by kernel_rfl) Try.func8
    (OpenSpec.witness (enc := enc) (C := Try.checked) (s := Rows.OpenSpec.upto Rows.containFreezesSpec) (k := Rows.uptoSmall) rfl false ⟨#[], #[.agg #[.string ⟨#[]⟩, .slice none 0 0, .slice none 0 0]], []⟩ 8 (by kernel_rfl) (by kernel_rfl) (by kernel_rfl)
      (x := ([.agg [.lit (.string []), .nil, .nil]], [], [])) (by kernel_rfl) rfl (by kernel_rfl)) ?_
  intro W base args ds gs before hval hW _ hk _
  exact containFreezes_contract H enc W base args ds gs before hval hW hk

theorem containFreezes_said : Rows.ContainFreezesUptoSaid :=
  OpenClaim.holds_of_cond 8 Try.f8 rfl rfl rfl rfl rfl rfl rfl ⟨rfl, rfl, rfl, rfl, rfl⟩ rfl rfl rfl rfl rfl (by kernel_rfl) Try.func8 (by kernel_rfl)
    (of_decide_eq_true (by kernel_rfl)) (by unfold Func.isWrapper; first | (rw [if_pos (by decide +kernel)]; kernel_rfl) | (rw [if_neg (by decide +kernel)]; exact ⟨rfl, rfl⟩))
    (fun os started H enc _ F => containFreezes_lifted os started H enc F)
end Go.Proofs.Ythjpcnceppmnmaa
