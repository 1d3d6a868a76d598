/-
  What a value of an element reads as.
-/
import Derived.Test.YthjpcnceppmnmaaName2
namespace Go.Proofs.Ythjpcnceppmnmaa
open Go.RowKit

theorem enters_at {P : Program} {f : FuncId} {fn : Func} {c : Code} (hf : P.funcs[f]? = some fn) (hname : (fn.name == "runtime.NumGoroutine") = false) (hb : fn.body = some c) : ∀ (args : Array Value) (w : World), (callFunc f args).run P w = .ok (.enter f args) w := by
  intro args w
  have h1 : fn.name ≠ "runtime.NumGoroutine" := by simpa using hname
  simp [callFunc, hf, h1, hb, mark]

def VS : World → Value → ByteArray → Prop := fun _ v x => v = .string x
def VT : World → Value → Tm → Prop := fun _ v t => v = t.val
def VA : World → Value → Atm → Prop := fun w v a => ∃ A n c, v = .agg #[.string a.rel, .slice A n c] ∧ LAt RT 4 w A n a.terms
def VR : World → Value → List V → Prop := fun w v r => ∃ A n c, v = .slice A n c ∧ RowAt w A n r
theorem VA.ext {w w' : World} {v : Value} {a : Atm} (h : VA w v a) (hw : Ext w w') : VA w' v a := by
  obtain ⟨A, n, c, h1, h2⟩ := h
  exact ⟨A, n, c, h1, h2.ext RT.stab hw⟩
theorem VR.ext {w w' : World} {v : Value} {r : List V} (h : VR w v r) (hw : Ext w w') : VR w' v r := by
  obtain ⟨A, n, c, h1, h2⟩ := h
  exact ⟨A, n, c, h1, h2.ext hw⟩

end Go.Proofs.Ythjpcnceppmnmaa
