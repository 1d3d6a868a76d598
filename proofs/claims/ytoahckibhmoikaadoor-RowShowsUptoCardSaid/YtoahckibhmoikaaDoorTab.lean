/-
  The third of the listed tables reads as the text lays it.
-/
import Derived.Test.YtoahckibhmoikaaDoorDoor
import Derived.Test.YtoahckibhmoikaaDoorShowW
namespace Go.Proofs.YtoahckibhmoikaaDoor
open Go.RowKit Go.ChangeShapes Go.WideShapes Go.ChangeAt

theorem laid_tail {P : Program} {W : World} {x : String × DataW Unit} {rest : List (String × DataW Unit)} (h : ∃ ps, DataW.LaidVars P W (x :: rest) ps) : ∃ ps, DataW.LaidVars P W rest ps := by
  obtain ⟨ps, h⟩ := h
  obtain ⟨g, t, cs, fuel, p, q, _, _, _, _, h1, h2⟩ := h
  first | exact ⟨_, h1⟩ | exact ⟨_, h2⟩
theorem tab_at_head {P : Program} {W : World} {name : String} {k : IntKind} {zs : List Int} {rest : List (String × DataW Unit)} {g : Nat} {t e : TypeId} {n : Nat}
    (hg : P.globalNamed name = some g) (hty : (P.globals[g]?).map (·.type) = some t) (ht : P.underlying t = some (.array n e)) (he : P.underlying e = some (.int k)) (hce : P.cellsOf e = 1) (hct : P.cellsOf t = n)
    (h : ∃ ps, DataW.LaidVars P W ((name, Lib.tabData k zs) :: rest) ps) : Lib.TabIs P W name k zs := by
  obtain ⟨ps, ⟨g', t', cs, fuel, p, q, hg', ht', hvar, hd, _, _⟩⟩ := h
  obtain rfl := Option.some.inj (hg.symm.trans hg')
  obtain rfl := Option.some.inj (hty.symm.trans ht')
  unfold Lib.TabIs
  rw [hvar, ← Lib.cells_of_tab ht he hce hct hd]
theorem laid_is_tab : (Rows.laid_internal_strconv_uint64pow10 : DataW Unit) = Lib.tabData .u64 Lib.pow10Tab := by kernel_rfl
theorem tab_of_laid {W : World} (h : laidMetH Tryd.prog Rows.rowShowsUptoRow.laid W) : TabW W := by
  have h : laidMet Tryd.prog [("math/bits.deBruijn32tab", Rows.laid_math_bits_deBruijn32tab), ("math/bits.deBruijn64tab", Rows.laid_math_bits_deBruijn64tab), ("internal/strconv.uint64pow10", Rows.laid_internal_strconv_uint64pow10)] W := h
  obtain ⟨ps, h, _⟩ := h
  have h2 := laid_tail (laid_tail ⟨ps, h⟩)
  rw [laid_is_tab] at h2

  exact tab_at_head (g := 1) (t := 123) (n := 20) (by kernel_rfl) (by kernel_rfl) (by kernel_rfl) Tryd.underlying62 (by kernel_rfl) (by kernel_rfl) h2
end Go.Proofs.YtoahckibhmoikaaDoor
