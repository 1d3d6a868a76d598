/-
  What Witness hands back: plain.
-/
import Derived.Test.YtpfjkjmimmklcaaNaiNV
import Derived.Test.YtpfjkjmimmklcaaNaiG
namespace Go.Proofs.Ytpfjkjmimmklcaa
open Go.RowKit

/-- the search as it goes; what it hands back -/
def witV (q : Qy) (data : List Tbl) (ans : List V) : Nat × List Leaf × Bool := visit (fun x => sameR (headV (q.head.map (atN (varsQ q))) x.1) ans) (lvsFrom (varsQ q) data q.atoms) [] []
def witP (q : Qy) (data : List Tbl) (ans : List V) : List (List V) × Bool × Int :=
  if shapeQ q = 0 then (if (witV q data ans).1 ≤ 131072 then (if (witV q data ans).2.2 then (((witV q data ans).2.1.getLast?.map (·.2)).getD [], true, 0) else ([], false, 0)) else ([], false, 120)) else ([], false, shapeQ q)
def RetWi (w0 : World) (v : List (List V) × Bool × Int) (en : Ending) (w' : World) : Prop :=
  ∃ A c, en = .returned (.tuple #[.slice A v.1.length c, .bool v.2.1, .int .i64 v.2.2]) ∧ LAt RRow 1 w' A v.1.length v.1 ∧ Ext w0 w'
theorem RetWi.none {w0 w' : World} {b : Bool} {e : Int} (h : Ext w0 w') : RetWi w0 ([], b, e) (.returned (.tuple #[.slice .none 0 0, .bool b, .int .i64 e])) w' := ⟨.none, 0, rfl, LAt.nil _, h⟩

end Go.Proofs.Ytpfjkjmimmklcaa
