/-
  store: Begin, Commit.
  store: what undoes a Put, what undoes a Drop; the mark and the undo row away.
-/
import Derived.Test.YtahdiiaadjdmcaaGreatStgA
namespace Go.Proofs.YtahdiiaadjdmcaaGreat
open Go.RowKit

def beginS (S : SAbs) : SAbs × Int := match S.old with
  | none => ({ S with old := some S.rows }, 0)
  | some _ => (S, 64)
def commitS (S : SAbs) : SAbs × Int := match S.old with
  | none => (S, 65)
  | some _ => ({ S with old := none }, 0)
end Go.Proofs.YtahdiiaadjdmcaaGreat

namespace Go.Proofs.YtahdiiaadjdmcaaGreat
open Go.RowKit

end Go.Proofs.YtahdiiaadjdmcaaGreat
