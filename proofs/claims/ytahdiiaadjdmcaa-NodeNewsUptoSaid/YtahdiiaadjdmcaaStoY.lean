/-
  The document's store: Good, New.
-/
import Derived.Test.YtahdiiaadjdmcaaGbN
namespace Go.Proofs.Ytahdiiaadjdmcaa
open Go.RowKit

end Go.Proofs.Ytahdiiaadjdmcaa
