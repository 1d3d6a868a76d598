import Derived.Test.YtahdiiaadjdmcaaGreatGbN
namespace Go.Proofs.YtahdiiaadjdmcaaGreat
open Go.RowKit
end Go.Proofs.YtahdiiaadjdmcaaGreat
