/- Contract of the reference's Kept. -/
import Derived.Test.YtpcpkoaigjbdhaaRKp
namespace Go.Proofs.Ytpcpkoaigjbdhaa
open Go.RowKit
end Go.Proofs.Ytpcpkoaigjbdhaa

