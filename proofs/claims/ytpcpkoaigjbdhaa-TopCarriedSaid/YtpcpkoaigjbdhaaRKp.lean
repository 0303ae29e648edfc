/- Contract of the reference's kept (61). -/
import Derived.Test.YtpcpkoaigjbdhaaRNm
import Derived.Test.YtpcpkoaigjbdhaaRLf
import Derived.Test.YtpcpkoaigjbdhaaRCr
import Derived.Test.YtpcpkoaigjbdhaaKpt
namespace Go.Proofs.Ytpcpkoaigjbdhaa
open Go.RowKit
end Go.Proofs.Ytpcpkoaigjbdhaa

