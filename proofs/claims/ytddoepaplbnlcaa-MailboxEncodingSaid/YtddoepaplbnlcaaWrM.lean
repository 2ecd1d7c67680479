/- The walk of the law WirePrefixes. -/
import Derived.Test.YtddoepaplbnlcaaWrL
namespace Go.Proofs.Ytddoepaplbnlcaa
open Go.RowKit
namespace Wi
open Wr

end Wi
end Go.Proofs.Ytddoepaplbnlcaa
