/- The walk of the law WirePrefixes. -/
import Derived.Test.YtnmgapokamkhpaaWrL
namespace Go.Proofs.Ytnmgapokamkhpaa
open Go.RowKit
namespace Wi
open Wr

end Wi
end Go.Proofs.Ytnmgapokamkhpaa
