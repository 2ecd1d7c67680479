/- The walk of the law WirePrefixes. -/
import Derived.Test.YtmdconcbelmdpaaWrL
namespace Go.Proofs.Ytmdconcbelmdpaa
open Go.RowKit
namespace Wi
open Wr

end Wi
end Go.Proofs.Ytmdconcbelmdpaa
