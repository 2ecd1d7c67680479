/- The law JournalRoom in the order of its arguments. -/
import Derived.Test.YtmdpmpfjldgalaaMJoK
import Derived.Test.YtmdpmpfjldgalaaMN
namespace Go.Proofs.Ytmdpmpfjldgalaa
open Go.RowKit
namespace Jn
theorem room_row (w : World) (x : UInt8) (A : Option Addr) (n ca : Nat) (ms : List Om) (hn : ms.length = n) (hnc : n ≤ ca) (hcm : ca ≤ maxLen) (hr : RdO w A ms)
    (A2 : Option Addr) (n2 c2 : Nat) (l2 : List UInt8) (h2 : l2.length = n2) (hc2 : n2 ≤ c2) (hm2 : c2 ≤ maxLen) (hr2 : RB w A2 l2) :
    Calls Try.prog 7 #[.int .u8 (x.toNat : Int), .slice A n ca, .slice A2 n2 c2] w fun e w' => e = .returned (.bool true) ∧ Below w.heap.size w w' :=
  jroom_law w x A n ca ms hn hr (by unfold maxLen at hcm; omega) A2 n2 c2 l2 h2 hc2 hm2 hr2
end Jn
end Go.Proofs.Ytmdpmpfjldgalaa
