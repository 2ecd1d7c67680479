/- The law JournalOpens in the order of its arguments. -/
import Derived.Test.YtmdpmpfjldgalaaMJoM
import Derived.Test.YtmdpmpfjldgalaaMN
namespace Go.Proofs.Ytmdpmpfjldgalaa
open Go.RowKit
namespace Jn
theorem opens_row (w : World) (x : UInt8) (A1 : Option Addr) (n1 c1 : Nat) (l1 : List UInt8) (h1 : l1.length = n1) (hc1 : n1 ≤ c1) (hm1 : c1 ≤ maxLen) (hr1 : RB w A1 l1)
    (A2 : Option Addr) (n2 c2 : Nat) (l2 : List UInt8) (h2 : l2.length = n2) (hc2 : n2 ≤ c2) (hm2 : c2 ≤ maxLen) (hr2 : RB w A2 l2) :
    Calls Try.prog 4 #[.int .u8 (x.toNat : Int), .slice A1 n1 c1, .slice A2 n2 c2] w fun e w' => e = .returned (.bool true) ∧ Below w.heap.size w w' :=
  jopens_law w x A1 n1 c1 l1 h1 hr1 (by unfold maxLen at hm1; omega) A2 n2 c2 l2 h2 hr2 (by unfold maxLen at hm2; omega)
end Jn
end Go.Proofs.Ytmdpmpfjldgalaa
