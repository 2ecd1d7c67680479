/- The law JournalCalls in the order of its arguments. -/
import Derived.Test.YtmdpmpfjldgalaaMN
namespace Go.Proofs.Ytmdpmpfjldgalaa
open Go.RowKit
namespace Jn
theorem calls_row (w : World) (x : UInt8) (A : Option Addr) (n ca : Nat) (ms : List Om) (hn : ms.length = n) (hnc : n ≤ ca) (hcm : ca ≤ maxLen) (hr : RdO w A ms) :
    Calls Try.prog 3 #[.int .u8 (x.toNat : Int), .slice A n ca] w fun e w' => e = .returned (.bool true) ∧ Below w.heap.size w w' :=
  calls_law w x A n ca ms hn hr (by unfold maxLen at hcm; omega)
end Jn
end Go.Proofs.Ytmdpmpfjldgalaa
