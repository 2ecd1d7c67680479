/- The laws DiskSurvives and DiskFuses in the order of their arguments. -/
import Derived.Test.YtoallpinpeolfaaDkM
import Derived.Test.YtoallpinpeolfaaDkO
namespace Go.Proofs.Ytoallpinpeolfaa
open Go.RowKit
namespace Dk
theorem survives_row (w : World) (A : Option Addr) (n ca : Nat) (ms : List Cm) (hn : ms.length = n) (hnc : n ≤ ca) (hcm : ca ≤ maxLen) (hr : RdM w A ms) :
    Calls Try.prog 5 #[.slice A n ca] w fun e w' => e = .returned (.bool true) ∧ Below w.heap.size w w' :=
  survives_law w A n ca ms hn hr (by unfold maxLen at hcm; omega)
theorem fuses_row (w : World) (x : UInt8) (A : Option Addr) (n ca : Nat) (l : List Bool) (hn : l.length = n) (hnc : n ≤ ca) (hcm : ca ≤ maxLen) (hr : Rd w A (l.map Value.bool)) :
    Calls Try.prog 6 #[.int .u8 (x.toNat : Int), .slice A n ca] w fun e w' => e = .returned (.bool true) ∧ Below w.heap.size w w' :=
  fuses_law w x A n ca l hn hr (by unfold maxLen at hcm; omega)
end Dk
end Go.Proofs.Ytoallpinpeolfaa
