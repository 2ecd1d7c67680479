/- The law DiskClones in the order of its arguments. -/
import Derived.Test.YtoallpinpeolfaaDlG
import Derived.Test.YtoallpinpeolfaaDkO
namespace Go.Proofs.Ytoallpinpeolfaa
open Go.RowKit
namespace Dk
theorem clones_row (w : World) (A : Option Addr) (n ca : Nat) (ms : List Cm) (hn : ms.length = n) (hnc : n ≤ ca) (hcm : ca ≤ maxLen) (hr : RdM w A ms)
    (A2 : Option Addr) (n2 ca2 : Nat) (ms2 : List Cm) (hn2 : ms2.length = n2) (hnc2 : n2 ≤ ca2) (hcm2 : ca2 ≤ maxLen) (hr2 : RdM w A2 ms2)
    (A3 : Option Addr) (n3 ca3 : Nat) (ms3 : List Cm) (hn3 : ms3.length = n3) (hnc3 : n3 ≤ ca3) (hcm3 : ca3 ≤ maxLen) (hr3 : RdM w A3 ms3) :
    Calls Try.prog 7 #[.slice A n ca, .slice A2 n2 ca2, .slice A3 n3 ca3] w fun e w' => e = .returned (.bool true) ∧ Below w.heap.size w w' :=
  clones_law w A n ca ms hn hr (by unfold maxLen at hcm; omega) A2 n2 ca2 ms2 hn2 hr2 (by unfold maxLen at hcm2; omega) A3 n3 ca3 ms3 hn3 hr3 (by unfold maxLen at hcm3; omega)
end Dk
end Go.Proofs.Ytoallpinpeolfaa
