/- The law DiskDurable in the order of its arguments. -/
import Derived.Test.YtoallpinpeolfaaDkP
import Derived.Test.YtoallpinpeolfaaDkO
namespace Go.Proofs.Ytoallpinpeolfaa
open Go.RowKit
namespace Dk
theorem durable_row (w : World) (A : Option Addr) (n ca : Nat) (ms : List Cm) (hn : ms.length = n) (hnc : n ≤ ca) (hcm : ca ≤ maxLen) (hr : RdM w A ms)
    (A2 : Option Addr) (n2 ca2 : Nat) (ms2 : List Cm) (hn2 : ms2.length = n2) (hnc2 : n2 ≤ ca2) (hcm2 : ca2 ≤ maxLen) (hr2 : RdM w A2 ms2)
    (Z : Option Addr) (zn zc : Nat) (sv : List Int) (hz : sv.length = zn) (hzc : zn ≤ zc) (hzm : zc ≤ maxLen) (hrz : Rd w Z (sv.map (Value.int .i64))) (_ : ∀ z ∈ sv, (Lit.int .i64 z).wf = true) :
    Calls Try.prog 4 #[.slice A n ca, .slice A2 n2 ca2, .slice Z zn zc] w fun e w' => e = .returned (.bool true) ∧ Below w.heap.size w w' :=
  durable_law w A n ca ms hn hr (by unfold maxLen at hcm; omega) A2 n2 ca2 ms2 hn2 hr2 (by unfold maxLen at hcm2; omega) Z zn zc sv hz hrz (by unfold maxLen at hzm; omega)
end Dk
end Go.Proofs.Ytoallpinpeolfaa
