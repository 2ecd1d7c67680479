/- The law DiskTorn in the order of its arguments. -/
import Derived.Test.YtoallpinpeolfaaDkT
import Derived.Test.YtoallpinpeolfaaDkO
namespace Go.Proofs.Ytoallpinpeolfaa
open Go.RowKit
namespace Dk
theorem torn_row (w : World) (A : Option Addr) (n ca : Nat) (ms : List Cm) (hn : ms.length = n) (hnc : n ≤ ca) (hcm : ca ≤ maxLen) (hr : RdM w A ms)
    (Z : Option Addr) (zn zc : Nat) (sv : List Int) (hz : sv.length = zn) (hzc : zn ≤ zc) (hzm : zc ≤ maxLen) (hrz : Rd w Z (sv.map (Value.int .i64))) (_ : ∀ z ∈ sv, (Lit.int .i64 z).wf = true) :
    Calls Try.prog 3 #[.slice A n ca, .slice Z zn zc] w fun e w' => e = .returned (.bool true) ∧ Below w.heap.size w w' :=
  torn_law w A n ca ms hn hr (by unfold maxLen at hcm; omega) Z zn zc sv hz hrz (by unfold maxLen at hzm; omega)
end Dk
end Go.Proofs.Ytoallpinpeolfaa
