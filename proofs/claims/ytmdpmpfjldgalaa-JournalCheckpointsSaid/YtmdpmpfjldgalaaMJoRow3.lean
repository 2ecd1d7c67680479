/- The law JournalCheckpoints in the order of its arguments. -/
import Derived.Test.YtmdpmpfjldgalaaMJoI
import Derived.Test.YtmdpmpfjldgalaaMN
namespace Go.Proofs.Ytmdpmpfjldgalaa
open Go.RowKit
namespace Jn
theorem checkpoints_row (w : World) (x : UInt8) (A : Option Addr) (n ca : Nat) (ms : List Om) (hn : ms.length = n) (hnc : n ≤ ca) (hcm : ca ≤ maxLen) (hr : RdO w A ms)
    (A1 : Option Addr) (n1 c1 : Nat) (l1 : List UInt8) (h1 : l1.length = n1) (hc1 : n1 ≤ c1) (hm1 : c1 ≤ maxLen) (hr1 : RB w A1 l1)
    (A2 : Option Addr) (n2 c2 : Nat) (l2 : List UInt8) (h2 : l2.length = n2) (hc2 : n2 ≤ c2) (hm2 : c2 ≤ maxLen) (hr2 : RB w A2 l2)
    (Z : Option Addr) (zn zc : Nat) (sv : List Int) (hz : sv.length = zn) (hzc : zn ≤ zc) (hzm : zc ≤ maxLen) (hrz : Rd w Z (sv.map (Value.int .i64))) (_ : ∀ z ∈ sv, (Lit.int .i64 z).wf = true) :
    Calls Try.prog 8 #[.int .u8 (x.toNat : Int), .slice A n ca, .slice A1 n1 c1, .slice A2 n2 c2, .slice Z zn zc] w fun e w' => e = .returned (.bool true) ∧ Below w.heap.size w w' :=
  jcheckpoints_law w x A n ca ms hn hr (by unfold maxLen at hcm; omega) A1 n1 c1 l1 h1 hc1 hm1 hr1 A2 n2 c2 l2 h2 hc2 hm2 hr2 Z zn zc sv hz hrz (by unfold maxLen at hzm; omega)
end Jn
end Go.Proofs.Ytmdpmpfjldgalaa
