/- The laws JournalDurable and JournalReopens in the order of their arguments. -/
import Derived.Test.YtmdpmpfjldgalaaMJoG
import Derived.Test.YtmdpmpfjldgalaaMN
namespace Go.Proofs.Ytmdpmpfjldgalaa
open Go.RowKit
namespace Jn
theorem durable_row (w : World) (x : UInt8) (A : Option Addr) (n ca : Nat) (ms : List Om) (hn : ms.length = n) (hnc : n ≤ ca) (hcm : ca ≤ maxLen) (hr : RdO w A ms)
    (Z : Option Addr) (zn zc : Nat) (sv : List Int) (hz : sv.length = zn) (hzc : zn ≤ zc) (hzm : zc ≤ maxLen) (hrz : Rd w Z (sv.map (Value.int .i64))) (_ : ∀ z ∈ sv, (Lit.int .i64 z).wf = true) :
    Calls Try.prog 5 #[.int .u8 (x.toNat : Int), .slice A n ca, .slice Z zn zc] w fun e w' => e = .returned (.bool true) ∧ Below w.heap.size w w' :=
  jdurable_law w x A n ca ms hn hr (by unfold maxLen at hcm; omega) Z zn zc sv hz hrz (by unfold maxLen at hzm; omega)
theorem reopens_row (w : World) (x : UInt8) (A : Option Addr) (n ca : Nat) (ms : List Om) (hn : ms.length = n) (hnc : n ≤ ca) (hcm : ca ≤ maxLen) (hr : RdO w A ms) :
    Calls Try.prog 9 #[.int .u8 (x.toNat : Int), .slice A n ca] w fun e w' => e = .returned (.bool true) ∧ Below w.heap.size w w' :=
  jreopens_law w x A n ca ms hn hr (by unfold maxLen at hcm; omega)
end Jn
end Go.Proofs.Ytmdpmpfjldgalaa
