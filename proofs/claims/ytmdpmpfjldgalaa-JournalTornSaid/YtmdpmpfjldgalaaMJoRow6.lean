/- The law JournalTorn in the order of its arguments. -/
import Derived.Test.YtmdpmpfjldgalaaMJoQ
import Derived.Test.YtmdpmpfjldgalaaMJoR
namespace Go.Proofs.Ytmdpmpfjldgalaa
open Go.RowKit
namespace Jn
theorem torn_row (w : World) (x : UInt8) (A : Option Addr) (n ca : Nat) (ms : List Om) (hn : ms.length = n) (_hnc : n ≤ ca) (_hcm : ca ≤ maxLen) (hr : RdO w A ms) (hz : n * 64 ≤ reachBytes)
    (m0 : Om) (hm0 : m0.ok w) (hm1 : m0.d.length ≤ m0.c ∧ m0.c ≤ maxLen) (af : UInt8)
    (Z : Option Addr) (zn zc : Nat) (sv : List Int) (hzn : sv.length = zn) (hnz : zn ≤ zc) (hmz : zc ≤ maxLen) (hrz : Rd w Z (sv.map (Value.int .i64))) (_hw : ∀ z ∈ sv, (Lit.int .i64 z).wf = true) :
    Calls Try.prog 6 #[.int .u8 (x.toNat : Int), .slice A n ca, .agg m0.cells.toArray, .int .u8 (af.toNat : Int), .slice Z zn zc] w fun e w' => e = .returned (.bool true) ∧ Below w.heap.size w w' :=
  jtorn_law w x A n ca ms hn hr (by unfold reachBytes at hz; omega) m0 hm0 hm1 af Z zn zc sv hzn hrz (by unfold maxLen at hmz; omega)
end Jn
end Go.Proofs.Ytmdpmpfjldgalaa
