/- LeaseMonotone in the order of its arguments. -/
import Derived.Test.YtmdconcbelmdpaaLsK
import Derived.Test.YtmdconcbelmdpaaLsO
namespace Go.Proofs.Ytmdconcbelmdpaa
open Go.RowKit
namespace Ls
theorem monotone_row (w : World) (m : Int) (_ : -9223372036854775808 ≤ m) (_ : m ≤ 9223372036854775807) (C : Option Addr) (n cap : Nat) (cs : List Cl) (hn : cs.length = n) (hnc : n ≤ cap) (hcm : cap ≤ maxLen) (hr : RdC w C cs) (hf : ∀ c ∈ cs, c.fits) :
    Calls Try.prog 6 #[.int .i64 m, .slice C n cap] w fun e w' => e = .returned (.bool true) ∧ Below w.heap.size w w' :=
  monotone_law m C n cap cs w hn hnc hcm hr hf
end Ls
end Go.Proofs.Ytmdconcbelmdpaa
