/- The law LeaseEncoding in the order of its arguments. -/
import Derived.Test.YtmdconcbelmdpaaLsU
import Derived.Test.YtmdconcbelmdpaaLsO
namespace Go.Proofs.Ytmdconcbelmdpaa
open Go.RowKit
namespace Ls

theorem encoding_row (w : World) (m : Int) (_ : -9223372036854775808 ≤ m) (_ : m ≤ 9223372036854775807) (C : Option Addr) (n cap : Nat) (cs : List Cl) (hn : cs.length = n) (hnc : n ≤ cap) (hcm : cap ≤ maxLen) (hr : RdC w C cs) (hf : ∀ c ∈ cs, c.fits)
    (D : Option Addr) (n2 cap2 : Nat) (ds : List Cl) (hn2 : ds.length = n2) (hnc2 : n2 ≤ cap2) (hcm2 : cap2 ≤ maxLen) (hr2 : RdC w D ds) (hf2 : ∀ c ∈ ds, c.fits) :
    Calls Try.prog 8 #[.int .i64 m, .slice C n cap, .slice D n2 cap2] w fun e w' => e = .returned (.bool true) ∧ Below w.heap.size w w' :=
  encoding_law w m C n cap cs D n2 cap2 ds hn hr hf hn2 hr2 hf2 (by unfold maxLen at hcm; omega) (by unfold maxLen at hcm2; omega)
end Ls
end Go.Proofs.Ytmdconcbelmdpaa
