/- The lease laws in the order of their arguments. -/
import Derived.Test.YtmdconcbelmdpaaLsJ
import Derived.Test.YtmdconcbelmdpaaLsO
namespace Go.Proofs.Ytmdconcbelmdpaa
open Go.RowKit
namespace Ls

theorem calls_row (w : World) (m : Int) (_ : -9223372036854775808 ≤ m) (_ : m ≤ 9223372036854775807) (C : Option Addr) (n cap : Nat) (cs : List Cl) (hn : cs.length = n) (hnc : n ≤ cap) (hcm : cap ≤ maxLen) (hr : RdC w C cs) (hf : ∀ c ∈ cs, c.fits) :
    Calls Try.prog 3 #[.int .i64 m, .slice C n cap] w fun e w' => e = .returned (.bool true) ∧ Below w.heap.size w w' :=
  calls_law m C n cap cs w hn hnc hcm hr hf
theorem overdue_row (w : World) (m : Int) (_ : -9223372036854775808 ≤ m) (_ : m ≤ 9223372036854775807) (C : Option Addr) (n cap : Nat) (cs : List Cl) (hn : cs.length = n) (hnc : n ≤ cap) (hcm : cap ≤ maxLen) (hr : RdC w C cs) (hf : ∀ c ∈ cs, c.fits)
    (tick : Int) (_ : -9223372036854775808 ≤ tick) (ht : tick ≤ 9223372036854775807) (D : Option Addr) (n2 cap2 : Nat) (zs : List Int) (hn2 : zs.length = n2) (hnc2 : n2 ≤ cap2) (hcm2 : cap2 ≤ maxLen) (hr2 : Rd w D (zs.map (Value.int .i64))) (_ : ∀ z ∈ zs, (Lit.int .i64 z).wf = true) :
    Calls Try.prog 4 #[.int .i64 m, .slice C n cap, .int .i64 tick, .slice D n2 cap2] w fun e w' => e = .returned (.bool true) ∧ Below w.heap.size w w' :=
  overdue_law m C n cap cs tick D n2 cap2 zs w hn hnc hcm hr hf ht hn2 hnc2 hcm2 hr2
theorem grace_row (w : World) (C : Option Addr) (n cap : Nat) (cs : List Cl) (hn : cs.length = n) (hnc : n ≤ cap) (hcm : cap ≤ maxLen) (hr : RdC w C cs) (hf : ∀ c ∈ cs, c.fits)
    (cl : Int) (h1 : -9223372036854775808 ≤ cl) (h2 : cl ≤ 9223372036854775807) (ro : Int) (_ : -9223372036854775808 ≤ ro) (_ : ro ≤ 9223372036854775807) (ti : Int) (_ : -9223372036854775808 ≤ ti) (_ : ti ≤ 9223372036854775807) (la : Int) (_ : -9223372036854775808 ≤ la) (_ : la ≤ 9223372036854775807) :
    Calls Try.prog 5 #[.slice C n cap, .int .i64 cl, .int .i64 ro, .int .i64 ti, .int .i64 la] w fun e w' => e = .returned (.bool true) ∧ Below w.heap.size w w' :=
  grace_law C n cap cs cl ro ti la w hn hnc hcm hr hf h1 h2
theorem rounds_row (w : World) (m : Int) (_ : -9223372036854775808 ≤ m) (_ : m ≤ 9223372036854775807) (C : Option Addr) (n cap : Nat) (cs : List Cl) (hn : cs.length = n) (hnc : n ≤ cap) (hcm : cap ≤ maxLen) (hr : RdC w C cs) (hf : ∀ c ∈ cs, c.fits) :
    Calls Try.prog 7 #[.int .i64 m, .slice C n cap] w fun e w' => e = .returned (.bool true) ∧ Below w.heap.size w w' :=
  rounds_law m C n cap cs w hn hnc hcm hr hf
end Ls
end Go.Proofs.Ytmdconcbelmdpaa
