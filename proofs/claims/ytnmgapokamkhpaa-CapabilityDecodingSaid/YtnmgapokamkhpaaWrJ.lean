/- The walk of Reader.String. -/
import Derived.Test.YtnmgapokamkhpaaWrI
namespace Go.Proofs.Ytnmgapokamkhpaa
open Go.RowKit
namespace Wi
open Wr

/-- the closure's answer: how it leaves things -/
def SR (w : World) (S0 g : Nat) (A : Option Addr) (c : Nat) (l : List UInt8) (n : Nat) (ec : Int) (sl : Value) (w' : World) : Prop :=
  (4096 < n ∧ ec = 8 ∧ Chg [] w w') ∨ (n ≤ 4096 ∧ l.length < n ∧ ec = 11 ∧ Chg [] w w') ∨
    (n ≤ 4096 ∧ n ≤ l.length ∧ ec = 0 ∧ sl = .slice (cutA A n c) (l.length - n) (c - n) ∧ w'.heap[S0]? = some (.cells #[.string ⟨(l.take n).toArray⟩] 9 (0, 0)) ∧ Chg [S0, g] w w')
def SPost (w : World) (S0 g : Nat) (A : Option Addr) (c : Nat) (l : List UInt8) (n : Nat) (e : Ending) (w' : World) : Prop :=
  ∃ ec sl, e = .returned (.int .i64 ec) ∧ w'.heap[g]? = some (.cells #[sl, .int .i64 0] 65 (0, 0)) ∧ SR w S0 g A c l n ec sl w'

end Wi
end Go.Proofs.Ytnmgapokamkhpaa
