/- The walks of refmeshref02's append functions. -/
import Derived.Test.YtnmgapokamkhpaaAp
namespace Go.Proofs.Ytnmgapokamkhpaa
open Go.RowKit
namespace Wi
open Wr

def FillD (w : World) (l : List UInt8) (v : Value) (wr : World) : Prop :=
  ∃ X c k, v = .slice X k c ∧ k = l.length ∧ OB wr w.heap.size (.slice X k c) l ∧ Below w.heap.size w wr

end Wi
end Go.Proofs.Ytnmgapokamkhpaa
