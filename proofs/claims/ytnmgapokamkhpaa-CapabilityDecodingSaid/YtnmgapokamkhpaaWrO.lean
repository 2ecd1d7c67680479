/- The walks of refmeshref02's Int, String, ID, Bool and of wire.AppendID. -/
import Derived.Test.YtnmgapokamkhpaaWrN
namespace Go.Proofs.Ytnmgapokamkhpaa
open Go.RowKit
namespace Wi
open Wr

theorem NewB.of {w w' : World} {l : List UInt8} {e : Ending} {W : World} (h : NewB w' l e W) (hb : Below w.heap.size w w') : NewB w l e W := by
  obtain ⟨X, c, k, e1, e2, e3, e4⟩ := h
  exact ⟨X, c, k, e1, e2, e3.base hb.size, hb.trans (e4.mono hb.size)⟩

end Wi
end Go.Proofs.Ytnmgapokamkhpaa
