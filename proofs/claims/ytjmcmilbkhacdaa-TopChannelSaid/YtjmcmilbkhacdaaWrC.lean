/- The walks of wire.AppendString, AppendBool, AppendID. -/
import Derived.Test.YtjmcmilbkhacdaaWrB
namespace Go.Proofs.Ytjmcmilbkhacdaa
open Go.RowKit
namespace Wi
open Wr

theorem size_u8 : (Try.prog.info? 5).map (·.size) = some 1 := by kernel_rfl

/-- the form of a slice that was extended, its block named -/
theorem own_blk {w : World} {B n : Nat} {e : TypeId} {v : Value} {xs : List Value} (h : w.ownsRow B e 1 v n xs) (hn : 0 < n) : ∃ g c cur, v = .slice (some ⟨g, 0, none⟩) n c ∧ B ≤ g ∧ w.heap[g]? = some (.cells cur e (0, 0)) ∧ n ≤ c ∧ c ≤ maxLen ∧ cur.size = c ∧ cur.toList.take n = xs := by
  rcases h.2 with ⟨_, h0⟩ | ⟨g, c, cur, e1, e2, e3, e4, e5, e6, e7⟩
  · omega
  · exact ⟨g, c, cur, e1, e2, e3, e4, e5, by simpa using e6, by simpa using e7⟩
theorem own_of_blk {w : World} {B n g c : Nat} {e : TypeId} {cur : Array Value} {xs : List Value} (hB : B ≤ g) (hg : w.heap[g]? = some (.cells cur e (0, 0))) (hnc : n ≤ c) (hcm : c ≤ maxLen) (hc : cur.size = c) (hx : cur.toList.take n = xs) :
    w.ownsRow B e 1 (.slice (some ⟨g, 0, none⟩) n c) n xs :=
  ⟨by rw [← hx]; simp; omega, .inr ⟨g, c, cur, rfl, hB, hg, hnc, hcm, by simpa using hc, by simpa using hx⟩⟩

def strB (s : ByteArray) : List UInt8 := s.data.toList
theorem strB_cells (s : ByteArray) : Lib.strCells s = (strB s).map vb := rfl
theorem strB_length (s : ByteArray) : (strB s).length = s.size := by simp [strB]

end Wi
end Go.Proofs.Ytjmcmilbkhacdaa
