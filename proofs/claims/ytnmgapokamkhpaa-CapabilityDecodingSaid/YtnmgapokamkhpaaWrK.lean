/- The walk of Reader.String, whole. -/
import Derived.Test.YtnmgapokamkhpaaWrJ
namespace Go.Proofs.Ytnmgapokamkhpaa
open Go.RowKit
namespace Wi
open Wr

/-- String -/
def stringR (r : Rs) : List UInt8 × Rs :=
  if (uintR r).2.e ≠ 0 then ([], (uintR r).2) else if 4096 < (uintR r).1 then ([], failR 8) else if (uintR r).2.l.length < (uintR r).1 then ([], failR 11) else ((uintR r).2.l.take (uintR r).1, ⟨(uintR r).2.l.drop (uintR r).1, 0⟩)

def StrPost (w : World) (g : Nat) (s : List UInt8) (r2 : Rs) (e : Ending) (w' : World) : Prop := e = .returned (.string ⟨s.toArray⟩) ∧ IsRd w' g r2 ∧ Chg [g] w w'

/-- a reader cut down, behind writes to its own block and to a new one -/
theorem IsRd.cut {w w2 w3 w4 : World} {g S0 : Nat} {A : Option Addr} {c k : Nat} {l : List UInt8} (hr : RB w A l) (hlc : l.length ≤ c) (hcm : c ≤ maxLen) (hne : 0 < l.length → ∀ b off, A = some ⟨b, off, none⟩ → b < g)
    (hb : Below w.heap.size w w2) (hS : w.heap.size ≤ S0) (hch : Chg [S0, g] w2 w3) (hc4 : Chg [g] w3 w4) (hk : k ≤ l.length)
    (hg : w4.heap[g]? = some (.cells #[.slice (cutA A k c) (l.length - k) (c - k), .int .i64 0] 65 (0, 0))) : IsRd w4 g ⟨l.drop k, 0⟩ := by
  have hdl : (l.drop k).length = l.length - k := by simp
  have hbl : 0 < (l.drop k).length → ∀ b off, cutA A k c = some ⟨b, off, none⟩ → b < w.heap.size ∧ b < g := by
    intro hpos b off e
    have hl0 : 0 < l.length := by rw [hdl] at hpos; omega
    obtain ⟨b0, o0, rfl, hlt, _⟩ := RB.cells hr hl0
    have := cutA_some e
    subst this
    exact ⟨hlt, hne hl0 b o0 rfl⟩
  refine ⟨cutA A k c, c - k, by simp only [hdl]; exact hg, by simp only [hdl]; omega, by omega, ?_, fun hpos b off e => (hbl hpos b off e).2⟩
  have h2 : RB w2 (cutA A k c) (l.drop k) := RB.cut (RB.below hr hb) k c hlc
  refine RB.chg (RB.chg h2 hch ?_) hc4 ?_
  · intro hpos b off e
    have := hbl hpos b off e
    simp; omega
  · intro hpos b off e
    have := hbl hpos b off e
    simp; omega

end Wi
end Go.Proofs.Ytnmgapokamkhpaa
