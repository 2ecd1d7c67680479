/- The walk of refmeshlaw02.awake, and the law WirePrefixes. -/
import Derived.Test.YtddoepaplbnlcaaWrK
namespace Go.Proofs.Ytddoepaplbnlcaa
open Go.RowKit
namespace Wi
open Wr

theorem Ext.self {w w' : World} {B : Nat} {v0 v : Value} {l : List UInt8} (h : Ext w B v0 l v w') : Ext w' B v l v w' := by
  obtain ⟨X, c, rfl, ho, _⟩ := h
  exact ⟨X, c, rfl, ho, App.refl _ _⟩
theorem Ext.nil (w : World) : Ext w w.heap.size (.slice none 0 0) [] (.slice none 0 0) w := ⟨none, 0, rfl, ⟨rfl, .inl ⟨rfl, rfl⟩⟩, App.refl _ _⟩
theorem Ext.below {w w1 w' : World} {B : Nat} {v0 v : Value} {l0 l : List UInt8} (h0 : Ext w1 B v0 l0 v0 w) (hB : B ≤ w.heap.size) (h : Ext w B v0 l v w') : Below B w w' := by
  obtain ⟨X0, c0, rfl, ho, _⟩ := h0
  obtain ⟨X, c, rfl, _, ha⟩ := h
  exact ha.below ho hB
theorem Ext.read {w w' : World} {B : Nat} {v0 v : Value} {l : List UInt8} (h : Ext w B v0 l v w') : ∃ X c, v = .slice X l.length c ∧ l.length ≤ c ∧ c ≤ maxLen ∧ RB w' X l := by
  obtain ⟨X, c, rfl, ho, _⟩ := h
  obtain ⟨_, _, e, h1, h2, _, h3⟩ := own_form ho
  cases e
  exact ⟨X, c, rfl, h1, h2, h3⟩

def awL : List UInt8 := [0, 2, 1, 2, 1, 1, 1, 2, 97, 98]

end Wi
end Go.Proofs.Ytddoepaplbnlcaa
