/- The walks of wire.AppendID and refmeshref02.ID. -/
import Derived.Test.YtnmgapokamkhpaaWrO
namespace Go.Proofs.Ytnmgapokamkhpaa
open Go.RowKit
namespace Wi
open Wr

/-- the word of an integer -/
def u64n (n : Int) : Nat := (IntKind.u64.wrap n).toNat
theorem u64n_cast (n : Int) : (u64n n : Int) = IntKind.u64.wrap n := by unfold u64n; rw [IntKind.wrap_u64]; omega
theorem u64n_lt (n : Int) : u64n n < 18446744073709551616 := by unfold u64n; rw [IntKind.wrap_u64]; omega
theorem u64n_of (n : Int) (h0 : 0 ≤ n) (h : n < 18446744073709551616) : (u64n n : Int) = n := by rw [u64n_cast, IntKind.wrap_u64]; omega
def encID (m s : Int) : List UInt8 := enc (u64n m) ++ enc (u64n s)

theorem Ext.start {w : World} {B : Nat} {v0 : Value} {l : List UInt8} (h : Ext w B v0 l v0 w) {w' : World} (hb : Below w.heap.size w w') : Ext w' B v0 l v0 w' := by
  obtain ⟨X, c, e, ho, ha⟩ := h
  exact ⟨X, c, e, own_below ho hb, e ▸ App.refl _ _⟩
theorem Ext.again {w w' : World} {B : Nat} {v0 v : Value} {l : List UInt8} (h : Ext w B v0 l v w') : Ext w' B v l v w' := by
  obtain ⟨X, c, e, ho, ha⟩ := h
  exact ⟨X, c, e, ho, e ▸ App.refl _ _⟩
theorem Ext.trans {w w1 w2 : World} {B : Nat} {v0 v1 v2 : Value} {l l2 : List UInt8} (h : Ext w B v0 l v1 w1) (k : Ext w1 B v1 l2 v2 w2) : Ext w B v0 l2 v2 w2 := by
  obtain ⟨X, c, e, ho, ha⟩ := h
  obtain ⟨X', c', e', ho', ha'⟩ := k
  subst e
  exact ⟨X', c', e', ho', ha.trans ha'⟩
theorem Ext.from {w w1 w2 : World} {B : Nat} {v0 v : Value} {l : List UInt8} (hb : Below w.heap.size w w1) (h : Ext w1 B v0 l v w2) : Ext w B v0 l v w2 := by
  obtain ⟨X, c, e, ho, ha⟩ := h
  exact ⟨X, c, e, ho, ha.below_left hb⟩
theorem Ext.chg {w w1 : World} {B : Nat} {v0 v : Value} {l : List UInt8} (h : Ext w B v0 l v w1) : Chg v0.ownBlock.toList w w1 := by
  obtain ⟨X, c, e, ho, ha⟩ := h
  exact ha.chg (by intro b hb; rw [hb]; simp)
theorem below_drew (w : World) : Below w.heap.size w w.drew := (Below.refl _ _).drew

end Wi
end Go.Proofs.Ytnmgapokamkhpaa
