/- The walks of wire.AppendInt, AppendBool, AppendID, and refmeshref02.Same. -/
import Derived.Test.YtjmcmilbkhacdaaWrC
namespace Go.Proofs.Ytjmcmilbkhacdaa
open Go.RowKit
namespace Wi
open Wr

/-- the number of an integer -/
def zig (n : Int) : Nat := if 0 ≤ n then (2 * n).toNat else (-2 * n - 1).toNat
theorem zig_lt (n : Int) (h1 : -9223372036854775808 ≤ n) (h2 : n ≤ 9223372036854775807) : zig n < 18446744073709551616 := by unfold zig; split <;> omega

theorem vw_ofNat (n : Nat) (h : n < 18446744073709551616) : vw (BitVec.ofNat 64 n) = .int .u64 (n : Int) := by
  show Value.int .u64 ((BitVec.ofNat 64 n).toNat : Int) = _
  rw [BitVec.toNat_ofNat, Nat.mod_eq_of_lt (by omega)]
theorem appendNat_calls (B : Nat) (v0 : Value) (l : List UInt8) (n : Nat) (hn : n < 18446744073709551616) (w : World) (ho : Ext w B v0 l v0 w) (hl : l.length ≤ 1000000) (hB : B ≤ w.heap.size) :
    Calls Try.prog 34 #[v0, .int .u64 (n : Int)] w (ExtPost w B v0 (l ++ enc n)) := by
  have h := appendUint_calls B v0 l (BitVec.ofNat 64 n) w ho hl hB
  rw [vw_ofNat n hn, BitVec.toNat_ofNat, Nat.mod_eq_of_lt (by omega)] at h
  exact h

theorem xor_nat (a b : Nat) (ha : a < 18446744073709551616) (hb : b < 18446744073709551616) : bits .xor .u64 (a : Int) (b : Int) = ((BitVec.ofNat 64 a ^^^ BitVec.ofNat 64 b).toNat : Int) := by
  have h := xor_bv (BitVec.ofNat 64 a) (BitVec.ofNat 64 b)
  rw [BitVec.toNat_ofNat, BitVec.toNat_ofNat, Nat.mod_eq_of_lt (by omega), Nat.mod_eq_of_lt (by omega)] at h
  exact h
theorem zig_pos (n : Int) (h0 : 0 ≤ n) (h2 : n ≤ 9223372036854775807) : bits .xor .u64 (n * 2) (n / 9223372036854775808) = (zig n : Int) := by
  have hz : zig n = (n * 2).toNat := by unfold zig; rw [if_pos h0, Int.mul_comm]
  have h1 : n / 9223372036854775808 = ((0 : Nat) : Int) := by omega
  have h3 : n * 2 = (zig n : Int) := by rw [hz]; omega
  rw [h1, h3, xor_nat _ _ (by omega) (by omega)]
  simp
  omega
theorem zig_neg (n : Int) (h0 : n < 0) (h1 : -9223372036854775808 ≤ n) : bits .xor .u64 (IntKind.u64.wrap (IntKind.u64.wrap n * 2)) (IntKind.u64.wrap (n / 9223372036854775808)) = (zig n : Int) := by
  have hz : zig n = (-2 * n - 1).toNat := by unfold zig; rw [if_neg (by omega)]
  have e1 : IntKind.u64.wrap (IntKind.u64.wrap n * 2) = ((18446744073709551616 + 2 * n).toNat : Int) := by rw [IntKind.wrap_u64, IntKind.wrap_u64]; omega
  have e2 : IntKind.u64.wrap (n / 9223372036854775808) = ((18446744073709551615 : Nat) : Int) := by rw [IntKind.wrap_u64]; omega
  rw [e1, e2, xor_nat _ _ (by omega) (by omega)]
  rw [show BitVec.ofNat 64 18446744073709551615 = BitVec.allOnes 64 from rfl, BitVec.xor_allOnes, BitVec.toNat_not, BitVec.toNat_ofNat, hz]
  omega

def sameB (a b : List UInt8) : Bool := a == b
end Wi
end Go.Proofs.Ytjmcmilbkhacdaa
