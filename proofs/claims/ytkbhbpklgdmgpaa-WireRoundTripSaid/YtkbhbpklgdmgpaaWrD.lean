/- The walks of wire.AppendInt, AppendBool, AppendID, and refmeshref02.Same. -/
import Derived.Test.YtkbhbpklgdmgpaaWrC
namespace Go.Proofs.Ytkbhbpklgdmgpaa
open Go.RowKit
namespace Wi
open Wr

/-- the number of an integer -/
def zig (n : Int) : Nat := if 0 ≤ n then (2 * n).toNat else (-2 * n - 1).toNat
theorem zig_lt (n : Int) (h1 : -9223372036854775808 ≤ n) (h2 : n ≤ 9223372036854775807) : zig n < 18446744073709551616 := by unfold zig; split <;> omega

theorem vw_ofNat (n : Nat) (h : n < 18446744073709551616) : vw (BitVec.ofNat 64 n) = .int .u64 (n : Int) := by
  show Value.int .u64 ((BitVec.ofNat 64 n).toNat : Int) = _
  rw [BitVec.toNat_ofNat, Nat.mod_eq_of_lt (by omega)]
theorem appendNat_calls (B : Nat) (v0 : Value) (l : List UInt8) (n : Nat) (hn : n < 18446744073709551616) (w : World) (ho : Ext w B v0 l v0 w) (hl : l.length ≤ 1000000) (hB : B ≤ w.heap.size) :
    Calls Try.prog 11 #[v0, .int .u64 (n : Int)] w (ExtPost w B v0 (l ++ enc n)) := by
  have h := appendUint_calls B v0 l (BitVec.ofNat 64 n) w ho hl hB
  rw [vw_ofNat n hn, BitVec.toNat_ofNat, Nat.mod_eq_of_lt (by omega)] at h
  exact h

theorem xor_nat (a b : Nat) (ha : a < 18446744073709551616) (hb : b < 18446744073709551616) : bits .xor .u64 (a : Int) (b : Int) = ((BitVec.ofNat 64 a ^^^ BitVec.ofNat 64 b).toNat : Int) := by
  have h := xor_bv (BitVec.ofNat 64 a) (BitVec.ofNat 64 b)
  rw [BitVec.toNat_ofNat, BitVec.toNat_ofNat, Nat.mod_eq_of_lt (by omega), Nat.mod_eq_of_lt (by omega)] at h
  exact h
theorem zig_pos (n : Int) (h0 : 0 ≤ n) (h2 : n ≤ 9223372036854775807) : bits .xor .u64 (n * 2) (n / 9223372036854775808) = (zig n : Int) := by
  have hz : zig n = (n * 2).toNat := by unfold zig; rw [if_pos h0, Int.mul_comm]
  have h1 : n / 9223372036854775808 = ((0 : Nat) : Int) := by omega
  have h3 : n * 2 = (zig n : Int) := by rw [hz]; omega
  rw [h1, h3, xor_nat _ _ (by omega) (by omega)]
  simp
  omega
theorem zig_neg (n : Int) (h0 : n < 0) (h1 : -9223372036854775808 ≤ n) : bits .xor .u64 (IntKind.u64.wrap (IntKind.u64.wrap n * 2)) (IntKind.u64.wrap (n / 9223372036854775808)) = (zig n : Int) := by
  have hz : zig n = (-2 * n - 1).toNat := by unfold zig; rw [if_neg (by omega)]
  have e1 : IntKind.u64.wrap (IntKind.u64.wrap n * 2) = ((18446744073709551616 + 2 * n).toNat : Int) := by rw [IntKind.wrap_u64, IntKind.wrap_u64]; omega
  have e2 : IntKind.u64.wrap (n / 9223372036854775808) = ((18446744073709551615 : Nat) : Int) := by rw [IntKind.wrap_u64]; omega
  rw [e1, e2, xor_nat _ _ (by omega) (by omega)]
  rw [show BitVec.ofNat 64 18446744073709551615 = BitVec.allOnes 64 from rfl, BitVec.xor_allOnes, BitVec.toNat_not, BitVec.toNat_ofNat, hz]
  omega

set_option maxRecDepth 100000 in
set_option maxHeartbeats 1000000 in
theorem appendInt_calls (B : Nat) (v0 : Value) (l : List UInt8) (n : Int) (w : World) (ho : Ext w B v0 l v0 w) (hl : l.length ≤ 1000000) (hB : B ≤ w.heap.size) (h1 : -9223372036854775808 ≤ n) (h2 : n ≤ 9223372036854775807) :
    Calls Try.prog 26 #[v0, .int .i64 n] w (ExtPost w B v0 (l ++ enc (zig n))) := by
  have HU := Lib.hid (appendNat_calls B v0 l (zig n) (zig_lt n h1 h2) w ho hl hB)
  obtain ⟨X0, c0, e0, _, _⟩ := ho
  subst e0
  by_cases h0 : 0 ≤ n
  · have HZ := Lib.hid (zig_pos n h0 h2)
    go_enter Try.func26, Try.ntmps26
    go_wp2_with fail
    rw [HZ.out]
    refine HU.out.mono ?_
    rintro e w1 ⟨v1, rfl, hx⟩
    have HX := Lib.hid hx
    clear hx
    go_wp2_with fail
    go_ret
    exact ⟨v1, rfl, HX.out⟩
  · have HZ := Lib.hid (zig_neg n (by omega) h1)
    go_enter Try.func26, Try.ntmps26
    go_wp2_with fail
    rw [HZ.out]
    refine HU.out.mono ?_
    rintro e w1 ⟨v1, rfl, hx⟩
    have HX := Lib.hid hx
    clear hx
    go_wp2_with fail
    go_ret
    exact ⟨v1, rfl, HX.out⟩

set_option maxRecDepth 100000 in
theorem appendBool_calls (B : Nat) (v0 : Value) (l : List UInt8) (b : Bool) (w : World) (ho : Ext w B v0 l v0 w) (hl : l.length ≤ 1000000) (hB : B ≤ w.heap.size) :
    Calls Try.prog 30 #[v0, .bool b] w (ExtPost w B v0 (l ++ [if b then 1 else 0])) := by
  obtain ⟨X0, c0, e0, ho, _⟩ := ho
  subst e0
  have HO := Lib.hid ho
  clear ho
  have hl1 : ∀ x : UInt8, (l ++ [x]).length = l.length + 1 := fun x => by simp
  have HL := Lib.hid hl1
  clear hl1
  cases b
  · go_enter Try.func30, Try.ntmps30
    go_wp2_with (at_builtin; refine wpList_apps _ rfl (.tmp 9) (.tmp 10) 24 rfl B 5 (.int .u8 0) 1 Try.underlying24 info_u8 rfl _ l.length (l.map vb) rfl (HO.out.alloc _) (some ⟨w.heap.size, 0, none⟩) 1 1 [.int .u8 0] rfl rfl (Rd.one w _ _) (by simp [Value.oneCell']) (by simp only [maxLen]; omega) (by omega) (Nat.le_trans hB (by simp)) ?_; intro X' c' w1 hown1 happ1; have HO1 := Lib.hid hown1; have HA1 := Lib.hid happ1; clear hown1 happ1)
    go_ret
    refine ⟨_, rfl, X', c', by rw [HL.out]; rfl, ?_, by rw [HL.out]; exact HA1.out.alloc_left⟩
    rw [HL.out, List.map_append]; exact HO1.out
  · go_enter Try.func30, Try.ntmps30
    go_wp2_with (at_builtin; refine wpList_apps _ rfl (.tmp 6) (.tmp 7) 24 rfl B 5 (.int .u8 0) 1 Try.underlying24 info_u8 rfl _ l.length (l.map vb) rfl (HO.out.alloc _) (some ⟨w.heap.size, 0, none⟩) 1 1 [.int .u8 1] rfl rfl (Rd.one w _ _) (by simp [Value.oneCell']) (by simp only [maxLen]; omega) (by omega) (Nat.le_trans hB (by simp)) ?_; intro X' c' w1 hown1 happ1; have HO1 := Lib.hid hown1; have HA1 := Lib.hid happ1; clear hown1 happ1)
    go_ret
    refine ⟨_, rfl, X', c', by rw [HL.out]; rfl, ?_, by rw [HL.out]; exact HA1.out.alloc_left⟩
    rw [HL.out, List.map_append]; exact HO1.out

def sameB (a b : List UInt8) : Bool := a == b
theorem same_calls (A B : Option Addr) (n m ca cb : Nat) (a b : List UInt8) (w : World) (hn : a.length = n) (hm : b.length = m) (ra : RB w A a) (rb : RB w B b) :
    Calls Try.prog 12 #[.slice A n ca, .slice B m cb] w fun e w' => e = .returned (.bool (sameB a b)) ∧ w = w' := by
  have h1 := run_str (P := Try.prog) (w := w) n ca 24 5 9 Try.underlying24 Try.underlying5 Try.underlying9 hn ra
  have h2 := run_str (P := Try.prog) (w := w) m cb 24 5 9 Try.underlying24 Try.underlying5 Try.underlying9 hm rb
  clear hn hm ra rb
  go_enter Try.func12, Try.ntmps12
  go_wp2_with fail
  go_ret
  exact ⟨rfl, rfl⟩
end Wi
end Go.Proofs.Ytkbhbpklgdmgpaa
