/- The walk of the law WirePrefixes. -/
import Derived.Test.YtkbhbpklgdmgpaaWrL
namespace Go.Proofs.Ytkbhbpklgdmgpaa
open Go.RowKit
namespace Wi
open Wr

set_option maxRecDepth 100000 in
set_option maxHeartbeats 1000000 in
theorem prefixes_law (w : World) (x y : BitVec 64) :
    Calls Try.prog 3 #[vw x, vw y] w fun e w' => e = .returned (.bool true) ∧ Below w.heap.size w w' := by
  have hx := x.isLt
  have hy := y.isLt
  obtain ⟨a, HA⟩ : ∃ n, Hid (n = x.toNat) := ⟨_, rfl⟩
  obtain ⟨b, HB⟩ : ∃ n, Hid (n = y.toNat) := ⟨_, rfl⟩
  rw [← HA.out] at hx
  rw [← HB.out] at hy
  rw [show vw x = .int .u64 (a : Int) by rw [HA.out], show vw y = .int .u64 (b : Int) by rw [HB.out]]
  have ha : a < 18446744073709551616 := by omega
  have hb : b < 18446744073709551616 := by omega
  clear hx hy HA HB
  by_cases hab : b ≤ a
  · have d : decide ((b : Int) ≤ (a : Int)) = true := by simp; omega
    go_enter Try.func3, Try.ntmps3
    go_wp2_with fail; refine (awake_calls w).mono ?_; rintro e w1 ⟨rfl, hb⟩; have B1 := Lib.hid hb; clear hb; go_wp2_with fail
    go_ret
    exact ⟨rfl, B1.out⟩
  · have d : decide ((b : Int) ≤ (a : Int)) = false := by simp; omega
    have hla := enc_len a
    have hlb := enc_len b
    have hmo := digits_mono a b (by omega) hb
    have h8 := digits_len_le b
    have HNP : Hid (sameB (enc a) ((enc b).take (enc a).length) = false) := by
      show _ = _
      unfold sameB
      rw [beq_eq_false_iff_ne]
      exact enc_noprefix a b ha hb (by omega)
    have HTL : Hid (((enc b).take (enc a).length).length = (enc a).length) := by show _ = _; simp; omega
    have hn1 : (enc a).length ≤ (enc b).length := by omega
    have hn2 : 1 ≤ (enc a).length := by omega
    have hn3 : (enc b).length ≤ 9 := by omega
    obtain ⟨la, HLa⟩ : ∃ n, Hid (n = (enc a).length) := ⟨_, rfl⟩
    obtain ⟨lb, HLb⟩ : ∃ n, Hid (n = (enc b).length) := ⟨_, rfl⟩
    rw [← HLa.out] at hn1 hn2 HTL HNP
    rw [← HLb.out] at hn1 hn3
    have k0 : (0 : Int) ≤ (la : Int) := by omega
    have e0 : ((la : Int) == 0) = false := by simp; omega
    have e1 : decide ((lb : Int) < (la : Int)) = false := by simp; omega
    have e1' : decide (lb < la) = false := by simp; omega
    have e2 : decide ((9 : Int) < (lb : Int)) = false := by simp; omega
    clear hla hlb hmo h8
    go_enter Try.func3, Try.ntmps3
    go_wp2_with fail; refine (awake_calls w).mono ?_; rintro e w1 ⟨rfl, hb⟩; have B1 := Lib.hid hb; clear hb; go_wp2_with fail
    refine (appendNat_calls w1.heap.size (.slice none 0 0) [] a ha w1 (Ext.nil w1) (by simp) (Nat.le_refl _)).mono ?_
    rintro e w2 ⟨v2, rfl, hx2⟩
    have hb2 := Ext.below (Ext.nil w1) (Nat.le_refl _) hx2
    obtain ⟨X, cx, rfl, hX1, hX2, hX3⟩ := hx2.read
    rw [List.nil_append] at hX1 hX3 ⊢
    rw [← HLa.out] at hX1 ⊢
    have RX := Lib.hid hX3
    have B2 := Lib.hid (B1.out.trans (hb2.mono B1.out.size))
    clear hx2 hX3 hb2
    go_wp2_with fail
    refine (appendNat_calls w2.heap.size (.slice none 0 0) [] b hb w2 (Ext.nil w2) (by simp) (Nat.le_refl _)).mono ?_
    rintro e w3 ⟨v3, rfl, hx3⟩
    have hb3 := Ext.below (Ext.nil w2) (Nat.le_refl _) hx3
    obtain ⟨Y, cy, rfl, hY1, hY2, hY3⟩ := hx3.read
    rw [List.nil_append] at hY1 hY3 ⊢
    rw [← HLb.out] at hY1 ⊢
    have RX3 := Lib.hid (RB.below RX.out hb3)
    have RY := Lib.hid hY3
    have B3 := Lib.hid (B2.out.trans (hb3.mono B2.out.size))
    clear hx3 hY3 hb3
    have k1 : (la : Int) ≤ (cy : Int) := by omega
    go_wp2_with fail
    refine (same_calls X Y la la cx cy (enc a) ((enc b).take la) w3 HLa.out.symm HTL.out RX3.out (RB.take RY.out la)).mono ?_
    rintro e w4 ⟨rfl, rfl⟩
    rw [HNP.out]
    go_wp2_with fail
    go_ret
    exact ⟨rfl, B3.out⟩
end Wi
end Go.Proofs.Ytkbhbpklgdmgpaa
