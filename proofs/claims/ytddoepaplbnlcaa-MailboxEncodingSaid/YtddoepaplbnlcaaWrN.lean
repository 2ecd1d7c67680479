/- The walks of refmeshref02's append functions. -/
import Derived.Test.YtddoepaplbnlcaaAp
namespace Go.Proofs.Ytddoepaplbnlcaa
open Go.RowKit
namespace Wi
open Wr

def FillD (w : World) (l : List UInt8) (v : Value) (wr : World) : Prop :=
  ∃ X c k, v = .slice X k c ∧ k = l.length ∧ OB wr w.heap.size (.slice X k c) l ∧ Below w.heap.size w wr

set_option maxRecDepth 100000 in
set_option maxHeartbeats 1000000 in
theorem ruint_calls (A : Option Addr) (m cap : Nat) (l : List UInt8) (N : Nat) (w : World) (hl : l.length = m) (hr : RB w A l) (hm : m ≤ 1000000) (hN : N < 18446744073709551616) :
    Calls Try.prog 60 #[.slice A m cap, .int .u64 (N : Int)] w (NewB w (l ++ enc N)) := by
  have HL := Lib.hid hl
  have HR := Lib.hid hr
  have h8 := digits_len_le N
  clear hl hr
  go_enter Try.func60, Try.ntmps60
  go_wp2_with fail
  go_loopw [1, 5] (fun r v wr => ∃ j : Nat, ∃ D : List UInt8, r = .int .u64 ((N / 256 ^ j : Nat) : Int) ∧ digits N = digits (N / 256 ^ j) ++ D ∧ FillD w D v wr) (fun r _ _ => (intOf r).toNat)
  case atStart => exact ⟨0, [], by simp, by simp, _, 0, 0, rfl, rfl, own_empty _ _ _ _ rfl (Nat.le_refl _), below1 _ _⟩
  case round =>
    obtain ⟨j, D, rfl, hd, X, c, q, rfl, hq, ho, hb⟩ := hrel
    have HD := Lib.hid hd
    have HO := Lib.hid ho
    have HB := Lib.hid hb
    have HQ := Lib.hid hq
    have hDl : D.length ≤ 8 := by have := congrArg List.length hd; simp at this; omega
    have hq8 : q ≤ 8 := by omega
    have RX := Lib.hid ho.rb.1
    have hws : w.heap.size ≤ wr.heap.size := hb.size
    clear hd ho hb hq
    by_cases hz : N / 256 ^ j = 0
    · have HE : Hid (enc N = [UInt8.ofNat D.length] ++ D) := by
        show _ = _
        have : digits N = D := by rw [HD.out, hz, digits_zero]; rfl
        unfold enc; rw [this]; rfl
      rw [hz]
      have e0 : Hid (Value.int .u8 (q : Int) = vb (UInt8.ofNat D.length)) := by rw [HQ.out]; exact vb_ofNat D.length (by omega)
      clear hz
      go_wp2_with (first | (at_builtin; refine app0 _ rfl (.tmp 17) (.tmp 18) rfl l rfl _ m cap rfl HL.out (RB.below HR.out HB.out) (by omega) ?_; intro X1 c1 k1 w1 HK1 hk1 hk1' HO1 HB1 hs1) | (at_builtin; refine app1 _ rfl (.tmp 19) (.tmp 23) rfl wr.heap.size _ l (UInt8.ofNat D.length) _ rfl HO1.out rfl e0.out (by have := HL.out; omega) hs1 ?_; intro X2 c2 k2 w2 HK2 hk2 hk2' HO2 HA2 HB2 hs2) | (at_builtin; refine appB _ rfl (.tmp 24) (.tmp 25) rfl wr.heap.size _ (l ++ [UInt8.ofNat D.length]) D rfl HO2.out X q c rfl HQ.out.symm (RB.below RX.out (HB1.out.trans HB2.out)) (by have := HL.out; simp; omega) (by omega) ?_; intro X3 c3 k3 w3 HK3 hk3 hk3' HO3 HA3 HB3 hs3))
      go_ret
      refine ⟨X3, c3, k3, rfl, ?_, ?_, HB.out.trans ((HB1.out.trans (HB2.out.trans HB3.out)).mono hws)⟩
      · rw [HK3.out, HE.out, List.append_assoc]
      · rw [HE.out, ← List.append_assoc]; exact HO3.out.base hws
    · have hrl : N / 256 ^ j < 18446744073709551616 := by have := Nat.div_le_self N (256 ^ j); omega
      have HQ2 : Hid (N / 256 ^ j / 256 = N / 256 ^ (j + 1)) := by show _ = _; rw [Nat.div_div_eq_div_mul, ← Nat.pow_succ]
      have HS : Hid (digits (N / 256 ^ j) = digits (N / 256 ^ (j + 1)) ++ [UInt8.ofNat (N / 256 ^ j)]) := by show _ = _; rw [digits_step _ hrl hz, HQ2.out]
      have hr0 : 0 < N / 256 ^ j := Nat.pos_of_ne_zero hz
      generalize N / 256 ^ j = r at *
      have d0 : decide ((0 : Int) < (r : Int)) = true := by simp; omega
      have HV : Hid (Value.int .u8 ((r : Int) % 256) = vb (UInt8.ofNat r)) := by
        show _ = Value.int .u8 ((UInt8.ofNat r).toNat : Int)
        rw [UInt8.toNat_ofNat']; congr 1
      clear hz
      go_wp2_with (at_builtin; refine appB _ rfl (.tmp 12) (.tmp 13) rfl w.heap.size (.slice (some ⟨wr.heap.size, 0, none⟩) 1 1) [UInt8.ofNat r] D rfl (show OB _ _ _ _ by unfold OB; rw [HV.out]; exact own_one _ _ _ _ _ rfl hws) X q c rfl HQ.out.symm (RB.alloc RX.out _) (by simp; omega) (Nat.le_trans hws (by simp)) ?_; intro X1 c1 k1 w1 HK1 hk1 hk1' HO1 HA1 HB1 hs1)
      go_roundw
      case rel =>
        exact ⟨j + 1, [UInt8.ofNat r] ++ D, by rw [← HQ2.out]; go_num, by rw [HD.out, HS.out]; simp, X1, c1, k1, rfl, HK1.out, HO1.out, (HB.out.alloc HB.out.size _).trans HB1.out⟩
      case measure => simp [intOf]; omega
end Wi
end Go.Proofs.Ytddoepaplbnlcaa
