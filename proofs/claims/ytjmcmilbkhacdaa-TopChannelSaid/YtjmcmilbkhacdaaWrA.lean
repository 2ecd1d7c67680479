/- The walks of wire's append functions. -/
import Derived.Test.YtjmcmilbkhacdaaRows
import Derived.Test.YtjmcmilbkhacdaaMem
import Derived.Test.YtjmcmilbkhacdaaCut
import Derived.Test.YtjmcmilbkhacdaaWr
import Derived.Outline
import Derived.WalkLawsBesides
import Derived.WalkSpells
import Derived.Deep.DeepFit
import Derived.Deep.WholeRow
import Derived.Deep.QuietTactic
import Derived.BigQuiet
import Derived.Deep.RegionHeld3
import Derived.Deep.RegionWith
import Derived.Deep.DrawnRows
import Derived.Deep.DeepCutAuto
import Derived.Deep.CutRange
import Derived.Deep.DeepMust
namespace Go.Proofs.Ytjmcmilbkhacdaa
open Go.RowKit
namespace Wi
open Wr

theorem info_u8 : (Try.prog.info? 5).map (fun i => (i.zero, i.size, i.bytes)) = some (some (.int .u8 0), 1, 1) := by kernel_rfl

/-- the slice v0 of world w, with the bytes l, was extended to these bytes -/
def Ext (w : World) (B : Nat) (v0 : Value) (l : List UInt8) (v : Value) (w' : World) : Prop :=
  ∃ X c, v = .slice X l.length c ∧ w'.ownsRow B 5 1 (.slice X l.length c) l.length (l.map vb) ∧ App w v0 w' (.slice X l.length c)
def ExtPost (w : World) (B : Nat) (v0 : Value) (l : List UInt8) (e : Ending) (w' : World) : Prop := ∃ v, e = .returned v ∧ Ext w B v0 l v w'

theorem Ext.size {w w' : World} {B : Nat} {v0 v : Value} {l : List UInt8} (h : Ext w B v0 l v w') : w.heap.size ≤ w'.heap.size := by
  obtain ⟨_, _, _, _, ha⟩ := h; exact ha.size

theorem vb_ofNat (k : Nat) (h : k < 256) : (Value.int .u8 (k : Int)) = vb (UInt8.ofNat k) := by
  show _ = Value.int .u8 ((UInt8.ofNat k).toNat : Int)
  rw [UInt8.toNat_ofNat', Nat.mod_eq_of_lt (by omega)]

theorem byte_at (n q : Nat) : (Value.int .u8 ((n : Int) / 2 ^ (8 * q) % 256)) = vb (UInt8.ofNat (n / 256 ^ q)) := by
  show _ = Value.int .u8 ((UInt8.ofNat (n / 256 ^ q)).toNat : Int)
  rw [UInt8.toNat_ofNat', show 256 ^ q = 2 ^ (8 * q) by rw [Nat.pow_mul]]
  congr 1

set_option maxRecDepth 100000 in
set_option maxHeartbeats 1000000 in
theorem appendUint_calls (B : Nat) (v0 : Value) (l : List UInt8) (x : BitVec 64) (w : World) (ho : Ext w B v0 l v0 w) (hl : l.length ≤ 1000000) (hB : B ≤ w.heap.size) :
    Calls Try.prog 34 #[v0, vw x] w (ExtPost w B v0 (l ++ enc x.toNat)) := by
  have hx := x.isLt
  obtain ⟨n, HX⟩ : ∃ n, Hid (n = x.toNat) := ⟨_, rfl⟩
  rw [← HX.out] at hx ⊢
  have HE : Hid (enc n = UInt8.ofNat (digits n).length :: digits n) := rfl
  have h8 := digits_len_le n
  obtain ⟨X0, c0, e0, ho, _⟩ := ho
  have HO := Lib.hid ho
  have HV := Lib.hid e0
  subst e0
  clear ho
  have hvx : vw x = .int .u64 (n : Int) := by rw [HX.out]
  rw [hvx]
  clear hvx HV
  have hnx : n < 18446744073709551616 := by omega
  clear hx HX
  go_enter Try.func34, Try.ntmps34
  go_wp2_with fail
  go_loop [5, 6] (fun k r => ∃ j : Nat, k = .int .i64 j ∧ r = .int .u64 ((n / 256 ^ j : Nat) : Int) ∧ (digits n).length = j + (digits (n / 256 ^ j)).length) (fun _ r => (intOf r).toNat)
  case atStart => exact ⟨0, rfl, by simp, by simp⟩
  case round =>
    obtain ⟨j, rfl, rfl, hd⟩ := hrel
    have HD := Lib.hid hd
    have hj8 : j ≤ 8 := by omega
    clear hd
    by_cases hz : n / 256 ^ j = 0
    · have HK : Hid ((digits n).length = j) := by show _ = _; rw [HD.out, hz, digits_zero]; simp
      rw [hz]
      have hk8 : (digits n).length ≤ 8 := h8
      generalize hK : (digits n).length = K at *
      have HKj : Hid (K = j) := HK.out
      obtain rfl : j = K := HKj.out.symm
      have HKn := Lib.hid hK
      clear HKj HK HD hz hK
      go_wp2_with (at_builtin; refine wpList_apps _ rfl (.tmp 15) (.tmp 18) 32 rfl B 5 (.int .u8 0) 1 Try.underlying32 info_u8 rfl _ l.length (l.map vb) rfl (HO.out.alloc _) (some ⟨w.heap.size, 0, none⟩) 1 1 [.int .u8 (j : Int)] rfl rfl (Rd.one w _ _) (by simp [Value.oneCell']) (by simp only [maxLen]; omega) (by omega) (Nat.le_trans hB (by simp)) ?_; intro X' c' w1 hown1 happ1; have HO1 := Lib.hid hown1; have HA1 := Lib.hid happ1; clear hown1 happ1)
      have HW1 : Hid (Ext w B (.slice X0 l.length c0) (l ++ [UInt8.ofNat j] ++ (digits n).take 0) (.slice X' (l.length + 1) c') w1) := by
        have hl1 : (l ++ [UInt8.ofNat j] ++ (digits n).take 0).length = l.length + 1 := by simp
        refine ⟨X', c', by rw [hl1], ?_, ?_⟩
        · have h := HO1.out
          rw [vb_ofNat j (by omega)] at h
          rw [hl1]; simpa using h
        · rw [hl1]; exact HA1.out.alloc_left
      have hw1 : w.heap.size ≤ w1.heap.size := by have := HA1.out.size; simp at this; omega
      clear HO1 HA1 HO
      generalize Value.slice X0 l.length c0 = v0 at *
      go_loopw [0, 7] (fun v i wr => ∃ p : Nat, p ≤ j ∧ i = .int .i64 ((j : Int) - 1 - p) ∧ Ext w B v0 (l ++ [UInt8.ofNat j] ++ (digits n).take p) v wr) (fun _ i _ => (intOf i + 1).toNat)
      case atStart => exact ⟨0, Nat.zero_le _, by simp, HW1.out⟩
      case round =>
        obtain ⟨p, hp, rfl, X, c, rfl, hown, happ⟩ := hrel
        have HO := Lib.hid hown
        have HA := Lib.hid happ
        clear hown happ
        have hll : (l ++ [UInt8.ofNat j] ++ (digits n).take p).length ≤ 1000009 := by simp; omega
        by_cases hlt : p < j
        · obtain ⟨q, HQ⟩ : ∃ q : Nat, Hid (q = j - 1 - p) := ⟨_, rfl⟩
          have hq : (j : Int) - 1 - (p : Int) = (q : Int) := by rw [HQ.out]; omega
          have hq8 : q ≤ 7 := by rw [HQ.out]; omega
          have hpl : p < (digits n).length := by rw [HKn.out]; exact hlt
          have HT : Hid (l ++ [UInt8.ofNat j] ++ (digits n).take (p + 1) = l ++ [UInt8.ofNat j] ++ (digits n).take p ++ [UInt8.ofNat (n / 256 ^ q)]) := by
            show _ = _
            rw [List.take_succ_eq_append_getElem hpl, digits_at n p hpl, HKn.out, HQ.out]; simp
          rw [hq]
          generalize l ++ [UInt8.ofNat j] ++ (digits n).take p = xs at *
          go_wp2_with (at_builtin; refine wpList_apps _ rfl (.tmp 26) (.tmp 32) 32 rfl B 5 (.int .u8 0) 1 Try.underlying32 info_u8 rfl _ xs.length (xs.map vb) rfl (HO.out.alloc _) (some ⟨wr.heap.size, 0, none⟩) 1 1 [.int .u8 ((n : Int) / 2 ^ (8 * q) % 256)] rfl rfl (Rd.one wr _ _) (by simp [Value.oneCell']) (by simp only [maxLen]; omega) (by omega) (Nat.le_trans (Nat.le_trans hB HA.out.size) (by simp)) ?_; intro X2 c2 w2 hown2 happ2; have HO2 := Lib.hid hown2; have HA2 := Lib.hid happ2; clear hown2 happ2)
          go_roundw
          case rel =>
            refine ⟨p + 1, by omega, by rw [show (q : Int) - 1 = (j : Int) - 1 - ((p + 1 : Nat) : Int) by rw [← hq]; omega], ?_⟩
            rw [HT.out]
            have hl1 : (xs ++ [UInt8.ofNat (n / 256 ^ q)]).length = xs.length + 1 := by simp
            refine ⟨X2, c2, by rw [hl1], ?_, ?_⟩
            · have h := HO2.out
              rw [byte_at] at h
              rw [hl1, List.map_append]; exact h
            · rw [hl1]; exact HA.out.trans HA2.out.alloc_left
          case measure => simp [intOf]
        · have HF : Hid (l ++ [UInt8.ofNat j] ++ (digits n).take p = l ++ enc n) := by
            show _ = _
            rw [HE.out, List.take_of_length_le (by rw [HKn.out]; omega)]; simp
          have hp1 : (j : Int) - 1 - (p : Int) = -1 := by omega
          rw [hp1]
          generalize l ++ [UInt8.ofNat j] ++ (digits n).take p = xs at *
          go_wp2_with fail
          go_ret
          rw [← HF.out]
          exact ⟨_, rfl, X, c, rfl, HO.out, HA.out⟩
    · have HC := Lib.hid (digits_count n j hnx hz)
      have HQ : Hid (n / 256 ^ j / 256 = n / 256 ^ (j + 1)) := by show _ = _; rw [Nat.div_div_eq_div_mul, ← Nat.pow_succ]
      have hr : n / 256 ^ j < 18446744073709551616 := by have := Nat.div_le_self n (256 ^ j); omega
      have hr0 : 0 < n / 256 ^ j := Nat.pos_of_ne_zero hz
      generalize n / 256 ^ j = r at *
      have d0 : decide ((0 : Int) < (r : Int)) = true := by simp; omega
      go_wp2_with fail
      go_round
      case rel => exact ⟨j + 1, by go_num, by rw [← HQ.out]; go_num, by rw [HD.out, HC.out]; omega⟩
      case measure => simp [intOf]; omega
end Wi
end Go.Proofs.Ytjmcmilbkhacdaa
