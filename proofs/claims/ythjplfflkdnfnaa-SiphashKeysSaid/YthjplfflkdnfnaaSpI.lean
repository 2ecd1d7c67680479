/- The walks of siphash.Number, its reference, and the law SiphashNumbers. -/
import Derived.Test.YthjplfflkdnfnaaSpH
namespace Go.Proofs.Ythjplfflkdnfnaa
open Go.RowKit
namespace Sp
open Sip

/-- the bytes of a number, the least significant first -/
def le (n k : Nat) : List UInt8 := (List.range k).map fun i => UInt8.ofNat (n / 256 ^ i)
theorem le_length (n k : Nat) : (le n k).length = k := by simp [le]
theorem le_succ (n k : Nat) : le n (k + 1) = le n k ++ [UInt8.ofNat (n / 256 ^ k)] := by simp [le, List.range_succ]
theorem byte_at (n q : Nat) : (Value.int .u8 ((n : Int) / 2 ^ (8 * q) % 256)) = vb (UInt8.ofNat (n / 256 ^ q)) := by
  show _ = Value.int .u8 ((UInt8.ofNat (n / 256 ^ q)).toNat : Int)
  rw [UInt8.toNat_ofNat', show 256 ^ q = 2 ^ (8 * q) by rw [Nat.pow_mul]]
  congr 1

/-- the array that is being filled -/
def arr (n k : Nat) : List Value := (le n k).map vb ++ List.replicate (8 - k) (.int .u8 0)
theorem arr_length (n k : Nat) (hk : k ≤ 8) : (arr n k).length = 8 := by simp [arr, le_length]; omega
theorem arr_set (n k : Nat) (hk : k < 8) : (arr n k).toArray.setIfInBounds k (vb (UInt8.ofNat (n / 256 ^ k))) = (arr n (k + 1)).toArray := by
  rw [List.setIfInBounds_toArray]
  congr 1
  unfold arr
  rw [List.set_append, if_neg (by simp [le_length]), le_succ, List.map_append]
  simp only [List.length_map, le_length, Nat.sub_self]
  obtain ⟨m, hm⟩ : ∃ m, 8 - k = m + 1 := ⟨7 - k, by omega⟩
  rw [hm, show 8 - (k + 1) = m by omega, List.replicate_succ]
  simp

set_option maxRecDepth 100000 in
set_option maxHeartbeats 1000000 in
theorem number_calls (k0 k1 x : BitVec 64) (w : World) :
    Calls Try.prog 21 #[key k0 k1, vw x] w fun e w' => e = .returned (vw (sum k0 k1 (le x.toNat 8))) ∧ Below w.heap.size w w' := by
  have hx := x.isLt
  obtain ⟨n, HX⟩ : ∃ n, Hid (n = x.toNat) := ⟨_, rfl⟩
  rw [← HX.out] at hx ⊢
  rw [show vw x = .int .u64 (n : Int) by rw [HX.out]]
  have hnx : n < 18446744073709551616 := by omega
  clear hx HX
  unfold key
  go_enter Try.func21, Try.ntmps21
  go_wp2_with fail
  have h0 : Hid (((w.alloc (.cells #[vw k0, vw k1] 26)).alloc (.cells #[.int .u8 0, .int .u8 0, .int .u8 0, .int .u8 0, .int .u8 0, .int .u8 0, .int .u8 0, .int .u8 0] 58)).heap[w.heap.size + 1]? = some (.cells (arr n 0).toArray 58 (0, 0))) := heap_alloc2_new _ _ _
  have hk : Hid (((w.alloc (.cells #[vw k0, vw k1] 26)).alloc (.cells #[.int .u8 0, .int .u8 0, .int .u8 0, .int .u8 0, .int .u8 0, .int .u8 0, .int .u8 0, .int .u8 0] 58)).heap[w.heap.size]? = some (.cells #[vw k0, vw k1] 26 (0, 0))) := (Below.heap_alloc _ _ _ (by simp)).trans (heap_alloc_new _ _)
  have hb := Lib.hid (below2 w (.cells #[vw k0, vw k1] 26) (.cells #[.int .u8 0, .int .u8 0, .int .u8 0, .int .u8 0, .int .u8 0, .int .u8 0, .int .u8 0, .int .u8 0] 58))
  generalize (w.alloc (.cells #[vw k0, vw k1] 26)).alloc (.cells #[.int .u8 0, .int .u8 0, .int .u8 0, .int .u8 0, .int .u8 0, .int .u8 0, .int .u8 0, .int .u8 0] 58) = w0 at *
  go_loopw [7] (fun i wr => ∃ k : Nat, k ≤ 8 ∧ i = .int .i64 k ∧ wr.heap[w.heap.size + 1]? = some (.cells (arr n k).toArray 58 (0, 0)) ∧ wr.heap[w.heap.size]? = some (.cells #[vw k0, vw k1] 26 (0, 0)) ∧ Below w.heap.size w wr) (fun i _ => 8 - (intOf i).toNat)
  case atStart => exact ⟨0, by omega, rfl, h0.out, hk.out, hb.out⟩
  case round =>
    obtain ⟨k, hk8, rfl, ha, hkk, hbb⟩ := hrel
    have HA := Lib.hid ha
    have HK := Lib.hid hkk
    have HB := Lib.hid hbb
    by_cases hlt : k < 8
    · have d0 : decide ((k : Int) < 8) = true := by simp; omega
      have i0 : (0 : Int) ≤ (k : Int) := by omega
      have hal : k < (arr n k).length := by rw [arr_length n k (by omega)]; exact hlt
      have c0 : wr.cell? ⟨w.heap.size + 1, k, none⟩ = some ((arr n k)[k]) := (cell_of_row _ _ k _ _ _ ha).trans (by simp [hal])
      have f0 : wr.frozen? ⟨w.heap.size + 1, k, none⟩ = false := frozen_of_row _ _ _ _ _ ha
      generalize (arr n k)[k] = old at *
      clear ha hkk hbb
      go_wp2_with fail
      rw [byte_at]
      have ha2 := heap_setCell_same wr (w.heap.size + 1) k _ _ (vb (UInt8.ofNat (n / 256 ^ k))) HA.out
      rw [arr_set n k hlt] at ha2
      have HA2 := Lib.hid ha2
      have HK2 := Lib.hid ((chg_set wr (w.heap.size + 1) k (vb (UInt8.ofNat (n / 256 ^ k)))).blk HK.out (by simp))
      have HB2 := Lib.hid (HB.out.setCell (p := ⟨w.heap.size + 1, k, none⟩) (by show w.heap.size ≤ w.heap.size + 1; omega) (vb (UInt8.ofNat (n / 256 ^ k))))
      clear ha2
      go_roundw
      case rel => exact ⟨k + 1, by omega, by go_num, HA2.out, HK2.out, HB2.out⟩
      case measure => simp [intOf]; omega
    · obtain rfl : k = 8 := by omega
      have m0 : wr.cell? ⟨w.heap.size, 0, none⟩ = some (vw k0) := (cell_of_row _ _ 0 _ _ _ hkk).trans rfl
      have m1 : wr.cell? ⟨w.heap.size, 1, none⟩ = some (vw k1) := (cell_of_row _ _ 1 _ _ _ hkk).trans rfl
      have hrd : RB wr (some ⟨w.heap.size + 1, 0, none⟩) (le n 8) := RB.mk fun i hi => by
        rw [Nat.zero_add, cell_of_row _ _ i _ _ _ ha]
        have : arr n 8 = (le n 8).map vb := by simp [arr]
        rw [this]; simp [hi]
      have HRd := Lib.hid hrd
      clear ha hkk hbb hrd
      go_wp2_with fail
      go_region_with (go_at_call 11; refine (sum_calls k0 k1 (some ⟨w.heap.size + 1, 0, none⟩) 8 8 (le n 8) wr.drew (le_length n 8) HRd.out (by omega)).mono ?_; rintro e w2 ⟨rfl, hb2⟩; have B2 := Lib.hid (HB.out.drew.trans (hb2.mono HB.out.size)); clear hb2)
      all_goals
        go_wp2_with fail
        go_ret
        exact ⟨rfl, B2.out⟩

set_option maxRecDepth 100000 in
set_option maxHeartbeats 1000000 in
theorem rnumber_calls (k0 k1 x : BitVec 64) (w : World) :
    Calls Try.prog 22 #[key k0 k1, vw x] w fun e w' => e = .returned (vw (sum k0 k1 (le x.toNat 8))) ∧ Below w.heap.size w w' := by
  have hx := x.isLt
  obtain ⟨n, HX⟩ : ∃ n, Hid (n = x.toNat) := ⟨_, rfl⟩
  rw [← HX.out] at hx ⊢
  rw [show vw x = .int .u64 (n : Int) by rw [HX.out]]
  have hnx : n < 18446744073709551616 := by omega
  clear hx HX
  unfold key
  go_enter Try.func22, Try.ntmps22
  go_wp2_with fail
  have hk : Hid (((w.alloc (.cells #[vw k0, vw k1] 26)).alloc (.cells #[] 5)).heap[w.heap.size]? = some (.cells #[vw k0, vw k1] 26 (0, 0))) := (Below.heap_alloc _ _ _ (by simp)).trans (heap_alloc_new _ _)
  go_loopw [5, 6] (fun v i wr => ∃ k : Nat, k ≤ 8 ∧ i = .int .i64 k ∧ ∃ X c, v = .slice X (le n k).length c ∧ wr.ownsRow (w.heap.size + 1) 5 1 (.slice X (le n k).length c) (le n k).length ((le n k).map vb) ∧ wr.heap[w.heap.size]? = some (.cells #[vw k0, vw k1] 26 (0, 0)) ∧ Below w.heap.size w wr) (fun _ i _ => 8 - (intOf i).toNat)
  case atStart => exact ⟨0, by omega, rfl, _, 0, rfl, own_empty _ _ _ _ (by simp) (by simp), hk.out, below2 _ _ _⟩
  case round =>
    obtain ⟨k, hk8, rfl, X, c, rfl, hown, hkk, hbb⟩ := hrel
    have HO := Lib.hid hown
    have HK := Lib.hid hkk
    have HB := Lib.hid hbb
    have hsw : w.heap.size < wr.heap.size := (Array.getElem?_eq_some_iff.1 hkk).1
    have hll : (le n k).length ≤ 8 := by rw [le_length]; exact hk8
    by_cases hlt : k < 8
    · have d0 : decide ((k : Int) < 8) = true := by simp; omega
      have HE := Lib.hid (le_succ n k)
      clear hown hkk hbb
      generalize le n k = xs at *
      go_wp2_with (at_builtin; refine wpList_apps _ rfl (.tmp 12) (.tmp 18) 23 rfl (w.heap.size + 1) 5 (.int .u8 0) 1 Try.underlying23 info_u8 rfl _ xs.length (xs.map vb) rfl (HO.out.alloc _) (some ⟨wr.heap.size, 0, none⟩) 1 1 [.int .u8 ((n : Int) / 2 ^ (8 * k) % 256)] rfl rfl (Rd.one wr _ _) (by simp [Value.oneCell']) (by simp only [maxLen]; omega) (by omega) (Nat.le_trans hsw (by simp)) ?_; intro X' c' w1 hown1 happ1; have HO1 := Lib.hid hown1; have HA1 := Lib.hid happ1; clear hown1 happ1)
      go_roundw
      case rel =>
        refine ⟨k + 1, by omega, by go_num, ?_⟩
        rw [HE.out]
        have hl : (xs ++ [UInt8.ofNat (n / 256 ^ k)]).length = xs.length + 1 := by simp
        have hbb := HA1.out.below (HO.out.alloc _) (Nat.le_trans hsw (by simp))
        refine ⟨X', c', by rw [hl], ?_, ?_, ?_⟩
        · have h := HO1.out
          rw [byte_at] at h
          rw [hl, List.map_append]; exact h
        · exact (hbb.block _ (by omega)).trans ((Below.heap_alloc _ _ _ (by omega)).trans HK.out)
        · exact (HB.out.alloc HB.out.size _).trans (hbb.mono (by omega))
      case measure => simp [intOf]; omega
    · obtain rfl : k = 8 := by omega
      have m0 : wr.cell? ⟨w.heap.size, 0, none⟩ = some (vw k0) := (cell_of_row _ _ 0 _ _ _ hkk).trans rfl
      have m1 : wr.cell? ⟨w.heap.size, 1, none⟩ = some (vw k1) := (cell_of_row _ _ 1 _ _ _ hkk).trans rfl
      obtain ⟨_, _, eX, _, _, _, rX⟩ := own_form hown
      cases eX
      have RX := Lib.hid rX
      have HS := Lib.hid (sum_eq k0 k1 (le n 8))
      clear hown hkk hbb rX
      have h8 : (le n 8).length = 8 := le_length n 8
      rw [h8]
      have H8 := Lib.hid h8
      clear h8 hll HO
      go_wp2_with fail
      refine (rsum_calls k0 k1 X 8 c (le n 8) wr H8.out RX.out (by omega)).mono ?_
      rintro e w2 ⟨rfl, hb2⟩
      rw [← HS.out]
      have B2 := Lib.hid (HB.out.trans (hb2.mono HB.out.size))
      clear hb2
      go_wp2_with fail
      go_ret
      exact ⟨rfl, B2.out⟩

theorem u8v (a : Int) (m : Nat) (h : a = ((m % 256 : Nat) : Int)) : Value.int .u8 a = vb (UInt8.ofNat m) := by
  show _ = Value.int .u8 ((UInt8.ofNat m).toNat : Int)
  rw [UInt8.toNat_ofNat', h]

set_option maxRecDepth 100000 in
set_option maxHeartbeats 1000000 in
theorem numbers_law (w : World) (k0 k1 x : BitVec 64) :
    Calls Try.prog 9 #[vw k0, vw k1, vw x] w fun e w' => e = .returned (.bool true) ∧ Below w.heap.size w w' := by
  have hx := x.isLt
  have HP := fun w' => Lib.hid (number_calls k0 k1 x w')
  have HQ := fun w' => Lib.hid (rnumber_calls k0 k1 x w')
  obtain ⟨n, HX⟩ : ∃ n, Hid (n = x.toNat) := ⟨_, rfl⟩
  rw [← HX.out] at hx
  simp only [← HX.out] at HP HQ
  have hvx : vw x = .int .u64 (n : Int) := by rw [HX.out]
  rw [hvx]
  simp only [hvx] at HP HQ
  have hnx : n < 18446744073709551616 := by omega
  clear hx HX hvx
  have HCells : Hid ([.int .u8 ((n : Int) % 256), .int .u8 ((n : Int) / 256 % 256), .int .u8 ((n : Int) / 65536 % 256), .int .u8 ((n : Int) / 16777216 % 256), .int .u8 ((n : Int) / 4294967296 % 256), .int .u8 ((n : Int) / 1099511627776 % 256), .int .u8 ((n : Int) / 281474976710656 % 256), .int .u8 ((n : Int) / 72057594037927936)] = (le n 8).map vb) := by
    show _ = _
    rw [u8v ((n : Int) % 256) (n / 256 ^ 0) (by omega), u8v ((n : Int) / 256 % 256) (n / 256 ^ 1) (by omega), u8v ((n : Int) / 65536 % 256) (n / 256 ^ 2) (by omega), u8v ((n : Int) / 16777216 % 256) (n / 256 ^ 3) (by omega), u8v ((n : Int) / 4294967296 % 256) (n / 256 ^ 4) (by omega), u8v ((n : Int) / 1099511627776 % 256) (n / 256 ^ 5) (by omega), u8v ((n : Int) / 281474976710656 % 256) (n / 256 ^ 6) (by omega), u8v ((n : Int) / 72057594037927936) (n / 256 ^ 7) (by omega)]
    rfl
  have HL8 := Lib.hid (le_length n 8)
  unfold key at HP HQ
  have HS := fun w' X (hr : RB w' X (le n 8)) => Lib.hid (sum_calls k0 k1 X 8 8 (le n 8) w' HL8.out hr (by omega))
  unfold key at HS
  generalize sum k0 k1 (le n 8) = y at *
  go_enter Try.func9, Try.ntmps9
  go_wp2_with fail; refine (awake_calls w).mono ?_; rintro e w1 ⟨rfl, hb⟩; have B1 := Lib.hid hb; clear hb; go_wp2_with fail
  have hk := (Below.heap_alloc (w1.alloc (.cells #[vw k0, vw k1] 26)) (.cells #[.int .u8 ((n : Int) % 256), .int .u8 ((n : Int) / 256 % 256), .int .u8 ((n : Int) / 65536 % 256), .int .u8 ((n : Int) / 16777216 % 256), .int .u8 ((n : Int) / 4294967296 % 256), .int .u8 ((n : Int) / 1099511627776 % 256), .int .u8 ((n : Int) / 281474976710656 % 256), .int .u8 ((n : Int) / 72057594037927936)] 5) _ (by simp)).trans (heap_alloc_new w1 (.cells #[vw k0, vw k1] 26))
  have hrd := Rd.new (w1.alloc (.cells #[vw k0, vw k1] 26)) [.int .u8 ((n : Int) % 256), .int .u8 ((n : Int) / 256 % 256), .int .u8 ((n : Int) / 65536 % 256), .int .u8 ((n : Int) / 16777216 % 256), .int .u8 ((n : Int) / 4294967296 % 256), .int .u8 ((n : Int) / 1099511627776 % 256), .int .u8 ((n : Int) / 281474976710656 % 256), .int .u8 ((n : Int) / 72057594037927936)] 5 (0, 0)
  rw [HCells.out] at hrd
  have hsz : (w1.alloc (.cells #[vw k0, vw k1] 26)).heap.size = w1.heap.size + 1 := by simp
  rw [hsz, ← HCells.out] at hrd
  have B2 := Lib.hid (B1.out.trans ((below2 w1 (.cells #[vw k0, vw k1] 26) (.cells #[.int .u8 ((n : Int) % 256), .int .u8 ((n : Int) / 256 % 256), .int .u8 ((n : Int) / 65536 % 256), .int .u8 ((n : Int) / 16777216 % 256), .int .u8 ((n : Int) / 4294967296 % 256), .int .u8 ((n : Int) / 1099511627776 % 256), .int .u8 ((n : Int) / 281474976710656 % 256), .int .u8 ((n : Int) / 72057594037927936)] 5)).mono B1.out.size))
  have hrd' : Rd ((w1.alloc (.cells #[vw k0, vw k1] 26)).alloc (.cells #[.int .u8 ((n : Int) % 256), .int .u8 ((n : Int) / 256 % 256), .int .u8 ((n : Int) / 65536 % 256), .int .u8 ((n : Int) / 16777216 % 256), .int .u8 ((n : Int) / 4294967296 % 256), .int .u8 ((n : Int) / 1099511627776 % 256), .int .u8 ((n : Int) / 281474976710656 % 256), .int .u8 ((n : Int) / 72057594037927936)] 5)) (some ⟨w1.heap.size + 1, 0, none⟩) [.int .u8 ((n : Int) % 256), .int .u8 ((n : Int) / 256 % 256), .int .u8 ((n : Int) / 65536 % 256), .int .u8 ((n : Int) / 16777216 % 256), .int .u8 ((n : Int) / 4294967296 % 256), .int .u8 ((n : Int) / 1099511627776 % 256), .int .u8 ((n : Int) / 281474976710656 % 256), .int .u8 ((n : Int) / 72057594037927936)] := hrd
  clear hrd
  generalize (w1.alloc (.cells #[vw k0, vw k1] 26)).alloc (.cells #[.int .u8 ((n : Int) % 256), .int .u8 ((n : Int) / 256 % 256), .int .u8 ((n : Int) / 65536 % 256), .int .u8 ((n : Int) / 16777216 % 256), .int .u8 ((n : Int) / 4294967296 % 256), .int .u8 ((n : Int) / 1099511627776 % 256), .int .u8 ((n : Int) / 281474976710656 % 256), .int .u8 ((n : Int) / 72057594037927936)] 5) = w2 at *
  rw [HCells.out] at hrd'
  have R2 : Hid (RB w2 (some ⟨w1.heap.size + 1, 0, none⟩) (le n 8)) := hrd'
  have K2 := Lib.hid hk
  have hs2 : w1.heap.size < w2.heap.size := (Array.getElem?_eq_some_iff.1 hk).1
  clear hk hrd' hsz
  refine (HP w2).out.mono ?_
  rintro e w3 ⟨rfl, hb⟩
  have K3 := Lib.hid ((hb.block _ hs2).trans K2.out)
  have R3 := Lib.hid (RB.below R2.out hb)
  have B3 := Lib.hid (B2.out.trans (hb.mono B2.out.size))
  have hs3 : w1.heap.size < w3.heap.size := by have := hb.size; omega
  have m0 : w3.cell? ⟨w1.heap.size, 0, none⟩ = some (vw k0) := (cell_of_row _ _ 0 _ _ _ K3.out).trans rfl
  have m1 : w3.cell? ⟨w1.heap.size, 1, none⟩ = some (vw k1) := (cell_of_row _ _ 1 _ _ _ K3.out).trans rfl
  clear hb K2 R2 B2 HCells
  go_wp2_with fail
  refine (HQ w3).out.mono ?_
  rintro e w4 ⟨rfl, hb⟩
  have K4 := Lib.hid ((hb.block _ hs3).trans K3.out)
  have R4 := Lib.hid (RB.below R3.out hb)
  have B4 := Lib.hid (B3.out.trans (hb.mono B3.out.size))
  clear hb m0 m1
  have m0 : w4.cell? ⟨w1.heap.size, 0, none⟩ = some (vw k0) := (cell_of_row _ _ 0 _ _ _ K4.out).trans rfl
  have m1 : w4.cell? ⟨w1.heap.size, 1, none⟩ = some (vw k1) := (cell_of_row _ _ 1 _ _ _ K4.out).trans rfl
  go_wp2_with fail
  refine (HS w4 _ R4.out).out.mono ?_
  rintro e w5 ⟨rfl, hb⟩
  have B5 := Lib.hid (B4.out.trans (hb.mono B4.out.size))
  clear hb m0 m1
  go_wp2_with fail
  go_ret
  exact ⟨rfl, B5.out⟩
end Sp
end Go.Proofs.Ythjplfflkdnfnaa
