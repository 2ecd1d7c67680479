/- The walks of siphash.Number and its reference. -/
import Derived.Test.YtnmgapokamkhpaaSpE
namespace Go.Proofs.Ytnmgapokamkhpaa
open Go.RowKit
namespace Sp
open Sip

theorem info_u8n : (Try.prog.info? 5).map (fun i => (i.zero, i.size, i.bytes)) = some (some (.int .u8 0), 1, 1) := by kernel_rfl
/-- the bytes of a number, the least significant first -/
def le (n k : Nat) : List UInt8 := (List.range k).map fun i => UInt8.ofNat (n / 256 ^ i)
theorem le_length (n k : Nat) : (le n k).length = k := by simp [le]
theorem le_succ (n k : Nat) : le n (k + 1) = le n k ++ [UInt8.ofNat (n / 256 ^ k)] := by simp [le, List.range_succ]
theorem byte_at (n q : Nat) : (Value.int .u8 ((n : Int) / 2 ^ (8 * q) % 256)) = vb (UInt8.ofNat (n / 256 ^ q)) := by
  show _ = Value.int .u8 ((UInt8.ofNat (n / 256 ^ q)).toNat : Int)
  rw [UInt8.toNat_ofNat', show 256 ^ q = 2 ^ (8 * q) by rw [Nat.pow_mul]]
  congr 1

/-- the array that is being filled -/
def arr (n k : Nat) : List Value := (le n k).map vb ++ List.replicate (8 - k) (.int .u8 0)
theorem arr_length (n k : Nat) (hk : k ≤ 8) : (arr n k).length = 8 := by simp [arr, le_length]; omega
theorem arr_set (n k : Nat) (hk : k < 8) : (arr n k).toArray.setIfInBounds k (vb (UInt8.ofNat (n / 256 ^ k))) = (arr n (k + 1)).toArray := by
  rw [List.setIfInBounds_toArray]
  congr 1
  unfold arr
  rw [List.set_append, if_neg (by simp [le_length]), le_succ, List.map_append]
  simp only [List.length_map, le_length, Nat.sub_self]
  obtain ⟨m, hm⟩ : ∃ m, 8 - k = m + 1 := ⟨7 - k, by omega⟩
  rw [hm, show 8 - (k + 1) = m by omega, List.replicate_succ]
  simp

set_option maxRecDepth 100000 in
set_option maxHeartbeats 1000000 in
theorem number_calls (k0 k1 x : BitVec 64) (w : World) :
    Calls Try.prog 27 #[key k0 k1, vw x] w fun e w' => e = .returned (vw (sum k0 k1 (le x.toNat 8))) ∧ Below w.heap.size w w' := by
  have hx := x.isLt
  obtain ⟨n, HX⟩ : ∃ n, Hid (n = x.toNat) := ⟨_, rfl⟩
  rw [← HX.out] at hx ⊢
  rw [show vw x = .int .u64 (n : Int) by rw [HX.out]]
  have hnx : n < 18446744073709551616 := by omega
  clear hx HX
  unfold key
  go_enter Try.func27, Try.ntmps27
  go_wp2_with fail
  have h0 : Hid (((w.alloc (.cells #[vw k0, vw k1] 24)).alloc (.cells #[.int .u8 0, .int .u8 0, .int .u8 0, .int .u8 0, .int .u8 0, .int .u8 0, .int .u8 0, .int .u8 0] 71)).heap[w.heap.size + 1]? = some (.cells (arr n 0).toArray 71 (0, 0))) := heap_alloc2_new _ _ _
  have hk : Hid (((w.alloc (.cells #[vw k0, vw k1] 24)).alloc (.cells #[.int .u8 0, .int .u8 0, .int .u8 0, .int .u8 0, .int .u8 0, .int .u8 0, .int .u8 0, .int .u8 0] 71)).heap[w.heap.size]? = some (.cells #[vw k0, vw k1] 24 (0, 0))) := (Below.heap_alloc _ _ _ (by simp)).trans (heap_alloc_new _ _)
  have hb := Lib.hid (below2 w (.cells #[vw k0, vw k1] 24) (.cells #[.int .u8 0, .int .u8 0, .int .u8 0, .int .u8 0, .int .u8 0, .int .u8 0, .int .u8 0, .int .u8 0] 71))
  generalize (w.alloc (.cells #[vw k0, vw k1] 24)).alloc (.cells #[.int .u8 0, .int .u8 0, .int .u8 0, .int .u8 0, .int .u8 0, .int .u8 0, .int .u8 0, .int .u8 0] 71) = w0 at *
  go_loopw [7] (fun i wr => ∃ k : Nat, k ≤ 8 ∧ i = .int .i64 k ∧ wr.heap[w.heap.size + 1]? = some (.cells (arr n k).toArray 71 (0, 0)) ∧ wr.heap[w.heap.size]? = some (.cells #[vw k0, vw k1] 24 (0, 0)) ∧ Below w.heap.size w wr) (fun i _ => 8 - (intOf i).toNat)
  case atStart => exact ⟨0, by omega, rfl, h0.out, hk.out, hb.out⟩
  case round =>
    obtain ⟨k, hk8, rfl, ha, hkk, hbb⟩ := hrel
    have HA := Lib.hid ha
    have HK := Lib.hid hkk
    have HB := Lib.hid hbb
    by_cases hlt : k < 8
    · have d0 : decide ((k : Int) < 8) = true := by simp; omega
      have i0 : (0 : Int) ≤ (k : Int) := by omega
      have hal : k < (arr n k).length := by rw [arr_length n k (by omega)]; exact hlt
      have c0 : wr.cell? ⟨w.heap.size + 1, k, none⟩ = some ((arr n k)[k]) := (cell_of_row _ _ k _ _ _ ha).trans (by simp [hal])
      have f0 : wr.frozen? ⟨w.heap.size + 1, k, none⟩ = false := frozen_of_row _ _ _ _ _ ha
      generalize (arr n k)[k] = old at *
      clear ha hkk hbb
      go_wp2_with fail
      rw [byte_at]
      have ha2 := heap_setCell_same wr (w.heap.size + 1) k _ _ (vb (UInt8.ofNat (n / 256 ^ k))) HA.out
      rw [arr_set n k hlt] at ha2
      have HA2 := Lib.hid ha2
      have HK2 := Lib.hid ((chg_set wr (w.heap.size + 1) k (vb (UInt8.ofNat (n / 256 ^ k)))).blk HK.out (by simp))
      have HB2 := Lib.hid (HB.out.setCell (p := ⟨w.heap.size + 1, k, none⟩) (by show w.heap.size ≤ w.heap.size + 1; omega) (vb (UInt8.ofNat (n / 256 ^ k))))
      clear ha2
      go_roundw
      case rel => exact ⟨k + 1, by omega, by go_num, HA2.out, HK2.out, HB2.out⟩
      case measure => simp [intOf]; omega
    · obtain rfl : k = 8 := by omega
      have m0 : wr.cell? ⟨w.heap.size, 0, none⟩ = some (vw k0) := (cell_of_row _ _ 0 _ _ _ hkk).trans rfl
      have m1 : wr.cell? ⟨w.heap.size, 1, none⟩ = some (vw k1) := (cell_of_row _ _ 1 _ _ _ hkk).trans rfl
      have hrd : RB wr (some ⟨w.heap.size + 1, 0, none⟩) (le n 8) := RB.mk fun i hi => by
        rw [Nat.zero_add, cell_of_row _ _ i _ _ _ ha]
        have : arr n 8 = (le n 8).map vb := by simp [arr]
        rw [this]; simp [hi]
      have HRd := Lib.hid hrd
      clear ha hkk hbb hrd
      go_wp2_with fail
      go_region_with (go_at_call 35; refine (sum_calls k0 k1 (some ⟨w.heap.size + 1, 0, none⟩) 8 8 (le n 8) wr.drew (le_length n 8) HRd.out (by omega)).mono ?_; rintro e w2 ⟨rfl, hb2⟩; have B2 := Lib.hid (HB.out.drew.trans (hb2.mono HB.out.size)); clear hb2)
      all_goals
        go_wp2_with fail
        go_ret
        exact ⟨rfl, B2.out⟩

set_option maxRecDepth 100000 in
set_option maxHeartbeats 1000000 in
theorem rnumber_calls (k0 k1 x : BitVec 64) (w : World) :
    Calls Try.prog 19 #[key k0 k1, vw x] w fun e w' => e = .returned (vw (sum k0 k1 (le x.toNat 8))) ∧ Below w.heap.size w w' := by
  have hx := x.isLt
  obtain ⟨n, HX⟩ : ∃ n, Hid (n = x.toNat) := ⟨_, rfl⟩
  rw [← HX.out] at hx ⊢
  rw [show vw x = .int .u64 (n : Int) by rw [HX.out]]
  have hnx : n < 18446744073709551616 := by omega
  clear hx HX
  unfold key
  go_enter Try.func19, Try.ntmps19
  go_wp2_with fail
  have hk : Hid (((w.alloc (.cells #[vw k0, vw k1] 24)).alloc (.cells #[] 5)).heap[w.heap.size]? = some (.cells #[vw k0, vw k1] 24 (0, 0))) := (Below.heap_alloc _ _ _ (by simp)).trans (heap_alloc_new _ _)
  go_loopw [5, 6] (fun v i wr => ∃ k : Nat, k ≤ 8 ∧ i = .int .i64 k ∧ ∃ X c, v = .slice X (le n k).length c ∧ wr.ownsRow (w.heap.size + 1) 5 1 (.slice X (le n k).length c) (le n k).length ((le n k).map vb) ∧ wr.heap[w.heap.size]? = some (.cells #[vw k0, vw k1] 24 (0, 0)) ∧ Below w.heap.size w wr) (fun _ i _ => 8 - (intOf i).toNat)
  case atStart => exact ⟨0, by omega, rfl, _, 0, rfl, own_empty _ _ _ _ (by simp) (by simp), hk.out, below2 _ _ _⟩
  case round =>
    obtain ⟨k, hk8, rfl, X, c, rfl, hown, hkk, hbb⟩ := hrel
    have HO := Lib.hid hown
    have HK := Lib.hid hkk
    have HB := Lib.hid hbb
    have hsw : w.heap.size < wr.heap.size := (Array.getElem?_eq_some_iff.1 hkk).1
    have hll : (le n k).length ≤ 8 := by rw [le_length]; exact hk8
    by_cases hlt : k < 8
    · have d0 : decide ((k : Int) < 8) = true := by simp; omega
      have HE := Lib.hid (le_succ n k)
      clear hown hkk hbb
      generalize le n k = xs at *
      go_wp2_with (at_builtin; refine wpList_apps _ rfl (.tmp 12) (.tmp 18) 36 rfl (w.heap.size + 1) 5 (.int .u8 0) 1 Try.underlying36 info_u8n rfl _ xs.length (xs.map vb) rfl (HO.out.alloc _) (some ⟨wr.heap.size, 0, none⟩) 1 1 [.int .u8 ((n : Int) / 2 ^ (8 * k) % 256)] rfl rfl (Rd.one wr _ _) (by simp [Value.oneCell']) (by simp only [maxLen]; omega) (by omega) (Nat.le_trans hsw (by simp)) ?_; intro X' c' w1 hown1 happ1; have HO1 := Lib.hid hown1; have HA1 := Lib.hid happ1; clear hown1 happ1)
      go_roundw
      case rel =>
        refine ⟨k + 1, by omega, by go_num, ?_⟩
        rw [HE.out]
        have hl : (xs ++ [UInt8.ofNat (n / 256 ^ k)]).length = xs.length + 1 := by simp
        have hbb := HA1.out.below (HO.out.alloc _) (Nat.le_trans hsw (by simp))
        refine ⟨X', c', by rw [hl], ?_, ?_, ?_⟩
        · have h := HO1.out
          rw [byte_at] at h
          rw [hl, List.map_append]; exact h
        · exact (hbb.block _ (by omega)).trans ((Below.heap_alloc _ _ _ (by omega)).trans HK.out)
        · exact (HB.out.alloc HB.out.size _).trans (hbb.mono (by omega))
      case measure => simp [intOf]; omega
    · obtain rfl : k = 8 := by omega
      have m0 : wr.cell? ⟨w.heap.size, 0, none⟩ = some (vw k0) := (cell_of_row _ _ 0 _ _ _ hkk).trans rfl
      have m1 : wr.cell? ⟨w.heap.size, 1, none⟩ = some (vw k1) := (cell_of_row _ _ 1 _ _ _ hkk).trans rfl
      obtain ⟨_, _, eX, _, _, _, rX⟩ := own_form hown
      cases eX
      have RX := Lib.hid rX
      have HS := Lib.hid (sum_eq k0 k1 (le n 8))
      clear hown hkk hbb rX
      have h8 : (le n 8).length = 8 := le_length n 8
      rw [h8]
      have H8 := Lib.hid h8
      clear h8 hll HO
      go_wp2_with fail
      refine (rsum_calls k0 k1 X 8 c (le n 8) wr H8.out RX.out (by omega)).mono ?_
      rintro e w2 ⟨rfl, hb2⟩
      rw [← HS.out]
      have B2 := Lib.hid (HB.out.trans (hb2.mono HB.out.size))
      clear hb2
      go_wp2_with fail
      go_ret
      exact ⟨rfl, B2.out⟩
end Sp
end Go.Proofs.Ytnmgapokamkhpaa
