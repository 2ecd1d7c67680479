/- The walks of checksum.times, checksum.Combine and refmeshref04.Combine. -/
import Derived.Test.YtgmeppjpiljifaaCkE
import Derived.Test.YtgmeppjpiljifaaCrc3
namespace Go.Proofs.Ytgmeppjpiljifaa
open Go.RowKit
namespace Ck

theorem bit_test (p : BitVec 64) (k : Nat) : (bits BinOp.and IntKind.u64 ((p.toNat : Int) / 2 ^ k) 1 == 1) = p.getLsbD k := by
  have h : (p.toNat : Int) / 2 ^ k = ((p >>> k).toNat : Int) := by
    rw [← shr_bv]; norm_cast
  rw [h, sh_test, BitVec.getLsbD_ushiftRight]; rfl
theorem odd_test (q : Nat) (h : q < 18446744073709551616) : (bits BinOp.and IntKind.u64 (q : Int) 1 == 1) = decide (q % 2 = 1) := by
  rw [lit_bv q h, sh_test, BitVec.getLsbD_ofNat]
  simp [Nat.testBit_zero]

/-- two words, exclusive or -/
def w2 (x y : BitVec 64) : BitVec 64 := x ^^^ y
theorem w2_bits (x y : BitVec 64) : bits .xor .u64 (x.toNat : Int) (y.toNat : Int) = ((w2 x y).toNat : Int) := xor_bv x y

set_option maxRecDepth 100000 in
theorem times_calls (a b : BitVec 64) (w : World) :
    Calls Try.prog 26 #[vw a, vw b] w fun e w' => e = .returned (vw (Crc.mul a b)) ∧ w = w' := by
  go_enter Try.func26, Try.ntmps26
  go_wp2_with fail
  go_loop [7, 5, 1] (fun i p x => ∃ k : Nat, k ≤ 64 ∧ i = .int .i64 k ∧ p = vw (Crc.mulTo a b k) ∧ x = vw (Crc.shN k b)) (fun i _ _ => 64 - (intOf i).toNat)
  case atStart => exact ⟨0, by omega, rfl, rfl, rfl⟩
  case round =>
    obtain ⟨k, hk, rfl, rfl, rfl⟩ := hrel
    by_cases hlt : k < 64
    · have hd : decide ((k : Int) < 64) = true := by simp; omega
      have ht := bit_test a (63 - k)
      have hx := w2_bits (Crc.mulTo a b k) (Crc.shN k b)
      have HS := Lib.hid (Crc.shN_succ k b)
      cases hbit : a.getLsbD (63 - k)
      · rw [hbit] at ht
        have HM : Hid (Crc.mulTo a b (k + 1) = Crc.mulTo a b k) := by show _ = _; simp only [Crc.mulTo, hbit]; rfl
        clear hbit
        go_wp2_with (go_at_call 27; refine (shift_calls _ _).mono ?_; rintro e w' ⟨rfl, rfl⟩)
        go_round
        case rel => exact ⟨k + 1, by omega, by go_num, by rw [HM.out], by rw [HS.out]⟩
        case measure => simp [intOf]; omega
      · rw [hbit] at ht
        have HM : Hid (Crc.mulTo a b (k + 1) = w2 (Crc.mulTo a b k) (Crc.shN k b)) := by show _ = _; simp only [Crc.mulTo, hbit]; rfl
        clear hbit
        go_wp2_with (go_at_call 27; refine (shift_calls _ _).mono ?_; rintro e w' ⟨rfl, rfl⟩)
        go_round
        case rel => exact ⟨k + 1, by omega, by go_num, by rw [HM.out], by rw [HS.out]⟩
        case measure => simp [intOf]; omega
    · obtain rfl : k = 64 := by omega
      go_wp2_with fail
      go_ret
      exact ⟨rfl, rfl⟩

theorem apply_calls (c p : BitVec 64) (g : Nat) (w : World) (hc : w.cell? ⟨g, 0, none⟩ = some (vw p)) :
    Calls Try.prog 25 #[vw c, .pointer (some ⟨g, 0, none⟩)] w fun e w' => e = .returned (vw (Crc.mul p c)) ∧ w = w' := by
  go_enter Try.func25, Try.ntmps25
  go_wp2_with (go_at_call 26; refine (times_calls _ _ _).mono ?_; rintro e w' ⟨rfl, rfl⟩)
  go_ret
  exact ⟨rfl, rfl⟩

set_option maxRecDepth 100000 in
set_option maxHeartbeats 400000 in
theorem combine_nat (a b : BitVec 64) (n : Int) (N : Nat) (w : World) (h0 : decide (n < 0) = false ∧ n = (N : Int) ∨ decide (n < 0) = true ∧ N = 0) (hN : N < 9223372036854775808) :
    Calls Try.prog 21 #[vw a, vw b, .int .i64 n] w fun e w' => e = .returned (vw (Crc.comb a b N)) ∧ Below w.heap.size w w' := by
  have hx := w2_bits (Crc.shN (8 * N) a) b
  have HE : Hid (w2 (Crc.shN (8 * N) a) b = Crc.comb a b N) := rfl
  generalize w2 (Crc.shN (8 * N) a) b = r at *
  have hcase : decide (n < 0) = false ∧ n = (N : Int) ∧ True ∨ decide (n < 0) = true ∧ n = n ∧ Hid (N = 0) := h0.imp (fun ⟨x, y⟩ => ⟨x, y, trivial⟩) (fun ⟨x, y⟩ => ⟨x, rfl, y⟩)
  clear h0
  rcases hcase with ⟨hd, rfl, HN0⟩ | ⟨hd, _, HN0⟩
  all_goals
    go_enter Try.func21, Try.ntmps21
    go_wp2_with fail
    go_loopw [9, 0] (fun kk av wr => ∃ j q : Nat, q = N / 2 ^ j ∧ kk = .int .u64 q ∧ av = vw (Crc.shN (8 * (N % 2 ^ j)) a) ∧ wr.heap[w.heap.size]? = some (.cells #[vw (Crc.pw j)] 22 (0, 0)) ∧ Below w.heap.size w wr) (fun kk _ _ => (intOf kk).toNat)
    case atStart =>
      refine ⟨0, N, by simp, ?_, by simp [Nat.mod_one, Crc.shN], heap_alloc_new _ _, (Below.refl _ _).alloc (Nat.le_refl _) _⟩
      first | rfl | (rw [Hid.out HN0]; rfl)
    case round =>
      obtain ⟨j, q, hq, rfl, rfl, hblk, hbel⟩ := hrel
      have hqN : q ≤ N := by rw [hq]; exact Nat.div_le_self _ _
      have hcell : wr.cell? ⟨w.heap.size, 0, none⟩ = some (vw (Crc.pw j)) := by rw [cell_of_row _ _ _ _ _ _ hblk]; rfl
      have hfr : wr.frozen? ⟨w.heap.size, 0, none⟩ = false := frozen_of_row _ _ _ _ _ hblk
      have HK := Lib.hid hblk
      have HB := Lib.hid hbel
      have HQ := Lib.hid hq
      have HC := Lib.hid (Crc.comb_step a N j)
      have HD : Hid (N / 2 ^ (j + 1) = q / 2) := by show _ = _; rw [hq, Nat.pow_succ, Nat.div_div_eq_div_mul]
      have ht := odd_test q (by omega)
      clear hblk hbel hq
      by_cases hz : 0 < q
      · have hd0 : decide ((0 : Int) < (q : Int)) = true := by simp; omega
        by_cases hodd : q % 2 = 1
        · rw [show decide (q % 2 = 1) = true from by simpa using hodd] at ht
          have HC2 := HC.out
          rw [← HQ.out, if_pos hodd] at HC2
          have HC3 := Lib.hid HC2
          clear HC2 HC hodd
          generalize Crc.shN (8 * (N % 2 ^ j)) a = s0 at *
          go_wp2_with (first | (go_at_call 25; refine (apply_calls _ _ _ _ hcell).mono ?_; rintro e w' ⟨rfl, rfl⟩) | (go_at_call 26; refine (times_calls _ _ _).mono ?_; rintro e w' ⟨rfl, rfl⟩))
          go_roundw
          case rel => exact ⟨j + 1, q / 2, HD.out.symm, by go_num, by rw [HC3.out], heap_setCell_same _ _ _ _ _ _ HK.out, HB.out.setCell (Nat.le_refl _) _⟩
          case measure => simp [intOf]; omega
        · rw [show decide (q % 2 = 1) = false from by simpa using hodd] at ht
          have HC2 := HC.out
          rw [← HQ.out, if_neg hodd] at HC2
          have HC3 := Lib.hid HC2
          clear HC2 HC hodd
          generalize Crc.shN (8 * (N % 2 ^ j)) a = s0 at *
          go_wp2_with (go_at_call 26; refine (times_calls _ _ _).mono ?_; rintro e w' ⟨rfl, rfl⟩)
          go_roundw
          case rel => exact ⟨j + 1, q / 2, HD.out.symm, by go_num, by rw [HC3.out], heap_setCell_same _ _ _ _ _ _ HK.out, HB.out.setCell (Nat.le_refl _) _⟩
          case measure => simp [intOf]; omega
      · obtain rfl : q = 0 := by omega
        have HM : Hid (Crc.shN (8 * (N % 2 ^ j)) a = Crc.shN (8 * N) a) := by
          show _ = _
          have h1 : N < 2 ^ j := by
            have := HQ.out.symm
            rcases Nat.div_eq_zero_iff.1 this with h | h
            · have := Nat.two_pow_pos j; omega
            · exact h
          rw [Nat.mod_eq_of_lt h1]
        have hd0 : decide ((0 : Int) < ((0 : Nat) : Int)) = false := by simp
        clear HC
        rw [HM.out]
        go_wp2_with fail
        go_ret
        exact ⟨by rw [← HE.out]; rfl, HB.out⟩

theorem combine_calls (a b : BitVec 64) (n : Int) (w : World) (_h1 : -9223372036854775808 ≤ n) (h2 : n ≤ 9223372036854775807) :
    Calls Try.prog 21 #[vw a, vw b, .int .i64 n] w fun e w' => e = .returned (vw (Crc.comb a b n.toNat)) ∧ Below w.heap.size w w' := by
  refine combine_nat a b n n.toNat w ?_ (by omega)
  by_cases h : n < 0
  · exact .inr ⟨by simpa using h, by omega⟩
  · exact .inl ⟨by simpa using h, by omega⟩

set_option maxRecDepth 100000 in
theorem rcombine_calls (a b : BitVec 64) (n : Int) (w : World) (h2 : n ≤ 9223372036854775807) :
    Calls Try.prog 22 #[vw a, vw b, .int .i64 n] w fun e w' => e = .returned (vw (Crc.comb a b n.toNat)) ∧ w = w' := by
  have hx := w2_bits (Crc.shN (8 * n.toNat) a) b
  have HE : Hid (w2 (Crc.shN (8 * n.toNat) a) b = Crc.comb a b n.toNat) := rfl
  generalize w2 (Crc.shN (8 * n.toNat) a) b = r at *
  go_enter Try.func22, Try.ntmps22
  go_wp2_with fail
  go_loop [7, 0] (fun i x => ∃ k : Nat, k ≤ n.toNat ∧ i = .int .i64 k ∧ x = vw (Crc.shN (8 * k) a)) (fun i _ => n.toNat - (intOf i).toNat)
  case atStart => exact ⟨0, by omega, rfl, rfl⟩
  case round =>
    obtain ⟨k, hk, rfl, rfl⟩ := hrel
    by_cases hlt : k < n.toNat
    · have hd : decide ((k : Int) < n) = true := by simp; omega
      go_wp2_with fail
      go_loop [8, 0] (fun i x => ∃ j : Nat, j ≤ 8 ∧ i = .int .i64 j ∧ x = vw (Crc.shN (8 * k + j) a)) (fun i _ => 8 - (intOf i).toNat)
      case atStart => exact ⟨0, by omega, rfl, rfl⟩
      case round =>
        obtain ⟨j, hj, rfl, rfl⟩ := hrel
        by_cases hj8 : j < 8
        · have hd2 : decide ((j : Int) < 8) = true := by simp; omega
          have HS := Lib.hid (Crc.shN_succ (8 * k + j) a)
          go_wp2_with (go_at_call 24; refine (rshift_calls _ _).mono ?_; rintro e w' ⟨rfl, rfl⟩)
          go_round
          case rel => exact ⟨j + 1, by omega, by go_num, by rw [← Nat.add_assoc, HS.out]⟩
          case measure => simp [intOf]; omega
        · obtain rfl : j = 8 := by omega
          go_wp2
          go_round
          case rel => exact ⟨k + 1, by omega, by go_num, by rw [show 8 * (k + 1) = 8 * k + 8 by omega]⟩
          case measure => simp [intOf]; omega
    · obtain rfl : k = n.toNat := by omega
      have hd : decide (((n.toNat : Nat) : Int) < n) = false := by simp; omega
      go_wp2_with fail
      go_ret
      exact ⟨by rw [← HE.out]; rfl, rfl⟩
end Ck
end Go.Proofs.Ytgmeppjpiljifaa
