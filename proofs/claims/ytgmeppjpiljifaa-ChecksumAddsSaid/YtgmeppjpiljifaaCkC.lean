/- The walks of refmeshref04.Update, both Sums, refmeshlaw04.few. -/
import Derived.Test.YtgmeppjpiljifaaCkB
namespace Go.Proofs.Ytgmeppjpiljifaa
open Go.RowKit
namespace Ck

theorem xor_max (x : BitVec 64) : bits .xor .u64 (x.toNat : Int) (18446744073709551615 : Int) = ((Crc.flip x).toNat : Int) := by
  rw [show (18446744073709551615 : Int) = ((BitVec.allOnes 64).toNat : Int) from by decide, xor_bv, BitVec.xor_allOnes]; rfl

/-- a byte taken in -/
def inb (s : BitVec 64) (x : UInt8) : BitVec 64 := s ^^^ BitVec.ofNat 64 x.toNat
theorem inb_bits (s : BitVec 64) (x : UInt8) : bits .xor .u64 (s.toNat : Int) (x.toNat : Int) = ((inb s x).toNat : Int) := by
  rw [lit_bv x.toNat (by have := x.toNat_lt; omega), xor_bv]; rfl

set_option maxRecDepth 100000 in
theorem rupdate_calls (c : BitVec 64) (A : Option Addr) (n cap : Nat) (l : List UInt8) (w : World) (hn : l.length = n) (hm : n ≤ maxLen) (hr : RB w A l) :
    Calls Try.prog 16 #[vw c, .slice A n cap] w fun e w' => e = .returned (vw (Crc.upd c l)) ∧ w = w' := by
  have hm' : n ≤ 9223372036854775807 := hm
  have HN := Lib.hid hn
  have HR := Lib.hid hr
  clear hm hn hr
  have hnot := xor_max
  go_enter Try.func16, Try.ntmps16
  go_wp2_with fail
  go_loop [6, 5] (fun i s => ∃ k : Nat, k ≤ n ∧ i = .int .i64 k ∧ s = vw (Crc.run (Crc.flip c) (l.take k))) (fun i _ => n - (intOf i).toNat)
  case atStart => exact ⟨0, by omega, rfl, rfl⟩
  case round =>
    obtain ⟨k, hk, rfl, rfl⟩ := hrel
    by_cases hlt : k < n
    · have hll : k < l.length := by rw [HN.out]; exact hlt
      obtain ⟨b, off, rfl, _, hc⟩ := HR.out.cells (by omega)
      have hck := hc k hll
      have HU := Lib.hid (Crc.run_take_succ (Crc.flip c) l k hll)
      generalize Crc.run (Crc.flip c) (l.take k) = s at *
      generalize l[k] = x at *
      have hst := inb_bits s x
      have hxb : x.toNat < 256 := x.toNat_lt
      have HX : Hid (inb s x = s ^^^ BitVec.ofNat 64 x.toNat) := rfl
      generalize inb s x = y at *
      clear hc hll
      have hd : decide (k < n) = true := by simpa using hlt
      go_wp2_with fail
      go_loop [7, 5] (fun i s => ∃ j : Nat, j ≤ 8 ∧ i = .int .i64 j ∧ s = vw (Crc.shN j y)) (fun i _ => 8 - (intOf i).toNat)
      case atStart => exact ⟨0, by omega, rfl, rfl⟩
      case round =>
        obtain ⟨j, hj, rfl, rfl⟩ := hrel
        by_cases hj8 : j < 8
        · have hd2 : decide ((j : Int) < 8) = true := by simp; omega
          go_wp2_with (go_at_call 24; refine (rshift_calls _ _).mono ?_; rintro e w' ⟨rfl, rfl⟩)
          go_round
          case rel => exact ⟨j + 1, by omega, by go_num, by rw [Crc.shN_succ]⟩
          case measure => simp [intOf]; omega
        · obtain rfl : j = 8 := by omega
          go_wp2
          go_round
          case rel => exact ⟨k + 1, by omega, by go_num, by rw [HU.out, HX.out]; rfl⟩
          case measure => simp [intOf]; omega
    · obtain rfl : k = n := by omega
      go_wp2_with fail
      go_ret
      refine ⟨?_, rfl⟩
      rw [List.take_of_length_le (by rw [HN.out]; exact Nat.le_refl _)]; rfl

theorem sum_calls (A : Option Addr) (n cap : Nat) (l : List UInt8) (w : World) (hn : l.length = n) (hm : n ≤ maxLen) (hr : RB w A l) :
    Calls Try.prog 13 #[.slice A n cap] w fun e w' => e = .returned (vw (Crc.sum l)) ∧ Below w.heap.size w w' := by
  have H := Lib.hid (update_calls 0#64 A n cap l w hn hm hr)
  clear hn hm hr
  go_enter Try.func13, Try.ntmps13
  go_wp2_with fail
  refine H.out.mono ?_
  rintro e w' ⟨rfl, hb⟩
  go_wp2_with fail
  go_ret
  exact ⟨rfl, hb⟩

theorem rsum_calls (A : Option Addr) (n cap : Nat) (l : List UInt8) (w : World) (hn : l.length = n) (hm : n ≤ maxLen) (hr : RB w A l) :
    Calls Try.prog 14 #[.slice A n cap] w fun e w' => e = .returned (vw (Crc.sum l)) ∧ w = w' := by
  have H := Lib.hid (rupdate_calls 0#64 A n cap l w hn hm hr)
  clear hn hm hr
  go_enter Try.func14, Try.ntmps14
  go_wp2_with fail
  refine H.out.mono ?_
  rintro e w' ⟨rfl, hb⟩
  go_wp2_with fail
  go_ret
  exact ⟨rfl, hb⟩

/-- a slice value in three parts -/
abbrev vs3 (x : Option Addr × Nat × Nat) : Value := .slice x.1 x.2.1 x.2.2

def fewB (l : List (Option Addr × Nat × Nat)) : Bool := l.all fun x => decide (x.2.1 ≤ 600)

theorem few_calls (A : Option Addr) (n cap : Nat) (l : List (Option Addr × Nat × Nat)) (w : World) (hn : l.length = n) (hm : n ≤ maxLen) (hr : Rd w A (l.map vs3)) :
    Calls Try.prog 11 #[.slice A n cap] w fun e w' => e = .returned (.bool (fewB l)) ∧ w = w' := by
  have hm' : n ≤ 9223372036854775807 := hm
  have HN := Lib.hid hn
  have HR := Lib.hid hr
  clear hm hn hr
  go_enter Try.func11, Try.ntmps11
  go_wp2_with fail
  go_loop [7] (fun i => ∃ k : Nat, k ≤ n ∧ i = .int .i64 k ∧ fewB (l.take k) = true) (fun i => n - (intOf i).toNat)
  case atStart => exact ⟨0, by omega, rfl, rfl⟩
  case round =>
    obtain ⟨k, hk, rfl, hf⟩ := hrel
    have HF := Lib.hid hf
    clear hf
    by_cases hlt : k < n
    · have hll : k < l.length := by rw [HN.out]; exact hlt
      obtain ⟨b, off, rfl, _, hc⟩ := HR.out.cells (by simp; omega)
      have hck : w.cell? ⟨b, off + k, none⟩ = some (.slice l[k].1 l[k].2.1 l[k].2.2) := hc k _ (by simp [List.getElem?_eq_getElem hll])
      have HU : Hid (fewB (l.take (k + 1)) = decide (l[k].2.1 ≤ 600)) := by
        have := HF.out
        unfold fewB at this
        show fewB _ = _
        unfold fewB
        rw [List.take_succ_eq_append_getElem hll, List.all_append, this]; simp
      have HU2 : Hid (l[k].2.1 > 600 → fewB l = false) := fun h => by
        unfold fewB
        rw [List.all_eq_false]
        exact ⟨l[k], List.getElem_mem hll, by simpa using h⟩
      clear hc
      generalize l[k].1 = a0 at *
      generalize l[k].2.1 = n0 at *
      generalize l[k].2.2 = c0 at *
      clear hll
      have hd : decide (k < n) = true := by simpa using hlt
      by_cases h6 : n0 ≤ 600
      · have hd2 : decide ((600 : Int) < (n0 : Int)) = false := by simp; omega
        go_wp2_with fail
        go_round
        case rel => exact ⟨k + 1, by omega, by go_num, by rw [HU.out]; simpa using h6⟩
        case measure => simp [intOf]; omega
      · have hd2 : decide ((600 : Int) < (n0 : Int)) = true := by simp; omega
        go_wp2_with fail
        go_ret
        exact ⟨by rw [HU2.out (by omega)]; rfl, rfl⟩
    · obtain rfl : k = n := by omega
      go_wp2_with fail
      go_ret
      refine ⟨?_, rfl⟩
      have := HF.out
      rw [List.take_of_length_le (by rw [HN.out]; exact Nat.le_refl _)] at this
      rw [this]; rfl
end Ck
end Go.Proofs.Ytgmeppjpiljifaa
