/- The walk of refmeshlaw04.ChecksumSums. -/
import Derived.Test.YtgmeppjpiljifaaCkE
namespace Go.Proofs.Ytgmeppjpiljifaa
open Go.RowKit
namespace Ck

theorem few_one (n : Nat) (h : n ≤ 600) (A : Option Addr) (c : Nat) : fewB [(A, n, c)] = true := by simp [fewB, h]
theorem few_one' (n : Nat) (h : ¬ n ≤ 600) (A : Option Addr) (c : Nat) : fewB [(A, n, c)] = false := by simp [fewB, h]

set_option maxRecDepth 100000 in
theorem sums_calls (w : World) (c : BitVec 64) (A : Option Addr) (n cap : Nat) (l : List UInt8) (hn : l.length = n) (hnc : n ≤ cap) (hm : cap ≤ maxLen) (hr : RB w A l) :
    Calls Try.prog 3 #[vw c, .slice A n cap] w fun e w' => e = .returned (.bool true) ∧ Below w.heap.size w w' := by
  have hm' : n ≤ maxLen := Nat.le_trans hnc hm
  have HF := fun w1 : World => Lib.hid (few_calls (some ⟨w1.heap.size, 0, none⟩) 1 1 [(A, n, cap)] (w1.alloc (.cells #[.slice A n cap] 23)) rfl (by simp [maxLen]) (Rd.new _ _ _ _))
  have HS := fun w1 hb => Lib.hid (sum_calls A n cap l w1 hn hm' (hr.below hb))
  have HRS := fun w1 hb => Lib.hid (rsum_calls A n cap l w1 hn hm' (hr.below hb))
  have HU := fun w1 hb => Lib.hid (update_calls c A n cap l w1 hn hm' (hr.below hb))
  have HRU := fun w1 hb => Lib.hid (rupdate_calls c A n cap l w1 hn hm' (hr.below hb))
  clear hn hnc hm hm' hr
  by_cases h6 : n ≤ 600
  · rw [few_one n h6] at HF
    go_enter Try.func3, Try.ntmps3
    go_wp2_with fail
    refine (HF w).out.mono ?_
    rintro e w1 ⟨rfl, rfl⟩
    have hb : Below w.heap.size w (w.alloc (.cells #[.slice A n cap] 23)) := (Below.refl _ _).alloc (Nat.le_refl _) _
    generalize w.alloc (.cells #[.slice A n cap] 23) = w1 at *
    go_wp2_with fail
    refine (HS w1 hb).out.mono ?_
    rintro e w2 ⟨rfl, hb2⟩
    replace hb := hb.trans (hb2.mono hb.size)
    clear hb2
    go_wp2_with fail
    refine (HRS w2 hb).out.mono ?_
    rintro e w3 ⟨rfl, rfl⟩
    generalize Crc.sum l = s at *
    go_wp2_with fail
    refine (HU w2 hb).out.mono ?_
    rintro e w3 ⟨rfl, hb2⟩
    replace hb := hb.trans (hb2.mono hb.size)
    clear hb2
    go_wp2_with fail
    refine (HRU w3 hb).out.mono ?_
    rintro e w4 ⟨rfl, rfl⟩
    generalize Crc.upd c l = s2 at *
    go_wp2_with fail
    refine (awake_calls _).mono ?_
    rintro e w4 ⟨rfl, hb2⟩
    replace hb := hb.trans (hb2.mono hb.size)
    clear hb2
    go_wp2_with fail
    go_ret
    exact ⟨rfl, hb⟩
  · rw [few_one' n h6] at HF
    go_enter Try.func3, Try.ntmps3
    go_wp2_with fail
    refine (HF w).out.mono ?_
    rintro e w1 ⟨rfl, rfl⟩
    have hb : Below w.heap.size w (w.alloc (.cells #[.slice A n cap] 23)) := (Below.refl _ _).alloc (Nat.le_refl _) _
    generalize w.alloc (.cells #[.slice A n cap] 23) = w1 at *
    go_wp2_with fail
    refine (awake_calls _).mono ?_
    rintro e w4 ⟨rfl, hb2⟩
    replace hb := hb.trans (hb2.mono hb.size)
    clear hb2
    go_wp2_with fail
    go_ret
    exact ⟨rfl, hb⟩
end Ck
end Go.Proofs.Ytgmeppjpiljifaa
