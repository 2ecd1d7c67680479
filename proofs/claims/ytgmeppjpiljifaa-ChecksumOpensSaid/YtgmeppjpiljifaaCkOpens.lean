/- The walk of refmeshlaw04.ChecksumOpens. -/
import Derived.Test.YtgmeppjpiljifaaCkG
import Derived.Test.YtgmeppjpiljifaaCkSums
namespace Go.Proofs.Ytgmeppjpiljifaa
open Go.RowKit
namespace Ck

set_option maxRecDepth 100000 in
theorem opens_calls (w : World) (A : Option Addr) (n cap : Nat) (l : List UInt8) (hn : l.length = n) (hnc : n ≤ cap) (_hm : cap ≤ maxLen) (hr : RB w A l) :
    Calls Try.prog 7 #[.slice A n cap] w fun e w' => e = .returned (.bool true) ∧ Below w.heap.size w w' := by
  have HF := fun w1 : World => Lib.hid (few_calls (some ⟨w1.heap.size, 0, none⟩) 1 1 [(A, n, cap)] (w1.alloc (.cells #[.slice A n cap] 23)) rfl (by simp [maxLen]) (Rd.new _ _ _ _))
  by_cases h6 : n ≤ 600
  · have HO := fun w1 hb => Lib.hid (open_calls A n cap l w1 hn hnc (by omega) (hr.below hb))
    have HR := fun w1 hb => Lib.hid (ropen_calls A n cap l w1 hn hnc (by omega) (hr.below hb))
    clear hn hnc _hm hr
    rw [few_one n h6] at HF
    go_enter Try.func7, Try.ntmps7
    go_wp2_with fail
    refine (HF w).out.mono ?_
    rintro e w1 ⟨rfl, rfl⟩
    have hb : Below w.heap.size w (w.alloc (.cells #[.slice A n cap] 23)) := (Below.refl _ _).alloc (Nat.le_refl _) _
    generalize w.alloc (.cells #[.slice A n cap] 23) = w1 at *
    go_wp2_with fail
    refine (HO w1 hb).out.mono ?_
    rintro e w2 ⟨hb2, hcase⟩
    replace hb := hb.trans (hb2.mono hb.size)
    clear hb2
    rcases hcase with ⟨ho, rfl⟩ | ⟨x, v, ho, rfl, hown⟩
    · go_wp2_with fail
      refine (HR w2 hb).out.mono ?_
      rintro e w3 ⟨hb3, hcase3⟩
      replace hb := hb.trans (hb3.mono hb.size)
      clear hb3
      rcases hcase3 with ⟨ho3, rfl⟩ | ⟨x3, v3, ho3, rfl, hown3⟩
      · clear ho ho3 HO HR
        have hcv := fun w : World => run_str (P := Try.prog) (w := w) (A := none) (l := []) 0 0 23 5 9 Try.underlying23 Try.underlying5 Try.underlying9 rfl RB.nil
        go_wp2_with fail
        refine (awake_calls _).mono ?_
        rintro e w4 ⟨rfl, hb2⟩
        replace hb := hb.trans (hb2.mono hb.size)
        clear hb2
        go_wp2_with fail
        go_ret
        exact ⟨rfl, hb⟩
      · rw [ho] at ho3; cases ho3
    · obtain ⟨X, cx, rfl, _, _, hlx, hrx⟩ := own_form hown
      go_wp2_with fail
      refine (HR w2 hb).out.mono ?_
      rintro e w3 ⟨hb3, hcase3⟩
      replace hb := hb.trans (hb3.mono hb.size)
      rcases hcase3 with ⟨ho3, rfl⟩ | ⟨x3, v3, ho3, rfl, hown3⟩
      · rw [ho] at ho3; cases ho3
      · obtain rfl : x = x3 := by rw [ho] at ho3; exact Option.some.inj ho3
        obtain ⟨Y, cy, rfl, _, _, hly, hry⟩ := own_form hown3
        have hcv1 := run_str (P := Try.prog) x.length cx 23 5 9 Try.underlying23 Try.underlying5 Try.underlying9 rfl (RB.below hrx hb3)
        have hcv2 := run_str (P := Try.prog) x.length cy 23 5 9 Try.underlying23 Try.underlying5 Try.underlying9 rfl hry
        clear ho ho3 HO HR hb3 hown hown3 hrx hry hlx hly
        go_wp2_with fail
        refine (awake_calls _).mono ?_
        rintro e w4 ⟨rfl, hb2⟩
        replace hb := hb.trans (hb2.mono hb.size)
        clear hb2
        go_wp2_with fail
        go_ret
        exact ⟨rfl, hb⟩
  · rw [few_one' n h6] at HF
    go_enter Try.func7, Try.ntmps7
    go_wp2_with fail
    refine (HF w).out.mono ?_
    rintro e w1 ⟨rfl, rfl⟩
    have hb : Below w.heap.size w (w.alloc (.cells #[.slice A n cap] 23)) := (Below.refl _ _).alloc (Nat.le_refl _) _
    generalize w.alloc (.cells #[.slice A n cap] 23) = w1 at *
    go_wp2_with fail
    refine (awake_calls _).mono ?_
    rintro e w4 ⟨rfl, hb2⟩
    replace hb := hb.trans (hb2.mono hb.size)
    clear hb2
    go_wp2_with fail
    go_ret
    exact ⟨rfl, hb⟩
end Ck
end Go.Proofs.Ytgmeppjpiljifaa
