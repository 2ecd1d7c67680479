/- The walks of refmeshlaw04.ChecksumCombines, ChecksumConcatenates, ChecksumAdds. -/
import Derived.Test.YtgmeppjpiljifaaCkComb
import Derived.Test.YtgmeppjpiljifaaCkSums
namespace Go.Proofs.Ytgmeppjpiljifaa
open Go.RowKit
namespace Ck

set_option maxRecDepth 100000 in
theorem combines_calls (w : World) (a b : BitVec 64) (n : Int) (h1 : -9223372036854775808 ≤ n) (h2 : n ≤ 9223372036854775807) :
    Calls Try.prog 8 #[vw a, vw b, .int .i64 n] w fun e w' => e = .returned (.bool true) ∧ Below w.heap.size w w' := by
  by_cases h6 : n ≤ 600
  · have hd : decide ((600 : Int) < n) = false := by simp; omega
    go_enter Try.func8, Try.ntmps8
    go_wp2_with fail
    refine (combine_calls a b n w h1 h2).mono ?_
    rintro e w1 ⟨rfl, hb⟩
    go_wp2_with fail
    refine (rcombine_calls a b n w1 h2).mono ?_
    rintro e w2 ⟨rfl, rfl⟩
    generalize Crc.comb a b n.toNat = r at *
    go_wp2_with fail
    refine (calls_below hb (awake_calls w1)).mono ?_
    rintro e w2 ⟨rfl, hb2⟩
    go_wp2_with fail
    go_ret
    exact ⟨rfl, hb2⟩
  · have hd : decide ((600 : Int) < n) = true := by simp; omega
    go_enter Try.func8, Try.ntmps8
    go_wp2_with fail
    refine (awake_calls w).mono ?_
    rintro e w2 ⟨rfl, hb2⟩
    go_wp2_with fail
    go_ret
    exact ⟨rfl, hb2⟩

set_option maxRecDepth 100000 in
theorem adds_calls (w : World) (a b : BitVec 64) (n : Int) (_h1 : -9223372036854775808 ≤ n) (_h2 : n ≤ 9223372036854775807) (m : Int) (_h3 : -9223372036854775808 ≤ m) (_h4 : m ≤ 9223372036854775807) :
    Calls Try.prog 10 #[vw a, vw b, .int .i64 n, .int .i64 m] w fun e w' => e = .returned (.bool true) ∧ Below w.heap.size w w' := by
  by_cases hmain : 0 ≤ n ∧ 0 ≤ m ∧ n ≤ 1099511627776 ∧ m ≤ 1099511627776
  · obtain ⟨a1, a2, a3, a4⟩ := hmain
    have d1 : decide (n < 0) = false := by simp; omega
    have d2 : decide (m < 0) = false := by simp; omega
    have d3 : decide ((1099511627776 : Int) < n) = false := by simp; omega
    have d4 : decide ((1099511627776 : Int) < m) = false := by simp; omega
    have HA := Lib.hid (Crc.comb_add a b n.toNat m.toNat)
    have HT : Hid ((n + m).toNat = n.toNat + m.toNat) := by show _ = _; omega
    go_enter Try.func10, Try.ntmps10
    go_wp2_with fail
    refine (combine_calls a 0#64 n w (by omega) (by omega)).mono ?_
    rintro e w1 ⟨rfl, hb⟩
    go_wp2_with fail
    refine (calls_below hb (combine_calls (Crc.comb a 0#64 n.toNat) b m w1 (by omega) (by omega))).mono ?_
    rintro e w2 ⟨rfl, hb2⟩
    go_wp2_with fail
    refine (calls_below hb2 (combine_calls a b (n + m) w2 (by omega) (by omega))).mono ?_
    rintro e w3 ⟨rfl, hb3⟩
    rw [HA.out, HT.out]
    generalize Crc.comb a b (n.toNat + m.toNat) = r at *
    go_wp2_with fail
    refine (calls_below hb3 (awake_calls w3)).mono ?_
    rintro e w2 ⟨rfl, hb2⟩
    go_wp2_with fail
    go_ret
    exact ⟨rfl, hb2⟩
  · have hc : decide (n < 0) = true ∨ (decide (n < 0) = false ∧ decide (m < 0) = true) ∨ (decide (n < 0) = false ∧ decide (m < 0) = false ∧ decide ((1099511627776 : Int) < n) = true) ∨
        (decide (n < 0) = false ∧ decide (m < 0) = false ∧ decide ((1099511627776 : Int) < n) = false ∧ decide ((1099511627776 : Int) < m) = true) := by
      simp only [decide_eq_true_eq, decide_eq_false_iff_not]; omega
    clear hmain
    rcases hc with d1 | ⟨d1, d2⟩ | ⟨d1, d2, d3⟩ | ⟨d1, d2, d3, d4⟩
    all_goals
      go_enter Try.func10, Try.ntmps10
      go_wp2_with fail
      refine (awake_calls w).mono ?_
      rintro e w2 ⟨rfl, hb2⟩
      go_wp2_with fail
      go_ret
      exact ⟨rfl, hb2⟩

theorem few_two (n m : Nat) (A B : Option Addr) (c d : Nat) : fewB [(A, n, c), (B, m, d)] = decide (n ≤ 600 ∧ m ≤ 600) := by
  simp [fewB]

set_option maxRecDepth 100000 in
theorem concatenates_calls (w : World) (A : Option Addr) (na ca : Nat) (la : List UInt8) (hna : la.length = na) (_hca : na ≤ ca) (_hma : ca ≤ maxLen) (hra : RB w A la)
    (B : Option Addr) (nb cb : Nat) (lb : List UInt8) (hnb : lb.length = nb) (_hcb : nb ≤ cb) (_hmb : cb ≤ maxLen) (hrb : RB w B lb) :
    Calls Try.prog 9 #[.slice A na ca, .slice B nb cb] w fun e w' => e = .returned (.bool true) ∧ Below w.heap.size w w' := by
  have HF := fun w1 : World => Lib.hid (few_calls (some ⟨w1.heap.size, 0, none⟩) 2 2 [(A, na, ca), (B, nb, cb)] (w1.alloc (.cells #[.slice A na ca, .slice B nb cb] 23)) rfl (by simp [maxLen]) (Rd.new _ _ _ _))
  by_cases h6 : na ≤ 600 ∧ nb ≤ 600
  · rw [few_two, show decide (na ≤ 600 ∧ nb ≤ 600) = true from by simpa using h6] at HF
    obtain ⟨h6a, h6b⟩ := h6
    have SA := fun w1 (hb : Below w.heap.size w w1) => Lib.hid (calls_below hb (sum_calls A na ca la w1 hna (by simp only [maxLen]; omega) (hra.below hb)))
    have SB := fun w1 (hb : Below w.heap.size w w1) => Lib.hid (calls_below hb (sum_calls B nb cb lb w1 hnb (by simp only [maxLen]; omega) (hrb.below hb)))
    have SU := fun w1 (hb : Below w.heap.size w w1) => Lib.hid (calls_below hb (update_calls (Crc.sum la) B nb cb lb w1 hnb (by simp only [maxLen]; omega) (hrb.below hb)))
    have SC := fun w1 (hb : Below w.heap.size w w1) => Lib.hid (calls_below hb (combine_calls (Crc.sum la) (Crc.sum lb) (nb : Int) w1 (by omega) (by omega)))
    have SW := fun w1 (hb : Below w.heap.size w w1) => Lib.hid (calls_below hb (awake_calls w1))
    have HRA := Lib.hid hra
    have HRB := Lib.hid hrb
    have HA := Lib.hid hna
    have HB := Lib.hid hnb
    rw [← Crc.sum_append la lb] at SU
    rw [show ((nb : Int)).toNat = lb.length from by omega, Crc.comb_sum la lb] at SC
    clear hna hnb hra hrb
    go_enter Try.func9, Try.ntmps9
    go_wp2_with fail
    refine (HF w).out.mono ?_
    rintro e w1 ⟨rfl, rfl⟩
    have hb : Below w.heap.size w (w.alloc (.cells #[.slice A na ca, .slice B nb cb] 23)) := (Below.refl _ _).alloc (Nat.le_refl _) _
    generalize w.alloc (.cells #[.slice A na ca, .slice B nb cb] 23) = w1 at *
    have hsz := hb.size
    have HRA1 := Lib.hid (HRA.out.below hb)
    go_wp2_with (first
      | (at_builtin; refine wpList_app _ rfl (.tmp 12) (.tmp 13) 23 rfl w.heap.size 5 (.int .u8 0) 1 Try.underlying23 info_u8 rfl _ 0 [] rfl (World.ownsRow_made _ _ 0 hsz (by simp [maxLen]) rfl) A na ca (la.map vb) rfl (by rw [List.length_map]; exact HA.out) (Rd.alloc HRA1.out _) (vb_one _) (by simp only [maxLen]; omega) (by omega) (Nat.le_trans hsz (by simp)) ?_; intro v5 w5 hown5 happ5; have hb5 := (hb.alloc hsz _).trans (happ5.below (World.ownsRow_made _ _ 0 hsz (by simp [maxLen]) rfl) (Nat.le_trans hsz (by simp))))
      | (at_builtin; refine wpList_app _ rfl (.tmp 14) (.tmp 15) 23 rfl w.heap.size 5 (.int .u8 0) 1 Try.underlying23 info_u8 rfl v5 _ _ rfl hown5 B nb cb (lb.map vb) rfl (by rw [List.length_map]; exact HB.out) (Rd.below HRB.out hb5) (vb_one _) (by simp only [maxLen]; omega) (by omega) hb5.size ?_; intro v6 w6 hown6 happ6))
    have hb6 : Below w.heap.size w w6 := hb5.trans (happ6.below hown5 hb5.size)
    have hown7 : w6.ownsRow w.heap.size 5 1 v6 (na + nb) ((la ++ lb).map vb) := by simpa using hown6
    obtain ⟨X, cx, rfl, _, _, hlx, hrx⟩ := own_form hown7
    have HSX := Lib.hid (calls_below hb6 (sum_calls X (na + nb) cx (la ++ lb) w6 (by simpa using hlx) (by simp only [maxLen]; omega) hrx))
    clear hown5 happ5 hown6 happ6 hown7 hlx hrx hb5 hb HRA HRB HRA1 HA HB HF
    generalize Crc.sum (la ++ lb) = s3 at *
    generalize Crc.sum la = s1 at *
    generalize Crc.sum lb = s2 at *
    refine HSX.out.mono ?_
    rintro e w7 ⟨rfl, hb7⟩
    go_wp2_with fail
    refine (SA w7 hb7).out.mono ?_
    rintro e w8 ⟨rfl, hb8⟩
    go_wp2_with fail
    refine (SU w8 hb8).out.mono ?_
    rintro e w9 ⟨rfl, hb9⟩
    go_wp2_with fail
    refine (SA w9 hb9).out.mono ?_
    rintro e w10 ⟨rfl, hb10⟩
    go_wp2_with fail
    refine (SB w10 hb10).out.mono ?_
    rintro e w11 ⟨rfl, hb11⟩
    go_wp2_with fail
    refine (SC w11 hb11).out.mono ?_
    rintro e w12 ⟨rfl, hb12⟩
    go_wp2_with fail
    refine (SW w12 hb12).out.mono ?_
    rintro e w13 ⟨rfl, hb13⟩
    go_wp2_with fail
    go_ret
    exact ⟨rfl, hb13⟩
  · rw [few_two, show decide (na ≤ 600 ∧ nb ≤ 600) = false from by simpa using h6] at HF
    clear hna hnb hra hrb h6
    go_enter Try.func9, Try.ntmps9
    go_wp2_with fail
    refine (HF w).out.mono ?_
    rintro e w1 ⟨rfl, rfl⟩
    have hb : Below w.heap.size w (w.alloc (.cells #[.slice A na ca, .slice B nb cb] 23)) := (Below.refl _ _).alloc (Nat.le_refl _) _
    generalize w.alloc (.cells #[.slice A na ca, .slice B nb cb] 23) = w1 at *
    go_wp2_with fail
    refine (calls_below hb (awake_calls w1)).mono ?_
    rintro e w2 ⟨rfl, hb2⟩
    go_wp2_with fail
    go_ret
    exact ⟨rfl, hb2⟩
end Ck
end Go.Proofs.Ytgmeppjpiljifaa
