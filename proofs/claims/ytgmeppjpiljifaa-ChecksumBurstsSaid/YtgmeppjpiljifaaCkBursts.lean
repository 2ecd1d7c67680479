/- The walk of refmeshlaw04.ChecksumBursts. -/
import Derived.Test.YtgmeppjpiljifaaCkSums
import Derived.Test.YtgmeppjpiljifaaCkSeals
namespace Go.Proofs.Ytgmeppjpiljifaa
open Go.RowKit
namespace Ck

theorem few_nil (A : Option Addr) (n cap : Nat) (h : n ≤ 600) : fewB [(A, n, cap)] = true := few_one n h A cap

theorem pat_test (p : BitVec 64) (k : Nat) : (bits BinOp.and IntKind.u64 ((p.toNat : Int) / 2 ^ k) 1 == 1) = p.getLsbD k := by
  have h : (p.toNat : Int) / 2 ^ k = ((p >>> k).toNat : Int) := by
    rw [← shr_bv]; norm_cast
  rw [h, sh_test, BitVec.getLsbD_ushiftRight]; rfl

theorem bit8 (q : Nat) (h : q < 8) : (2 : Int) ^ q % (256 : Int) = ((1 <<< UInt8.ofNat q : UInt8).toNat : Int) := by
  have : q = 0 ∨ q = 1 ∨ q = 2 ∨ q = 3 ∨ q = 4 ∨ q = 5 ∨ q = 6 ∨ q = 7 := by omega
  rcases this with rfl | rfl | rfl | rfl | rfl | rfl | rfl | rfl <;> rfl
/-- a byte with one bit inverted -/
def flip8 (y : UInt8) (q : Nat) : UInt8 := y ^^^ (1 <<< UInt8.ofNat q)
theorem flip8_bits (y : UInt8) (q : Nat) (h : q < 8) : bits .xor .u8 (y.toNat : Int) ((2 : Int) ^ q % (256 : Int)) = ((flip8 y q).toNat : Int) := by
  rw [bit8 q h, u8_xor]; rfl

set_option maxRecDepth 100000 in
set_option maxHeartbeats 1000000 in
theorem bursts_calls (w : World) (A : Option Addr) (n cap : Nat) (l : List UInt8) (hn : l.length = n) (hnc : n ≤ cap) (_hm : cap ≤ maxLen) (hr : RB w A l) (at_ : Int) (ha0 : 0 ≤ at_) (ha1 : at_ ≤ 65535) (p : BitVec 64) :
    Calls Try.prog 4 #[.slice A n cap, .int .u16 at_, vw p] w fun e w' => e = .returned (.bool true) ∧ Below w.heap.size w w' := by
  have HF := fun w1 : World => Lib.hid (few_calls (some ⟨w1.heap.size, 0, none⟩) 1 1 [(A, n, cap)] (w1.alloc (.cells #[.slice A n cap] 23)) rfl (by simp [maxLen]) (Rd.new _ _ _ _))
  by_cases hmain : n ≤ 600 ∧ n ≠ 0 ∧ p ≠ 0#64
  · obtain ⟨h6, h0, hp⟩ := hmain
    have hd0 : ((n : Int) == 0) = false := by simp; omega
    have hdp : ((p.toNat : Int) == 0) = false := by
      rw [beq_eq_false_iff_ne]; intro hc; exact hp (BitVec.eq_of_toNat_eq (by simp; omega))
    obtain ⟨f, hf⟩ : ∃ f : Nat, at_ % (8 * (n : Int)) = (f : Int) := ⟨(at_ % (8 * (n : Int))).toNat, by have := Int.emod_nonneg at_ (b := 8 * (n : Int)) (by omega); omega⟩
    have hfl : f < 8 * n := by have := Int.emod_lt_of_pos at_ (b := 8 * (n : Int)) (by omega); omega
    have HR := Lib.hid hr
    have HN := Lib.hid hn
    have HSB := fun w1 hb => Lib.hid (sum_calls A n cap l w1 hn (by simp only [maxLen]; omega) (hr.below hb))
    rw [few_one n h6] at HF
    clear hr hn hp _hm
    go_enter Try.func4, Try.ntmps4
    go_wp2_with fail
    refine (HF w).out.mono ?_
    rintro e w1 ⟨rfl, rfl⟩
    have hb : Below w.heap.size w (w.alloc (.cells #[.slice A n cap] 23)) := (Below.refl _ _).alloc (Nat.le_refl _) _
    generalize w.alloc (.cells #[.slice A n cap] 23) = w1 at *
    have HR1 := Lib.hid (HR.out.below hb)
    have hsz := hb.size
    go_wp2_with (at_builtin; refine wpList_app _ rfl _ _ 23 rfl w.heap.size 5 (.int .u8 0) 1 Try.underlying23 info_u8 rfl _ 0 [] rfl (World.ownsRow_made _ _ 0 hsz (by simp [maxLen]) rfl) A n cap (l.map vb) rfl (by rw [List.length_map]; exact HN.out) (Rd.alloc HR1.out _) (vb_one _) (by simp only [maxLen]; omega) (by omega) (Nat.le_trans hsz (by simp)) ?_; intro v5 w5 hown5 happ5)
    have hb5 : Below w.heap.size w w5 := (hb.alloc hsz _).trans (happ5.below (World.ownsRow_made _ _ 0 hsz (by simp [maxLen]) rfl) (Nat.le_trans hsz (by simp)))
    have hown' : w5.ownsRow w.heap.size 5 1 v5 n (l.map vb) := by simpa using hown5
    clear hown5 happ5 hb HR1 HR
    rcases hown'.2 with ⟨_, hz⟩ | ⟨g, cx, cur, rfl, hg, _, hncx, _⟩
    · omega
    have HB := Lib.hid hb5
    have HO := Lib.hid hown'
    clear hb5 hown' HF
    go_wp2_with fail
    go_loopw [10, 9] (fun i ch wr => ∃ k : Nat, k ≤ 64 ∧ (k = 0 ∨ f + (k - 1) < 8 * n) ∧ i = .int .i64 k ∧ ch = .bool (Crc.msk p k != 0#64) ∧ wr.ownsRow w.heap.size 5 1 (.slice (some ⟨g, 0, none⟩) n cx) n ((Crc.burst l f p k).map vb) ∧ Below w.heap.size w wr) (fun i _ _ => 64 - (intOf i).toNat)
    case atStart => exact ⟨0, by omega, .inl rfl, rfl, by rw [Crc.msk_zero]; rfl, HO.out, HB.out⟩
    case round =>
      obtain ⟨k, hk, hkf, rfl, rfl, hown, hbel⟩ := hrel
      clear HO HB
      have HO := Lib.hid hown
      have HB := Lib.hid hbel
      have HKF := Lib.hid hkf
      clear hown hbel hkf
      by_cases hin : k < 64 ∧ f + k < 8 * n
      · obtain ⟨hk64, hfk⟩ := hin
        have hd1 : decide ((k : Int) < 64) = true := by simp; omega
        have hd2 : decide ((f : Int) + (k : Int) < 8 * (n : Int)) = true := by simp; omega
        have hpt := pat_test p k
        cases hbit : p.getLsbD k
        · rw [hbit] at hpt
          have HM := Lib.hid (Crc.msk_false p k hk64 hbit)
          have HBu : Hid (Crc.burst l f p (k + 1) = Crc.burst l f p k) := by show _ = _; simp only [Crc.burst, hbit]; rfl
          clear hbit
          go_wp2_with fail
          go_roundw
          case rel => exact ⟨k + 1, by omega, .inr (by omega), by go_num, by rw [HM.out], by rw [HBu.out]; exact HO.out, HB.out⟩
          case measure => simp [intOf]; omega
        · rw [hbit] at hpt
          have HM := Lib.hid (Crc.msk_true p k hk64 hbit)
          have hq : (f + k) / 8 < n := by omega
          have hlen : (f + k) / 8 < (Crc.burst l f p k).length := by rw [Crc.burst_length, HN.out]; exact hq
          have hcell : wr.cell? ⟨g, (f + k) / 8, none⟩ = some (vb ((Crc.burst l f p k).getD ((f + k) / 8) 0)) := by
            rw [HO.out.cellAt _ (by omega)]
            simp [hlen]
          have hfr : wr.frozen? ⟨g, (f + k) / 8, none⟩ = false := HO.out.frozenAt _
          have HBu : Hid (Crc.burst l f p (k + 1) = (Crc.burst l f p k).set ((f + k) / 8) (flip8 ((Crc.burst l f p k).getD ((f + k) / 8) 0) ((f + k) % 8))) := by show _ = _; simp only [Crc.burst, hbit]; rfl
          clear hbit hlen
          generalize (Crc.burst l f p k).getD ((f + k) / 8) 0 = y at *
          have hsx := flip8_bits y ((f + k) % 8) (Nat.mod_lt _ (by omega))
          generalize flip8 y ((f + k) % 8) = z at *
          have q0 : (0 : Int) ≤ ((f : Int) + (k : Int)) / 8 := by omega
          have q1 : ((f : Int) + (k : Int)) / 8 < (n : Int) := by omega
          have q2 : (0 : Int) ≤ ((f : Int) + (k : Int)) % 8 := by omega
          have q3 : ((f : Int) + (k : Int)) % 8 < 8 := by omega
          go_wp2_with fail
          go_region
          have HO2 : Hid ((wr.setCell ⟨g, (f + k) / 8, none⟩ (vb z)).drew.ownsRow w.heap.size 5 1 (.slice (some ⟨g, 0, none⟩) n cx) n ((Crc.burst l f p (k + 1)).map vb)) := by
            have h2 := own_set HO.out ((f + k) / 8) (vb z) hq
            show World.ownsRow _ _ _ _ _ _ _
            rw [HBu.out, List.map_set]
            exact h2.drew
          have HB2 := Lib.hid ((HB.out.setCell (p := ⟨g, (f + k) / 8, none⟩) hg (vb z)).drew)
          generalize (wr.setCell ⟨g, (f + k) / 8, none⟩ (vb z)).drew = w9 at *
          clear hcell hfr hsx HO HB
          go_wp2_with fail
          go_roundw
          case rel => exact ⟨k + 1, by omega, .inr (by omega), by go_num, by rw [HM.out], HO2.out, HB2.out⟩
          case measure => simp [intOf]; omega
      · have hex : decide ((k : Int) < 64) = false ∨ (decide ((k : Int) < 64) = true ∧ decide ((f : Int) + (k : Int) < 8 * (n : Int)) = false) := by
          by_cases h64 : k < 64
          · exact .inr ⟨by simp; omega, by simp; omega⟩
          · exact .inl (by simp; omega)
        have HSu := Lib.hid (Crc.sum_burst l f p k (by rw [HN.out]; exact HKF.out) hk)
        obtain ⟨_, _, hv, _, _, _, hrx⟩ := own_form HO.out
        cases hv
        have HSX := Lib.hid (calls_below HB.out (sum_calls _ n cx (Crc.burst l f p k) wr (by rw [Crc.burst_length]; exact HN.out) (by simp only [maxLen]; omega) hrx))
        have HSY := fun w1 (hb : Below w.heap.size w w1) => Lib.hid (calls_below hb (HSB w1 hb).out)
        have HSW := fun w1 (hb : Below w.heap.size w w1) => Lib.hid (calls_below hb (awake_calls w1))
        have HCmp : Hid ((((Crc.sum (Crc.burst l f p k)).toNat : Int) != ((Crc.sum l).toNat : Int)) = (Crc.msk p k != 0#64)) := by
          show _ = _
          by_cases hz : Crc.msk p k = 0#64
          · rw [HSu.out.2 hz, hz]; simp
          · have hne : Crc.sum (Crc.burst l f p k) ≠ Crc.sum l := fun hc => hz (HSu.out.1 hc)
            have h1 : (Crc.msk p k != 0#64) = true := by simpa using hz
            rw [h1, bne_iff_ne]
            intro hc
            exact hne (BitVec.eq_of_toNat_eq (by omega))
        have hcmp := HCmp.out
        clear HCmp HSB HSu HO hrx hin HN
        generalize Crc.sum (Crc.burst l f p k) = s1 at *
        generalize Crc.sum l = s2 at *
        generalize (Crc.msk p k != 0#64) = ch at *
        rcases hex with hd1 | ⟨hd1, hd2⟩
        all_goals
          go_wp2_with fail
          refine HSX.out.mono ?_
          rintro e w6 ⟨rfl, hb6⟩
          go_wp2_with fail
          refine (HSY w6 hb6).out.mono ?_
          rintro e w7 ⟨rfl, hb7⟩
          cases ch
          all_goals
            go_wp2_with fail
            refine (HSW w7 hb7).out.mono ?_
            rintro e w8 ⟨rfl, hb8⟩
            go_wp2_with fail
            go_ret
            exact ⟨rfl, hb8⟩
  · by_cases h6 : n ≤ 600
    · rw [few_one n h6] at HF
      have hc : ((n : Int) == 0) = true ∨ (((n : Int) == 0) = false ∧ ((p.toNat : Int) == 0) = true) := by
        by_cases h0 : n = 0
        · exact .inl (by simp; omega)
        · refine .inr ⟨by simp; omega, ?_⟩
          have hp : p = 0#64 := Classical.byContradiction fun hp => hmain ⟨h6, h0, hp⟩
          rw [hp]; rfl
      clear hmain hn hr
      rcases hc with hd0 | ⟨hd0, hd1⟩
      all_goals
        go_enter Try.func4, Try.ntmps4
        go_wp2_with fail
        refine (HF w).out.mono ?_
        rintro e w1 ⟨rfl, rfl⟩
        have hb : Below w.heap.size w (w.alloc (.cells #[.slice A n cap] 23)) := (Below.refl _ _).alloc (Nat.le_refl _) _
        generalize w.alloc (.cells #[.slice A n cap] 23) = w1 at *
        go_wp2_with fail
        refine (awake_calls _).mono ?_
        rintro e w4 ⟨rfl, hb2⟩
        replace hb := hb.trans (hb2.mono hb.size)
        clear hb2
        go_wp2_with fail
        go_ret
        exact ⟨rfl, hb⟩
    · rw [few_one' n h6] at HF
      go_enter Try.func4, Try.ntmps4
      go_wp2_with fail
      refine (HF w).out.mono ?_
      rintro e w1 ⟨rfl, rfl⟩
      have hb : Below w.heap.size w (w.alloc (.cells #[.slice A n cap] 23)) := (Below.refl _ _).alloc (Nat.le_refl _) _
      generalize w.alloc (.cells #[.slice A n cap] 23) = w1 at *
      go_wp2_with fail
      refine (awake_calls _).mono ?_
      rintro e w4 ⟨rfl, hb2⟩
      replace hb := hb.trans (hb2.mono hb.size)
      clear hb2
      go_wp2_with fail
      go_ret
      exact ⟨rfl, hb⟩
end Ck
end Go.Proofs.Ytgmeppjpiljifaa
