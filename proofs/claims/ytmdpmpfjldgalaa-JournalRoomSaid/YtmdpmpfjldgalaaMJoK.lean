/- The walk of the law JournalRoom. -/
import Derived.Test.YtmdpmpfjldgalaaMJoJ
namespace Go.Proofs.Ytmdpmpfjldgalaa
open Go.RowKit
namespace Jn
open Dk Wi Wr

set_option maxRecDepth 100000 in
set_option maxHeartbeats 8000000 in
theorem jroom_law (w : World) (sb : UInt8) (A : Option Addr) (n ca : Nat) (ms : List Om) (hn : ms.length = n) (hr : RdO w A ms) (hnm : n ≤ 9223372036854775807)
    (Br : Option Addr) (rn rc : Nat) (rr : List UInt8) (hr2 : rr.length = rn) (hrc : rn ≤ rc) (hrm : rc ≤ maxLen) (hrr : RB w Br rr) :
    Calls Try.prog 7 #[vb sb, .slice A n ca, .slice Br rn rc] w fun e w' => e = .returned (.bool true) ∧ Below w.heap.size w w' := by
  have HN := Lib.hid hn
  have HR := Lib.hid hr
  have HR2 := Lib.hid hr2
  have HRR := Lib.hid hrr
  have HSC : Hid (rr.length ≤ rc ∧ rc ≤ maxLen) := ⟨by rw [hr2]; exact hrc, hrm⟩
  have HFEW := Lib.hid (ofew_calls A n ca 20 ms w hn hr hnm)
  rw [show ((20 : Nat) : Int) = 20 from rfl] at HFEW
  unfold maxLen at hrm
  have hrn : rn ≤ 9223372036854775807 := by omega
  clear hn hr hr2 hrr hrc hrm
  unfold vb
  go_enter Try.func7, Try.ntmps7
  go_wp2_with fail
  (with_reducible refine HFEW.out.mono ?_)
  rintro e w1 ⟨rfl, hb1⟩
  have HB1 := Lib.hid hb1
  have HAW := Lib.hid (oawake_calls w1)
  cases hf : fewO ms 20 with
  | false =>
    clear hb1 HFEW
    (go_wp2_with fail; (with_reducible refine HAW.out.mono ?_); rintro e w2 ⟨rfl, hb2⟩; have HF := Lib.hid (HB1.out.trans (hb2.mono HB1.out.size)); clear hb2; go_wp2_with fail; go_ret; exact ⟨rfl, HF.out⟩)
  | true =>
    obtain ⟨hall, hn20⟩ := fewO_of hf
    have HPC := Lib.hid (play_calls w1 sb A n ca ms HN.out (HR.out.below hb1) (fun m hm => (hall m hm).1) hnm)
    clear hf hall hb1 HFEW
    by_cases h2 : rn ≤ 2000
    · have d2 : decide ((2000 : Int) < (rn : Int)) = false := by simp; omega
      have HRR1 := Lib.hid (RB.below HRR.out HB1.out)
      obtain ⟨NR, hNR, hNRl⟩ := arg_inR HRR1.out HSC.out.1 HSC.out.2
      have HNR := Lib.hid hNR
      have HNRL := Lib.hid hNRl
      clear HAW hNR hNRl
      go_wp2_with fail
      (with_reducible refine HPC.out.mono ?_)
      rintro e w2 ⟨x, N, hN2, hN41, rfl, hpb⟩
      obtain ⟨g, q, F, D, j, hpj, hp, hDn⟩ := hpb.pj
      have HPJ := Lib.hid hpj
      have HP := Lib.hid hp
      have hD : D.n ≤ 100 := hp.hn
      have hrl50 : j.rs.length ≤ 1000 := hpj.rsl hD
      have HJT2 : Hid (j.t ≤ 1099511627776) := hp.t2
      have hbl := blockL_len j.t (j.rs.length + 1) rr
      have HAB : Hid (apB j rr = blockL j.t (j.rs.length + 1) rr) := rfl
      obtain ⟨K, HK⟩ : ∃ y, Hid ((blockL j.t (j.rs.length + 1) rr).length = y) := ⟨_, rfl⟩
      rw [HK.out] at hbl
      have HRBK : ∀ u, Below w2.heap.size w2 u → Hid (Calls Try.prog 34 #[.int .i64 (j.t : Int), .int .i64 ((j.rs.length + 1 : Nat) : Int), .slice Br rn rc] u fun e w' => ∃ X c, e = .returned (.slice X K c) ∧ Below w2.heap.size w2 w') := fun u hu => by
        refine (rblock_calls j.t (j.rs.length + 1) Br rn rc rr u HR2.out (RB.below HRR1.out (hpj.b.trans (hu.mono hpj.b.size))) (by omega) (by have := HJT2.out; omega) (by omega)).mono ?_
        rintro e w' ⟨X, c, k, rfl, hk, _, hb⟩
        rw [HK.out] at hk
        subst hk
        exact ⟨X, c, rfl, hu.trans (hb.mono hu.size)⟩
      have HTU : ∀ u, Below w2.heap.size w2 u → Hid (Calls Try.prog 35 #[.pointer (some ⟨q, 0, none⟩)] u fun e w' => e = .returned (.int .i64 (j.t : Int)) ∧ Below w2.heap.size w2 w') := fun u hu => ((HPJ.out.below hu).turn).mono fun _ _ ⟨a, b⟩ => ⟨a, b ▸ hu⟩
      have HRE : ∀ u, Below w2.heap.size w2 u → Hid (Calls Try.prog 36 #[.pointer (some ⟨q, 0, none⟩)] u fun e w' => ∃ X c, e = .returned (.slice X j.rs.length c) ∧ Below w2.heap.size w2 w') := fun u hu => ((HPJ.out.below hu).records hD).mono fun _ _ ⟨X, c, a, b⟩ => ⟨X, c, a, hu.trans (b.mono hu.size)⟩
      obtain ⟨jt, HJT⟩ : ∃ y, Hid (j.t = y) := ⟨_, rfl⟩
      obtain ⟨rl, HRL⟩ : ∃ y, Hid (j.rs.length = y) := ⟨_, rfl⟩
      obtain ⟨rl1, HRL1⟩ : ∃ y, Hid (rl + 1 = y) := ⟨_, rfl⟩
      obtain ⟨nb, HNB⟩ : ∃ y, Hid (K / 64 = y) := ⟨_, rfl⟩
      rw [HRL.out] at hrl50
      rw [HJT.out] at HTU HRBK
      rw [HRL.out] at HRE HRBK
      rw [HRL1.out] at HRBK
      have wsum : IntKind.i64.wrap ((rl : Int) + 1) = (rl1 : Int) := by have := HRL1.out; rw [IntKind.wrap_i64]; omega
      have en2 : Int.tdiv (K : Int) 64 = (nb : Int) := by have := HNB.out; rw [Int.tdiv_eq_ediv_of_nonneg (by omega)]; omega
      have wnb : IntKind.i64.wrap (nb : Int) = (nb : Int) := wi_nat (by have := HNB.out; have := HR2.out; omega)
      have c1 : ∀ u, Below w2.heap.size w2 u → u.cell? ⟨x, 1, none⟩ = some (.pointer (some ⟨q, 0, none⟩)) := fun u hu => (HPJ.out.below hu).c1
      have HKB : Hid (K % 64 = 0 ∧ 64 ≤ K ∧ K < rr.length + 99) := hbl
      clear hpb hpj hp HPC hbl
      go_upto_region 6 with (fail)
      go_region_held3 (fun w' => Below w2.heap.size w2 w') (first | exact (Below.refl _ _).drew | assumption) (first | (go_at_call 35; (with_reducible refine (HTU _ (by assumption)).out.mono ?_); rintro e w3 ⟨rfl, hb3⟩) | (go_at_call 36; (with_reducible refine (HRE _ (by assumption)).out.mono ?_); rintro e w4 ⟨X4, c4, rfl, hb4⟩) | (go_at_call 34; (with_reducible refine (HRBK _ (by assumption)).out.mono ?_); rintro e w5 ⟨X5, c5, rfl, hb5⟩))
      have HPJ5 := Lib.hid (HPJ.out.below hb5)
      clear HTU HRE HRBK c1 hb3 hb4 hb5 wsum
      obtain ⟨rm, HRM⟩ : ∃ y, Hid (half D - j.e = y) := ⟨_, rfl⟩
      have HRO : ∀ u, Below w5.heap.size w5 u → Hid (Calls Try.prog 25 #[.pointer (some ⟨q, 0, none⟩)] u fun e w' => e = .returned (.int .i64 (rm : Int)) ∧ Below w5.heap.size w5 w' ∧ Below u.heap.size u w') := fun u hu => by
        rw [← HRM.out]; exact ((HPJ5.out.below hu).room hD).mono fun _ _ ⟨a, b⟩ => ⟨a, hu.trans (b.mono hu.size), b⟩
      have HSN : ∀ u, Below w5.heap.size w5 u → Hid (Calls Try.prog 24 #[.pointer (some ⟨q, 0, none⟩)] u fun e w' => ∃ sa sl sc ra rl rc N, e = .returned (.agg #[.slice none 0 0, .slice none 0 0, .bool false, .int .i64 0, .int .i64 (jt : Int), .slice sa sl sc, .slice ra rl rc, .int .i64 0, .bool false]) ∧ SmV w' N (.agg #[.slice none 0 0, .slice none 0 0, .bool false, .int .i64 0, .int .i64 (jt : Int), .slice sa sl sc, .slice ra rl rc, .int .i64 0, .bool false]) j.t j.s j.rs ∧ (∀ y ∈ N, u.heap.size ≤ y ∧ y < w'.heap.size) ∧ Below w5.heap.size w5 w' ∧ Below u.heap.size u w') := fun u hu => by
        rw [← HJT.out]
        refine ((HPJ5.out.below hu).seenN hD).mono ?_
        rintro e w' ⟨sa, sl, sc, ra, rl, rc, N, rfl, hv, hb, hN⟩
        exact ⟨sa, sl, sc, ra, rl, rc, N, rfl, hv, hN, hu.trans (hb.mono hu.size), hb⟩
      have k1 : ∀ u, Below w5.heap.size w5 u → u.cell? ⟨x, 1, none⟩ = some (.pointer (some ⟨q, 0, none⟩)) := fun u hu => (HPJ5.out.below hu).c1
      have HW1 : Hid (w1.heap.size ≤ w5.heap.size) := HPJ5.out.b.size
      go_upto_region 7 with (fail)
      go_cut [10, 11] (fun a p wx => ∃ b F2, a = .int .i64 (rm : Int) ∧ p = .pointer (some ⟨b, 0, none⟩) ∧ (w1.heap.size ≤ b ∧ x ≠ b) ∧ PJ w1 x g q F2 D j wx ∧ WB w1 F2 b j.t j.s j.rs wx)
      case first =>
        have k5 : w5.cell? ⟨x, 1, none⟩ = some (.pointer (some ⟨q, 0, none⟩)) := k1 w5 (Below.refl _ _)
        have hx5 : x < w5.heap.size := HPJ5.out.xl
        have k5a : ∀ o : Obj, (w5.alloc o).cell? ⟨x, 1, none⟩ = some (.pointer (some ⟨q, 0, none⟩)) := fun o => (World.cell?_alloc_lt w5 o ⟨x, 1, none⟩ hx5).trans k5
        go_region_law (first | (go_simp; go_at_call 25; (with_reducible refine (HRO w5.drew (Go.Proofs.Ytmdpmpfjldgalaa.below_drew w5)).out.mono ?_); rintro e w6 ⟨rfl, hb6, _⟩; have k6 := k1 w6 hb6; have hx6 : x < w6.heap.size := Nat.lt_of_lt_of_le hx5 hb6.size; have k6a : ∀ o : Obj, (w6.alloc o).cell? ⟨x, 1, none⟩ = some (.pointer (some ⟨q, 0, none⟩)) := fun o => (World.cell?_alloc_lt w6 o ⟨x, 1, none⟩ hx6).trans k6) | (go_simp; go_at_call 25; (with_reducible refine (HRO (w5.alloc (.cells #[.slice none 0 0, .slice none 0 0, .bool false, .int .i64 0, .int .i64 0, .slice none 0 0, .slice none 0 0, .int .i64 0, .bool false] 46)).drew ((Below.refl _ _).alloc (Nat.le_refl _) _).drew).out.mono ?_); rintro e w6 ⟨rfl, hb6, hbu6⟩; have HZ6 : Hid (w6.heap[w5.heap.size]? = some (.cells #[.slice none 0 0, .slice none 0 0, .bool false, .int .i64 0, .int .i64 0, .slice none 0 0, .slice none 0 0, .int .i64 0, .bool false] 46 (0, 0))) := (hbu6.block w5.heap.size (by show _ < (w5.alloc (.cells #[.slice none 0 0, .slice none 0 0, .bool false, .int .i64 0, .int .i64 0, .slice none 0 0, .slice none 0 0, .int .i64 0, .bool false] 46)).heap.size; simp)).trans (heap_alloc_new w5 (.cells #[.slice none 0 0, .slice none 0 0, .bool false, .int .i64 0, .int .i64 0, .slice none 0 0, .slice none 0 0, .int .i64 0, .bool false] 46)); have k6 := k1 w6 hb6; clear hbu6) | (have _h := HZ6; go_simp; go_at_call 24; (with_reducible refine (HSN w6 hb6).out.mono ?_); rintro e w7 ⟨sa7, sl7, sc7, ra7, rl7, rc7, N7, rfl, hv7, hN7, hb7, hbu7⟩; have HZ7 := Lib.hid ((hbu7.block _ (Array.getElem?_eq_some_iff.1 HZ6.out).1).trans HZ6.out); have HV7 := Lib.hid hv7; have HN7 := Lib.hid hN7; clear hv7 hN7 hbu7; have zc0 : w7.cell? ⟨w5.heap.size, 0, none⟩ = some _ := (cell_of_row _ _ 0 _ _ _ HZ7.out).trans rfl; have zf0 : w7.frozen? ⟨w5.heap.size, 0, none⟩ = false := frozen_of_row _ _ _ _ _ HZ7.out; have zc1 : w7.cell? ⟨w5.heap.size, 1, none⟩ = some _ := (cell_of_row _ _ 1 _ _ _ HZ7.out).trans rfl; have zf1 : w7.frozen? ⟨w5.heap.size, 1, none⟩ = false := frozen_of_row _ _ _ _ _ HZ7.out; have zc2 : w7.cell? ⟨w5.heap.size, 2, none⟩ = some _ := (cell_of_row _ _ 2 _ _ _ HZ7.out).trans rfl; have zf2 : w7.frozen? ⟨w5.heap.size, 2, none⟩ = false := frozen_of_row _ _ _ _ _ HZ7.out; have zc3 : w7.cell? ⟨w5.heap.size, 3, none⟩ = some _ := (cell_of_row _ _ 3 _ _ _ HZ7.out).trans rfl; have zf3 : w7.frozen? ⟨w5.heap.size, 3, none⟩ = false := frozen_of_row _ _ _ _ _ HZ7.out; have zc4 : w7.cell? ⟨w5.heap.size, 4, none⟩ = some _ := (cell_of_row _ _ 4 _ _ _ HZ7.out).trans rfl; have zf4 : w7.frozen? ⟨w5.heap.size, 4, none⟩ = false := frozen_of_row _ _ _ _ _ HZ7.out; have zc5 : w7.cell? ⟨w5.heap.size, 5, none⟩ = some _ := (cell_of_row _ _ 5 _ _ _ HZ7.out).trans rfl; have zf5 : w7.frozen? ⟨w5.heap.size, 5, none⟩ = false := frozen_of_row _ _ _ _ _ HZ7.out; have zc6 : w7.cell? ⟨w5.heap.size, 6, none⟩ = some _ := (cell_of_row _ _ 6 _ _ _ HZ7.out).trans rfl; have zf6 : w7.frozen? ⟨w5.heap.size, 6, none⟩ = false := frozen_of_row _ _ _ _ _ HZ7.out; have zc7 : w7.cell? ⟨w5.heap.size, 7, none⟩ = some _ := (cell_of_row _ _ 7 _ _ _ HZ7.out).trans rfl; have zf7 : w7.frozen? ⟨w5.heap.size, 7, none⟩ = false := frozen_of_row _ _ _ _ _ HZ7.out; have zc8 : w7.cell? ⟨w5.heap.size, 8, none⟩ = some _ := (cell_of_row _ _ 8 _ _ _ HZ7.out).trans rfl; have zf8 : w7.frozen? ⟨w5.heap.size, 8, none⟩ = false := frozen_of_row _ _ _ _ _ HZ7.out) | (go_simp; go_at_call 24; (with_reducible refine (HSN (w6.alloc (.cells #[.slice none 0 0, .slice none 0 0, .bool false, .int .i64 0, .int .i64 0, .slice none 0 0, .slice none 0 0, .int .i64 0, .bool false] 46)) (Below.alloc hb6 hb6.size _)).out.mono ?_); rintro e w7 ⟨sa7, sl7, sc7, ra7, rl7, rc7, N7, rfl, hv7, hN7, hb7, hbu7⟩; have HZ8 : Hid (w7.heap[w6.heap.size]? = some (.cells #[.slice none 0 0, .slice none 0 0, .bool false, .int .i64 0, .int .i64 0, .slice none 0 0, .slice none 0 0, .int .i64 0, .bool false] 46 (0, 0))) := (hbu7.block w6.heap.size (by simp)).trans (heap_alloc_new w6 (.cells #[.slice none 0 0, .slice none 0 0, .bool false, .int .i64 0, .int .i64 0, .slice none 0 0, .slice none 0 0, .int .i64 0, .bool false] 46)); have HV7 := Lib.hid hv7; have HN7 := Lib.hid hN7; clear hv7 hN7 hbu7; have zc0 : w7.cell? ⟨w6.heap.size, 0, none⟩ = some _ := (cell_of_row _ _ 0 _ _ _ HZ8.out).trans rfl; have zf0 : w7.frozen? ⟨w6.heap.size, 0, none⟩ = false := frozen_of_row _ _ _ _ _ HZ8.out; have zc1 : w7.cell? ⟨w6.heap.size, 1, none⟩ = some _ := (cell_of_row _ _ 1 _ _ _ HZ8.out).trans rfl; have zf1 : w7.frozen? ⟨w6.heap.size, 1, none⟩ = false := frozen_of_row _ _ _ _ _ HZ8.out; have zc2 : w7.cell? ⟨w6.heap.size, 2, none⟩ = some _ := (cell_of_row _ _ 2 _ _ _ HZ8.out).trans rfl; have zf2 : w7.frozen? ⟨w6.heap.size, 2, none⟩ = false := frozen_of_row _ _ _ _ _ HZ8.out; have zc3 : w7.cell? ⟨w6.heap.size, 3, none⟩ = some _ := (cell_of_row _ _ 3 _ _ _ HZ8.out).trans rfl; have zf3 : w7.frozen? ⟨w6.heap.size, 3, none⟩ = false := frozen_of_row _ _ _ _ _ HZ8.out; have zc4 : w7.cell? ⟨w6.heap.size, 4, none⟩ = some _ := (cell_of_row _ _ 4 _ _ _ HZ8.out).trans rfl; have zf4 : w7.frozen? ⟨w6.heap.size, 4, none⟩ = false := frozen_of_row _ _ _ _ _ HZ8.out; have zc5 : w7.cell? ⟨w6.heap.size, 5, none⟩ = some _ := (cell_of_row _ _ 5 _ _ _ HZ8.out).trans rfl; have zf5 : w7.frozen? ⟨w6.heap.size, 5, none⟩ = false := frozen_of_row _ _ _ _ _ HZ8.out; have zc6 : w7.cell? ⟨w6.heap.size, 6, none⟩ = some _ := (cell_of_row _ _ 6 _ _ _ HZ8.out).trans rfl; have zf6 : w7.frozen? ⟨w6.heap.size, 6, none⟩ = false := frozen_of_row _ _ _ _ _ HZ8.out; have zc7 : w7.cell? ⟨w6.heap.size, 7, none⟩ = some _ := (cell_of_row _ _ 7 _ _ _ HZ8.out).trans rfl; have zf7 : w7.frozen? ⟨w6.heap.size, 7, none⟩ = false := frozen_of_row _ _ _ _ _ HZ8.out; have zc8 : w7.cell? ⟨w6.heap.size, 8, none⟩ = some _ := (cell_of_row _ _ 8 _ _ _ HZ8.out).trans rfl; have zf8 : w7.frozen? ⟨w6.heap.size, 8, none⟩ = false := frozen_of_row _ _ _ _ _ HZ8.out) | (go_simp; go_at_call 24; (with_reducible refine (HSN w6 hb6).out.mono ?_); rintro e w7 ⟨sa7, sl7, sc7, ra7, rl7, rc7, N7, rfl, hv7, hN7, hb7, hbu7⟩; have HV7 := Lib.hid hv7; have HN7 := Lib.hid hN7; clear hv7 hN7 hbu7))
        all_goals
          have HB7 : Below w5.heap.size w5 w7 := hb7
          have hs6 : w5.heap.size ≤ w6.heap.size := hb6.size
          have HNN : Hid (∀ y ∈ N7, w5.heap.size ≤ y ∧ y < w7.heap.size) := fun y hy => ⟨Nat.le_trans (Nat.le_trans hs6 (by simp)) (HN7.out y hy).1, (HN7.out y hy).2⟩
          first
            | (have HG := Lib.hid (was_set (nb := w5.heap.size) HPJ5.out HB7 HNN.out HV7.out HZ7.out (Nat.le_refl _) (fun hy => by have h1 := (HN7.out _ hy).1; have h2 := (Array.getElem?_eq_some_iff.1 HZ6.out).1; omega)); have HGE : Hid (w1.heap.size ≤ w5.heap.size ∧ x ≠ w5.heap.size) := ⟨HW1.out, by omega⟩
               clear hs6 HZ7 HV7 zc0 zf0 zc1 zf1 zc2 zf2 zc3 zf3 zc4 zf4 zc5 zf5 zc6 zf6 zc7 zf7 zc8 zf8
               generalize (((((((((w7.setCell ⟨w5.heap.size, 0, none⟩ (.slice none 0 0)).setCell ⟨w5.heap.size, 1, none⟩ (.slice none 0 0)).setCell ⟨w5.heap.size, 2, none⟩ (.bool false)).setCell ⟨w5.heap.size, 3, none⟩ (.int .i64 0)).setCell ⟨w5.heap.size, 4, none⟩ (.int .i64 (jt : Int))).setCell ⟨w5.heap.size, 5, none⟩ (.slice sa7 sl7 sc7)).setCell ⟨w5.heap.size, 6, none⟩ (.slice ra7 rl7 rc7)).setCell ⟨w5.heap.size, 7, none⟩ (.int .i64 0)).setCell ⟨w5.heap.size, 8, none⟩ (.bool false)) = wz at HG ⊢)
            | (have HG := Lib.hid (was_set (nb := w6.heap.size) HPJ5.out HB7 HNN.out HV7.out HZ8.out hs6 (fun hy => by have h1 := (HN7.out _ hy).1; have h2 : (w6.alloc (.cells #[.slice none 0 0, .slice none 0 0, .bool false, .int .i64 0, .int .i64 0, .slice none 0 0, .slice none 0 0, .int .i64 0, .bool false] 46)).heap.size = w6.heap.size + 1 := (by simp); omega)); have HGE : Hid (w1.heap.size ≤ w6.heap.size ∧ x ≠ w6.heap.size) := ⟨Nat.le_trans HW1.out hs6, by omega⟩
               clear hs6 HZ8 HV7 zc0 zf0 zc1 zf1 zc2 zf2 zc3 zf3 zc4 zf4 zc5 zf5 zc6 zf6 zc7 zf7 zc8 zf8
               generalize (((((((((w7.setCell ⟨w6.heap.size, 0, none⟩ (.slice none 0 0)).setCell ⟨w6.heap.size, 1, none⟩ (.slice none 0 0)).setCell ⟨w6.heap.size, 2, none⟩ (.bool false)).setCell ⟨w6.heap.size, 3, none⟩ (.int .i64 0)).setCell ⟨w6.heap.size, 4, none⟩ (.int .i64 (jt : Int))).setCell ⟨w6.heap.size, 5, none⟩ (.slice sa7 sl7 sc7)).setCell ⟨w6.heap.size, 6, none⟩ (.slice ra7 rl7 rc7)).setCell ⟨w6.heap.size, 7, none⟩ (.int .i64 0)).setCell ⟨w6.heap.size, 8, none⟩ (.bool false)) = wz at HG ⊢)
            | (have HG := Lib.hid (was_alloc HPJ5.out HB7 HNN.out HV7.out); have HGE : Hid (w1.heap.size ≤ w7.heap.size ∧ x ≠ w7.heap.size) := ⟨Nat.le_trans HW1.out HB7.size, by have := HB7.size; omega⟩
               clear hs6 HV7
               generalize (w7.alloc (.cells #[.slice none 0 0, .slice none 0 0, .bool false, .int .i64 0, .int .i64 (jt : Int), .slice sa7 sl7 sc7, .slice ra7 rl7 rc7, .int .i64 0, .bool false] 46)) = wz at HG ⊢)
          clear HSN HRO k1
          go_wp2_with fail
          go_meet
          obtain ⟨F2, g1, g2⟩ := HG.out
          exact ⟨_, F2, rfl, rfl, HGE.out, g1, g2⟩
      case rest =>
      obtain ⟨b, F2, rfl, rfl, hb1w, hpj, hwb⟩ := hcut
      have HPC := Lib.hid hpj
      have HWC := Lib.hid hwb
      have HB1W := Lib.hid hb1w
      have HAP := hpj.append_calls Br rn rc rr HR2.out (by omega) HRR1.out hD HP.out.calm
      have HAE := Lib.hid (HP.out.appe rr)
      obtain ⟨er, HER⟩ : ∃ y, Hid (appE D j rr = y) := ⟨_, rfl⟩
      rw [HER.out] at HAP HAE
      have HAPP := Lib.hid HAP
      have hle := HP.out.le
      have x1 := hpj.c1
      clear hpj hwb hb1w HAP HSN HRO k1 HPJ5
      go_wp2_with fail
      (with_reducible refine HAPP.out.mono ?_)
      rintro e w8 ⟨rfl, hpj8, hk8⟩
      have HP8 := Lib.hid hpj8
      have HW8 := Lib.hid (HWC.out.kept hk8 HPC.out.b hpj8.b)
      clear hpj8 hk8 HAPP x1 HWC HPC
      have HFB : Hid (apFull D j rr = decide (half D < j.e + nb)) := by
        show _ = _
        unfold apFull
        rw [HAB.out, HK.out, HNB.out]
      rcases HAE.out with ⟨hfu, he, hd, hj⟩ | ⟨hfu, he, hp2, hn2, hj⟩
      · subst he
        rw [HFB.out, decide_eq_true_eq] at hfu
        have hlt : rm < nb := by have := HRM.out; omega
        have d6 : decide ((rm : Int) < (nb : Int)) = true := by simp; omega
        have d7 : decide (rm < nb) = true := by simpa using hlt
        have h8 := HP8.out
        rw [hd, hj] at h8
        have HP9 := Lib.hid h8
        obtain ⟨c0, c1, c2, c3, c4, c5, c6, c7, c8, NW, hbd, hsm, hbF, hNF, hbNW⟩ := HW8.out
        clear hd hj HP8 h8 hfu hbF hNF hbNW hlt
        have HBD := Lib.hid hbd
        have HSM := Lib.hid hsm
        have HBS : Hid (b < w8.heap.size) := (Array.getElem?_eq_some_iff.1 hbd).1
        have hrl : j.rs.length ≤ 1000 := HP9.out.rsl hD
        have HSN : ∀ u, Below w8.heap.size w8 u → Hid (Calls Try.prog 24 #[.pointer (some ⟨q, 0, none⟩)] u fun e w' => ∃ v N, e = .returned v ∧ SmV w' N v j.t j.s j.rs ∧ Below w8.heap.size w8 w') := fun u hu => ((HP9.out.below hu).seen hD).mono fun _ _ ⟨v, N, a, b, c⟩ => ⟨v, N, a, b, hu.trans (c.mono hu.size)⟩
        have HSA : ∀ u v1 N1, Below w8.heap.size w8 u → SmV u N1 v1 j.t j.s j.rs → Hid (Calls Try.prog 23 #[v1, .agg #[c0, c1, c2, c3, c4, c5, c6, c7, c8]] u fun e w' => e = .returned (.bool true) ∧ Below w8.heap.size w8 w') := fun u v1 N1 hu h1 => by
          refine (rsame_calls v1 _ N1 NW j.t j.t j.s j.s j.rs j.rs u h1 (HSM.out.below hu) hrl).mono ?_
          rintro e w' ⟨rfl, b⟩
          exact ⟨by rw [sameJ_yes ⟨rfl, rfl, rfl⟩], hu.trans (b.mono hu.size)⟩
        have HRO : ∀ u, Below w8.heap.size w8 u → Hid (Calls Try.prog 25 #[.pointer (some ⟨q, 0, none⟩)] u fun e w' => e = .returned (.int .i64 (rm : Int)) ∧ Below w8.heap.size w8 w') := fun u hu => by
          rw [← HRM.out]; exact ((HP9.out.below hu).room hD).mono fun _ _ ⟨a, b⟩ => ⟨a, hu.trans (b.mono hu.size)⟩
        have HAWW : ∀ u, Below w8.heap.size w8 u → Hid (Calls Try.prog 11 #[] u fun e w' => e = .returned (.bool true) ∧ Below w8.heap.size w8 w') := fun u hu => (oawake_calls u).mono fun _ _ ⟨a, b⟩ => ⟨a, hu.trans (b.mono hu.size)⟩
        have x1 : ∀ u, Below w8.heap.size w8 u → u.cell? ⟨x, 1, none⟩ = some (.pointer (some ⟨q, 0, none⟩)) := fun u hu => (HP9.out.below hu).c1
        have HBW : Hid (Below w.heap.size w w8) := HB1.out.trans (HP9.out.b.mono HB1.out.size)
        have bc0 : ∀ u, Below (w8).heap.size (w8) u → u.cell? ⟨b, 0, none⟩ = some c0 := fun u hu => (cell_of_row _ _ 0 _ _ _ ((hu.block _ HBS.out).trans HBD.out)).trans rfl; have bc1 : ∀ u, Below (w8).heap.size (w8) u → u.cell? ⟨b, 1, none⟩ = some c1 := fun u hu => (cell_of_row _ _ 1 _ _ _ ((hu.block _ HBS.out).trans HBD.out)).trans rfl; have bc2 : ∀ u, Below (w8).heap.size (w8) u → u.cell? ⟨b, 2, none⟩ = some c2 := fun u hu => (cell_of_row _ _ 2 _ _ _ ((hu.block _ HBS.out).trans HBD.out)).trans rfl; have bc3 : ∀ u, Below (w8).heap.size (w8) u → u.cell? ⟨b, 3, none⟩ = some c3 := fun u hu => (cell_of_row _ _ 3 _ _ _ ((hu.block _ HBS.out).trans HBD.out)).trans rfl; have bc4 : ∀ u, Below (w8).heap.size (w8) u → u.cell? ⟨b, 4, none⟩ = some c4 := fun u hu => (cell_of_row _ _ 4 _ _ _ ((hu.block _ HBS.out).trans HBD.out)).trans rfl; have bc5 : ∀ u, Below (w8).heap.size (w8) u → u.cell? ⟨b, 5, none⟩ = some c5 := fun u hu => (cell_of_row _ _ 5 _ _ _ ((hu.block _ HBS.out).trans HBD.out)).trans rfl; have bc6 : ∀ u, Below (w8).heap.size (w8) u → u.cell? ⟨b, 6, none⟩ = some c6 := fun u hu => (cell_of_row _ _ 6 _ _ _ ((hu.block _ HBS.out).trans HBD.out)).trans rfl; have bc7 : ∀ u, Below (w8).heap.size (w8) u → u.cell? ⟨b, 7, none⟩ = some c7 := fun u hu => (cell_of_row _ _ 7 _ _ _ ((hu.block _ HBS.out).trans HBD.out)).trans rfl; have bc8 : ∀ u, Below (w8).heap.size (w8) u → u.cell? ⟨b, 8, none⟩ = some c8 := fun u hu => (cell_of_row _ _ 8 _ _ _ ((hu.block _ HBS.out).trans HBD.out)).trans rfl
        clear hbd hsm
        go_upto_region 10 with (fail)
        go_region_held3 (fun w' => Below w8.heap.size w8 w') (first | exact (Below.refl _ _).drew | assumption) (first | (go_at_call 24; (with_reducible refine (HSN _ (by assumption)).out.mono ?_); rintro e wa ⟨v7, N7, rfl, hv7, hba⟩; have HV7 := Lib.hid hv7; clear hv7) | (go_at_call 23; (with_reducible refine (HSA wa v7 N7 hba HV7.out).out.mono ?_); rintro e wb ⟨rfl, hbb⟩) | (go_at_call 25; (with_reducible refine (HRO _ (by assumption)).out.mono ?_); rintro e wd ⟨rfl, hbd⟩) | (go_at_call 11; (with_reducible refine (HAWW _ (by assumption)).out.mono ?_); rintro e we ⟨rfl, hbe⟩))
        have HF : Hid (Below w.heap.size w we) := HBW.out.trans (hbe.mono HBW.out.size)
        go_wp2_with fail
        go_ret
        exact ⟨rfl, HF.out⟩
      · subst he
        rw [HFB.out, decide_eq_false_iff_not] at hfu
        have hge : nb ≤ rm := by have := HRM.out; omega
        have d6 : decide ((rm : Int) < (nb : Int)) = false := by simp; omega
        have d7 : decide (rm < nb) = false := by simp; omega
        obtain ⟨rm2, HRM2⟩ : ∃ y, Hid (rm - nb = y) := ⟨_, rfl⟩
        have wsub : IntKind.i64.wrap ((rm : Int) - (nb : Int)) = (rm2 : Int) := by
          have := HRM2.out; have := HRM.out
          have : half D ≤ 100 := by unfold half; omega
          rw [IntKind.wrap_i64]; omega
        have hD2 : (appD D j rr).n ≤ 100 := by rw [hn2]; exact hD
        have HRE2 : Hid (half (appD D j rr) - (appJ D j rr).e = rm2) := by
          rw [hj, appD_half, HAB.out, HK.out, HNB.out]
          show half D - (j.e + nb) = rm2
          have := HRM.out; have := HRM2.out; omega
        have HJJ : Hid ((appJ D j rr).t = j.t ∧ (appJ D j rr).s = j.s ∧ (appJ D j rr).rs = j.rs ++ [rr]) := by rw [hj]; exact ⟨rfl, rfl, rfl⟩
        clear hfu hge hp2 hn2 hj
        generalize appD D j rr = D2 at *
        generalize appJ D j rr = j2 at *
        obtain ⟨c0, c1, c2, c3, c4, c5, c6, c7, c8, NW, hbd, hsm, hbF, hNF, hbNW⟩ := HW8.out
        have HNWL : Hid (∀ y ∈ NW, y < w8.heap.size) := fun y hy => by
          rcases hNF y hy with h | h
          · exact HP8.out.jo.own.lt y h
          · exact Nat.lt_of_lt_of_le h HP8.out.b.size
        obtain ⟨d0, d1, d2, d3, sa, sc, ra, rcx, mr, d7', d8, hv, hs1, hs2, hs3⟩ := hsm
        have HS1 := Lib.hid hs1
        have HS2 := Lib.hid hs2
        have HS3 := Lib.hid hs3
        simp only [Value.agg.injEq, Array.mk.injEq, List.cons.injEq, and_true] at hv
        obtain ⟨rfl, rfl, rfl, rfl, rfl, rfl, rfl, rfl, rfl⟩ := hv
        have HBD8 := Lib.hid hbd
        have HMRL : Hid (mr.length ≤ 1000) := by
          show _ ≤ _
          have h1 := hrl50
          have h2 : j.rs.length = mr.length := by rw [hs3, List.length_map]
          have h3 := HRL.out
          omega
        obtain ⟨ml, HML⟩ : ∃ y, Hid (mr.length = y) := ⟨_, rfl⟩
        obtain ⟨sl, HSL⟩ : ∃ y, Hid (j.s.length = y) := ⟨_, rfl⟩
        rw [HML.out, HSL.out, HJT.out] at hbd
        have HB8 := Lib.hid hbd
        have hb8 : b < w8.heap.size := (Array.getElem?_eq_some_iff.1 hbd).1
        have HRA : Hid (Rd w8 ra (mr.map rval)) := hs2.rd
        have hml9 : ml ≤ 1000 := by have := HMRL.out; have := HML.out; omega
        have HBF := Lib.hid hbF
        have HNF := Lib.hid hNF
        have HBN := Lib.hid hbNW
        have r6 : w8.cell? ⟨b, 6, none⟩ = some (.slice ra ml rcx) := (cell_of_row _ _ 6 _ _ _ HB8.out).trans rfl
        have r6a : ∀ o : Obj, (w8.alloc o).cell? ⟨b, 6, none⟩ = some (.slice ra ml rcx) := fun o => (World.cell?_alloc_lt w8 o ⟨b, 6, none⟩ hb8).trans r6
        clear hs1 hs2 hs3 hbd hbF hNF hbNW
        go_upto_region 12 with (first | (at_builtin; refine appR0 _ rfl (.tmp 88) (.tmp 90) rfl mr rfl ra ml rcx rfl HML.out HRA.out hml9 ?_; intro X9 c9 w9 HO9 HB9 hs9) | (at_builtin; refine appR1 _ rfl (.tmp 91) (.tmp 93) rfl w8.heap.size (.slice X9 ml c9) ml (mr.map rval) rfl HO9.out (.slice Br rn rc) rfl rfl hml9 hs9 ?_; intro X10 c10 w10 HO10 HA10 HB10 hs10; have HB810 := Lib.hid (HB9.out.trans HB10.out); have HX10 := Lib.hid ((HB810.out.block _ hb8).trans HB8.out); have tc0 : w10.cell? ⟨b, 0, none⟩ = some _ := (cell_of_row _ _ 0 _ _ _ HX10.out).trans rfl; have tf0 : w10.frozen? ⟨b, 0, none⟩ = false := frozen_of_row _ _ _ _ _ HX10.out; have tc1 : w10.cell? ⟨b, 1, none⟩ = some _ := (cell_of_row _ _ 1 _ _ _ HX10.out).trans rfl; have tf1 : w10.frozen? ⟨b, 1, none⟩ = false := frozen_of_row _ _ _ _ _ HX10.out; have tc2 : w10.cell? ⟨b, 2, none⟩ = some _ := (cell_of_row _ _ 2 _ _ _ HX10.out).trans rfl; have tf2 : w10.frozen? ⟨b, 2, none⟩ = false := frozen_of_row _ _ _ _ _ HX10.out; have tc3 : w10.cell? ⟨b, 3, none⟩ = some _ := (cell_of_row _ _ 3 _ _ _ HX10.out).trans rfl; have tf3 : w10.frozen? ⟨b, 3, none⟩ = false := frozen_of_row _ _ _ _ _ HX10.out; have tc4 : w10.cell? ⟨b, 4, none⟩ = some _ := (cell_of_row _ _ 4 _ _ _ HX10.out).trans rfl; have tf4 : w10.frozen? ⟨b, 4, none⟩ = false := frozen_of_row _ _ _ _ _ HX10.out; have tc5 : w10.cell? ⟨b, 5, none⟩ = some _ := (cell_of_row _ _ 5 _ _ _ HX10.out).trans rfl; have tf5 : w10.frozen? ⟨b, 5, none⟩ = false := frozen_of_row _ _ _ _ _ HX10.out; have tc6 : w10.cell? ⟨b, 6, none⟩ = some _ := (cell_of_row _ _ 6 _ _ _ HX10.out).trans rfl; have tf6 : w10.frozen? ⟨b, 6, none⟩ = false := frozen_of_row _ _ _ _ _ HX10.out; have tc7 : w10.cell? ⟨b, 7, none⟩ = some _ := (cell_of_row _ _ 7 _ _ _ HX10.out).trans rfl; have tf7 : w10.frozen? ⟨b, 7, none⟩ = false := frozen_of_row _ _ _ _ _ HX10.out; have tc8 : w10.cell? ⟨b, 8, none⟩ = some _ := (cell_of_row _ _ 8 _ _ _ HX10.out).trans rfl; have tf8 : w10.frozen? ⟨b, 8, none⟩ = false := frozen_of_row _ _ _ _ _ HX10.out))
        have hcs : Chg [b] w10 (w10.setCell ⟨b, 6, none⟩ (.slice X10 (ml + 1) c10)) := (Chg.refl _ _).setCell (p := ⟨b, 6, none⟩) (.inl (by simp)) _
        have hX : ∀ y ∈ bl X10, w8.heap.size ≤ y ∧ y < w10.heap.size := fun y hy => by
          obtain ⟨off, rfl⟩ := mem_bl hy
          exact own_cut (k := 0) (c' := c10) HO10.out (by rw [cutA_zero])
        have hpz := (HP8.out.grow (F' := bl X10 ++ F2) HB810.out (fun y hy => by
          rcases List.mem_append.1 hy with hy | hy
          · exact .inr (hX y hy)
          · exact .inl hy) (by have := HP8.out.xF; simp [this])).wr hcs (fun y hy => by
            simp only [List.mem_singleton] at hy
            subst hy
            exact ⟨by have := HBF.out; simp [this], HB1W.out.1⟩) (by simpa using HB1W.out.2)
        have ho10 := HO10.out
        rw [← HML.out] at ho10
        have hwz := WB.push (F' := bl X10 ++ F2) HP8.out.b HB810.out HBD8.out HS1.out HS2.out HBF.out HNF.out HBN.out HNWL.out HNR.out HNRL.out HR2.out rfl HB1W.out.1 ho10 (fun y hy => hy)
        rw [HML.out, ← HS3.out] at hwz
        rw [← HJJ.out.2.2, ← HJJ.out.1, ← HJJ.out.2.1] at hwz
        clear hcs hX ho10 r6 r6a tc0 tf0 tc1 tf1 tc2 tf2 tc3 tf3 tc4 tf4 tc5 tf5 tc6 tf6 tc7 tf7 tc8 tf8
        generalize w10.setCell ⟨b, 6, none⟩ (.slice X10 (ml + 1) c10) = wz at *
        have HPZ := Lib.hid hpz
        clear hpz HB8 HX10 HBD8 HW8
        obtain ⟨c0, c1, c2, c3, c4, c5, c6, c7, c8, NW, hbd, hsm, hbF, hNF, hbNW⟩ := hwz
        clear hbF hNF hbNW
        have HBD := Lib.hid hbd
        have HSM := Lib.hid hsm
        have HBS : Hid (b < wz.heap.size) := (Array.getElem?_eq_some_iff.1 hbd).1
        have hrl : j2.rs.length ≤ 1000 := HPZ.out.rsl hD2
        have HSN : ∀ u, Below wz.heap.size wz u → Hid (Calls Try.prog 24 #[.pointer (some ⟨q, 0, none⟩)] u fun e w' => ∃ v N, e = .returned v ∧ SmV w' N v j2.t j2.s j2.rs ∧ Below wz.heap.size wz w') := fun u hu => ((HPZ.out.below hu).seen hD2).mono fun _ _ ⟨v, N, a, b, c⟩ => ⟨v, N, a, b, hu.trans (c.mono hu.size)⟩
        have HSA : ∀ u v1 N1, Below wz.heap.size wz u → SmV u N1 v1 j2.t j2.s j2.rs → Hid (Calls Try.prog 23 #[v1, .agg #[c0, c1, c2, c3, c4, c5, c6, c7, c8]] u fun e w' => e = .returned (.bool true) ∧ Below wz.heap.size wz w') := fun u v1 N1 hu h1 => by
          refine (rsame_calls v1 _ N1 NW j2.t j2.t j2.s j2.s j2.rs j2.rs u h1 (HSM.out.below hu) hrl).mono ?_
          rintro e w' ⟨rfl, b⟩
          exact ⟨by rw [sameJ_yes ⟨rfl, rfl, rfl⟩], hu.trans (b.mono hu.size)⟩
        have HRO : ∀ u, Below wz.heap.size wz u → Hid (Calls Try.prog 25 #[.pointer (some ⟨q, 0, none⟩)] u fun e w' => e = .returned (.int .i64 (rm2 : Int)) ∧ Below wz.heap.size wz w') := fun u hu => by
          rw [← HRE2.out]; exact ((HPZ.out.below hu).room hD2).mono fun _ _ ⟨a, b⟩ => ⟨a, hu.trans (b.mono hu.size)⟩
        have HAWW : ∀ u, Below wz.heap.size wz u → Hid (Calls Try.prog 11 #[] u fun e w' => e = .returned (.bool true) ∧ Below wz.heap.size wz w') := fun u hu => (oawake_calls u).mono fun _ _ ⟨a, b⟩ => ⟨a, hu.trans (b.mono hu.size)⟩
        have x1 : ∀ u, Below wz.heap.size wz u → u.cell? ⟨x, 1, none⟩ = some (.pointer (some ⟨q, 0, none⟩)) := fun u hu => (HPZ.out.below hu).c1
        have HBW : Hid (Below w.heap.size w wz) := HB1.out.trans (HPZ.out.b.mono HB1.out.size)
        have bc0 : ∀ u, Below (wz).heap.size (wz) u → u.cell? ⟨b, 0, none⟩ = some c0 := fun u hu => (cell_of_row _ _ 0 _ _ _ ((hu.block _ HBS.out).trans HBD.out)).trans rfl; have bc1 : ∀ u, Below (wz).heap.size (wz) u → u.cell? ⟨b, 1, none⟩ = some c1 := fun u hu => (cell_of_row _ _ 1 _ _ _ ((hu.block _ HBS.out).trans HBD.out)).trans rfl; have bc2 : ∀ u, Below (wz).heap.size (wz) u → u.cell? ⟨b, 2, none⟩ = some c2 := fun u hu => (cell_of_row _ _ 2 _ _ _ ((hu.block _ HBS.out).trans HBD.out)).trans rfl; have bc3 : ∀ u, Below (wz).heap.size (wz) u → u.cell? ⟨b, 3, none⟩ = some c3 := fun u hu => (cell_of_row _ _ 3 _ _ _ ((hu.block _ HBS.out).trans HBD.out)).trans rfl; have bc4 : ∀ u, Below (wz).heap.size (wz) u → u.cell? ⟨b, 4, none⟩ = some c4 := fun u hu => (cell_of_row _ _ 4 _ _ _ ((hu.block _ HBS.out).trans HBD.out)).trans rfl; have bc5 : ∀ u, Below (wz).heap.size (wz) u → u.cell? ⟨b, 5, none⟩ = some c5 := fun u hu => (cell_of_row _ _ 5 _ _ _ ((hu.block _ HBS.out).trans HBD.out)).trans rfl; have bc6 : ∀ u, Below (wz).heap.size (wz) u → u.cell? ⟨b, 6, none⟩ = some c6 := fun u hu => (cell_of_row _ _ 6 _ _ _ ((hu.block _ HBS.out).trans HBD.out)).trans rfl; have bc7 : ∀ u, Below (wz).heap.size (wz) u → u.cell? ⟨b, 7, none⟩ = some c7 := fun u hu => (cell_of_row _ _ 7 _ _ _ ((hu.block _ HBS.out).trans HBD.out)).trans rfl; have bc8 : ∀ u, Below (wz).heap.size (wz) u → u.cell? ⟨b, 8, none⟩ = some c8 := fun u hu => (cell_of_row _ _ 8 _ _ _ ((hu.block _ HBS.out).trans HBD.out)).trans rfl
        clear hbd hsm
        go_upto_region 12 with (fail)
        go_region_held3 (fun w' => Below wz.heap.size wz w') (first | exact (Below.refl _ _).drew | assumption) (first | (go_at_call 24; (with_reducible refine (HSN _ (by assumption)).out.mono ?_); rintro e wa ⟨v7, N7, rfl, hv7, hba⟩; have HV7 := Lib.hid hv7; clear hv7) | (go_at_call 23; (with_reducible refine (HSA wa v7 N7 hba HV7.out).out.mono ?_); rintro e wb ⟨rfl, hbb⟩) | (go_at_call 25; (with_reducible refine (HRO _ (by assumption)).out.mono ?_); rintro e wd ⟨rfl, hbd⟩) | (go_at_call 11; (with_reducible refine (HAWW _ (by assumption)).out.mono ?_); rintro e we ⟨rfl, hbe⟩))
        have HF : Hid (Below w.heap.size w we) := HBW.out.trans (hbe.mono HBW.out.size)
        go_wp2_with fail
        go_ret
        exact ⟨rfl, HF.out⟩
    · have d2 : decide ((2000 : Int) < (rn : Int)) = true := by simp; omega
      clear HPC
      (go_wp2_with fail; (with_reducible refine HAW.out.mono ?_); rintro e w2 ⟨rfl, hb2⟩; have HF := Lib.hid (HB1.out.trans (hb2.mono HB1.out.size)); clear hb2; go_wp2_with fail; go_ret; exact ⟨rfl, HF.out⟩)
end Jn
end Go.Proofs.Ytmdpmpfjldgalaa
