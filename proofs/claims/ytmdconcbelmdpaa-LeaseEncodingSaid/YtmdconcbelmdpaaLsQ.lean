/- The walk of refmeshref26.Decode. -/
import Derived.Test.YtmdconcbelmdpaaLsP
import Derived.Test.YtmdconcbelmdpaaLsK
namespace Go.Proofs.Ytmdconcbelmdpaa
open Go.RowKit
namespace Ls
open In (vi conB)
open Wr Wi

theorem ints_put (f : Nat → Int) (m k : Nat) (x : Int) (hk : k < m) : (ints f m).toArray.setIfInBounds k (.int .i64 x) = (ints (fun j => if j = k then x else f j) m).toArray := by
  apply Array.ext_getElem?
  intro j
  rw [Array.getElem?_setIfInBounds]
  simp only [List.getElem?_toArray, List.size_toArray, ints_length]
  by_cases hj : j < m
  · rw [ints_get _ _ _ hj, ints_get _ _ _ hj]
    by_cases h : k = j
    · subst h; simp [hk]
    · rw [if_neg h, if_neg (fun h' => h h'.symm)]
  · have h1 : ∀ f' : Nat → Int, (ints f' m)[j]? = none := fun f' => List.getElem?_eq_none (by rw [ints_length]; omega)
    rw [h1, h1, if_neg (by omega)]

theorem isR_set (w : World) (g1 g2 : Nat) (L : St) (x : Int) (h8 : L.m ≤ 8) (h1 : w.heap[g1]? = some (.cells (ints L.t L.m).toArray 3 (0, 0))) (h2 : w.heap[g2]? = some (.cells (ints L.r L.m).toArray 3 (0, 0))) :
    IsR w (.agg #[.slice (some ⟨g1, 0, none⟩) L.m L.m, .slice (some ⟨g2, 0, none⟩) L.m L.m, .int .i64 x]) (setC L x) := by
  have hmx : L.m ≤ maxLen := Nat.le_trans h8 (by simp only [maxLen]; omega)
  have o1 := own_of_blk (B := 0) (n := L.m) (xs := ints L.t L.m) (Nat.zero_le _) h1 (Nat.le_refl _) hmx (by rw [List.size_toArray, ints_length]) (by rw [List.take_of_length_le (by rw [ints_length]; exact Nat.le_refl _)])
  have o2 := own_of_blk (B := 0) (n := L.m) (xs := ints L.r L.m) (Nat.zero_le _) h2 (Nat.le_refl _) hmx (by rw [List.size_toArray, ints_length]) (by rw [List.take_of_length_le (by rw [ints_length]; exact Nat.le_refl _)])
  exact ⟨h8, _, L.m, _, L.m, rfl, o1, o2⟩

/-- what the loop of the reference has at hand -/
def RIn (w : World) (R g1 g2 Lb m : Nat) (s : DS) (wr : World) : Prop :=
  wr.heap[g1]? = some (.cells (ints s.L.t m).toArray 3 (0, 0)) ∧ wr.heap[g2]? = some (.cells (ints s.L.r m).toArray 3 (0, 0)) ∧ IsRr w.heap.size wr R s.r ∧
  wr.heap[Lb]? = some (.cells #[.slice (some ⟨g1, 0, none⟩) m m, .slice (some ⟨g2, 0, none⟩) m m, .int .i64 0] 27 (0, 0)) ∧
  wr.heap[w.heap.size]? = some (.cells #[.slice none 0 0, .slice none 0 0, .int .i64 0] 27 (0, 0)) ∧ Below w.heap.size w wr

def RDecP (l : List UInt8) (w : World) (e : Ending) (w' : World) : Prop :=
  (doneR (decD l).r ≠ 0 ∧ e = .returned (.tuple #[.agg #[.slice none 0 0, .slice none 0 0, .int .i64 0], .int .i64 (doneR (decD l).r)]) ∧ Below w.heap.size w w') ∨
  (doneR (decD l).r = 0 ∧ (decD l).b = true ∧ e = .returned (.tuple #[.agg #[.slice none 0 0, .slice none 0 0, .int .i64 0], .int .i64 11]) ∧ Below w.heap.size w w') ∨
  (doneR (decD l).r = 0 ∧ (decD l).b = false ∧ ∃ v, e = .returned (.tuple #[v, .int .i64 0]) ∧ IsR w' v (decD l).L ∧ Below w.heap.size w w')

set_option maxRecDepth 100000 in
set_option maxHeartbeats 4000000 in
theorem rdecode_calls (A : Option Addr) (n c : Nat) (l : List UInt8) (w : World) (hn : l.length = n) (hnc : n ≤ c) (hcm : c ≤ maxLen) (hr : RB w A l) : Calls Try.prog 27 #[.slice A n c] w (RDecP l w) := by
  have HN := Lib.hid hn
  have HRB := Lib.hid hr
  obtain ⟨D, HD⟩ : ∃ x, Hid (decD l = x) := ⟨_, rfl⟩
  have HDD := Lib.hid (show decD l = dEnd (dLoop (countR 8 ⟨l, 0⟩).1 (countR 8 ⟨l, 0⟩).2 (countR 8 ⟨l, 0⟩).1) from rfl)
  have h8 := count8 ⟨l, 0⟩
  have HE1 : Hid (∀ w', doneR D.r ≠ 0 → Below w.heap.size w w' → RDecP l w (.returned (.tuple #[.agg #[.slice none 0 0, .slice none 0 0, .int .i64 0], .int .i64 (doneR D.r)])) w') := by
    intro w' h1 h2; unfold RDecP; rw [HD.out]; exact .inl ⟨h1, rfl, h2⟩
  have HE2 : Hid (∀ w', doneR D.r = 0 → D.b = true → Below w.heap.size w w' → RDecP l w (.returned (.tuple #[.agg #[.slice none 0 0, .slice none 0 0, .int .i64 0], .int .i64 11])) w') := by
    intro w' h1 h2 h3; unfold RDecP; rw [HD.out]; exact .inr (.inl ⟨h1, h2, rfl, h3⟩)
  have HE3 : Hid (∀ v w', doneR D.r = 0 → D.b = false → IsR w' v D.L → Below w.heap.size w w' → RDecP l w (.returned (.tuple #[v, .int .i64 0])) w') := by
    intro v w' h1 h2 h3 h4; unfold RDecP; rw [HD.out]; exact .inr (.inr ⟨h1, h2, v, rfl, h3, h4⟩)
  rw [HD.out] at HDD
  have HCT : Hid (∀ g w', IsRr w.heap.size w' g ⟨l, 0⟩ → Calls Try.prog 39 #[.pointer (some ⟨g, 0, none⟩), .int .i64 8] w' (RP w.heap.size w' g (.int .i64 ((countR 8 ⟨l, 0⟩).1 : Int)) (countR 8 ⟨l, 0⟩).2)) := fun g w' h => rdCount_calls g ⟨l, 0⟩ 8 w' h (by omega) (by omega)
  generalize (countR 8 ⟨l, 0⟩).1 = m at *
  generalize (countR 8 ⟨l, 0⟩).2 = r1 at *
  clear hn hr
  go_enter Try.func27, Try.ntmps27
  go_wp2_with fail
  have hb1 := below2 w (.cells #[.slice none 0 0, .slice none 0 0, .int .i64 0] 27) (.cells #[.slice A n c, .int .i64 0] 77)
  have hZ1 : ((w.alloc (.cells #[.slice none 0 0, .slice none 0 0, .int .i64 0] 27)).alloc (.cells #[.slice A n c, .int .i64 0] 77)).heap[w.heap.size]? = _ := (Below.heap_alloc _ _ _ (by simp)).trans (heap_alloc_new _ _)
  have hR1 : ((w.alloc (.cells #[.slice none 0 0, .slice none 0 0, .int .i64 0] 27)).alloc (.cells #[.slice A n c, .int .i64 0] 77)).heap[w.heap.size + 1]? = _ := heap_alloc2_new _ _ _
  generalize (w.alloc (.cells #[.slice none 0 0, .slice none 0 0, .int .i64 0] 27)).alloc (.cells #[.slice A n c, .int .i64 0] 77) = w1 at *
  have hs1 : w.heap.size + 1 < w1.heap.size := (Array.getElem?_eq_some_iff.1 hR1).1
  have HR1 : Hid (IsRr w.heap.size w1 (w.heap.size + 1) ⟨l, 0⟩) := by
    refine ⟨A, c, ?_, by show l.length ≤ c; rw [HN.out]; exact hnc, hcm, RB.below HRB.out hb1, fun hp b off e => RB.lt HRB.out hp b off e, by omega⟩
    show w1.heap[w.heap.size + 1]? = some (.cells #[.slice A l.length c, .int .i64 0] _ _)
    rw [HN.out]; exact hR1
  have HZ1 := Lib.hid hZ1
  have HB1 := Lib.hid hb1
  clear hZ1 hR1 hb1
  refine (HCT.out (w.heap.size + 1) w1 HR1.out).mono ?_
  rintro e w2 ⟨rfl, hr2, hc2⟩
  have HR2 := Lib.hid hr2
  have HB2 := Lib.hid (HB1.out.trans (hc2.below HB1.out.size (by simp)))
  have HZ2 := Lib.hid (hc2.blk HZ1.out (by simp))
  have hs2 : w.heap.size + 1 < w2.heap.size := by have := hc2.size; omega
  clear hr2 hc2 HR1 HB1 HZ1 HCT
  go_wp2_with fail
  refine (rnewA_calls m w2).mono ?_
  rw [show mach (m : Int) = m by unfold mach; omega]
  rintro e w3 ⟨g1, g2, rfl, hne, hg1, hg2, ha1, ha2, hb3⟩
  have HA1 := Lib.hid ha1
  have HA2 := Lib.hid ha2
  have hl1 := (Array.getElem?_eq_some_iff.1 ha1).1
  have hl2 := (Array.getElem?_eq_some_iff.1 ha2).1
  have HR3 := Lib.hid (HR2.out.below hb3)
  have HB3 := Lib.hid (HB2.out.trans (hb3.mono HB2.out.size))
  have HZ3 := Lib.hid ((hb3.block _ (by omega)).trans HZ2.out)
  clear ha1 ha2 hb3 HR2 HB2 HZ2
  go_wp2_with fail
  have hb4 := below1 w3 (.cells #[.slice (some ⟨g1, 0, none⟩) m m, .slice (some ⟨g2, 0, none⟩) m m, .int .i64 0] 27)
  have hL4 := heap_alloc_new w3 (.cells #[.slice (some ⟨g1, 0, none⟩) m m, .slice (some ⟨g2, 0, none⟩) m m, .int .i64 0] 27)
  generalize w3.alloc (.cells #[.slice (some ⟨g1, 0, none⟩) m m, .slice (some ⟨g2, 0, none⟩) m m, .int .i64 0] 27) = w4 at *
  have HR4 : Hid (RIn w (w.heap.size + 1) g1 g2 w3.heap.size m (dLoop m r1 0) w4) :=
    ⟨(hb4.block _ hl1).trans HA1.out, (hb4.block _ hl2).trans HA2.out, HR3.out.below hb4, hL4, (hb4.block _ (by omega)).trans HZ3.out, HB3.out.trans (hb4.mono HB3.out.size)⟩
  have hlb : w2.heap.size ≤ w3.heap.size := by omega
  clear hb4 hL4 HR3 HB3 HZ3 HA1 HA2
  generalize w3.heap.size = Lb at *
  generalize hRR : w.heap.size + 1 = R at *
  have HRR := Lib.hid hRR
  have hwR : w.heap.size < R := by omega
  clear hRR
  go_loopw [7, 8] (fun b i wr => ∃ k : Nat, k ≤ m ∧ i = .int .i64 k ∧ b = .bool (dLoop m r1 k).b ∧ RIn w R g1 g2 Lb m (dLoop m r1 k) wr) (fun _ i _ => m - (intOf i).toNat)
  case atStart => exact ⟨0, by omega, rfl, rfl, HR4.out⟩
  case round =>
    obtain ⟨k, hk, rfl, rfl, hA, hB, hR, hL, hZ, hbb⟩ := hrel
    have HA := Lib.hid hA
    have HB := Lib.hid hB
    have HR := Lib.hid hR
    have HLb := Lib.hid hL
    have HZ := Lib.hid hZ
    have HBB := Lib.hid hbb
    by_cases hlt : k < m
    · as_aux_lemma =>
        have HSS : Hid (dLoop m r1 (k + 1) = dTwo (dOne (dLoop m r1 k) k) k) := rfl
        generalize dLoop m r1 k = s at *
        have HU1 := Lib.hid (rdUint_calls R s.r wr HR.out)
        have HU2 : Hid (∀ w', IsRr w.heap.size w' R (uintR s.r).2 → Calls Try.prog 40 #[.pointer (some ⟨R, 0, none⟩)] w' (RuP w.heap.size w' R (uintR s.r).2)) := fun w' h => rdUint_calls R _ w' h
        unfold RuP at HU1 HU2
        obtain ⟨s2, HS2⟩ : ∃ x, Hid (x = dTwo (dOne s k) k) := ⟨_, rfl⟩
        rw [← HS2.out] at HSS
        have HSb : Hid (s2.b = great (great s.b (uintR s.r).1) (uintR (uintR s.r).2).1 ∧ s2.r = (uintR (uintR s.r).2).2 ∧ s2.L.t = (fun j => if j = k then mI (uintR s.r).1 else s.L.t j) ∧ s2.L.r = (fun j => if j = k then mI (uintR (uintR s.r).2).1 else s.L.r j)) := by rw [HS2.out]; exact ⟨rfl, rfl, rfl, rfl⟩
        have hlt1 := uintR_lt s.r
        have hlt2 := uintR_lt (uintR s.r).2
        clear hA hB hR hL hZ hbb
        generalize (uintR (uintR s.r).2).1 = n2 at *
        generalize (uintR (uintR s.r).2).2 = q2 at *
        generalize (uintR s.r).1 = n1 at *
        generalize (uintR s.r).2 = q1 at *
        go_wp2_with fail
        refine HU1.out.mono ?_
        rintro e w5 ⟨rfl, hr5, hc5⟩
        have HR5 := Lib.hid hr5
        have HC5 := Lib.hid hc5
        clear hr5 hc5
        go_wp2_with fail
        refine (HU2.out w5 HR5.out).mono ?_
        rintro e w6 ⟨rfl, hr6, hc6⟩
        have HR6 := Lib.hid hr6
        have HC6 := Lib.hid (HC5.out.trans' hc6)
        clear hr6 hc6 HU1 HU2 HR5 HC5
        have HL6 := Lib.hid (HC6.out.blk HLb.out (by simp; omega))
        have HA6 := Lib.hid (HC6.out.blk HA.out (by simp; omega))
        have HB6 := Lib.hid (HC6.out.blk HB.out (by simp; omega))
        have l0 : w6.cell? ⟨Lb, 0, none⟩ = some (.slice (some ⟨g1, 0, none⟩) m m) := (cell_of_row _ _ 0 _ _ _ HL6.out).trans rfl
        have l1 : w6.cell? ⟨Lb, 1, none⟩ = some (.slice (some ⟨g2, 0, none⟩) m m) := (cell_of_row _ _ 1 _ _ _ HL6.out).trans rfl
        have a0 : w6.cell? ⟨g1, k, none⟩ = some (.int .i64 (s.L.t k)) := by rw [cell_of_row _ _ _ _ _ _ HA6.out]; simp [ints_get _ _ _ hlt]
        have b0 : w6.cell? ⟨g2, k, none⟩ = some (.int .i64 (s.L.r k)) := by rw [cell_of_row _ _ _ _ _ _ HB6.out]; simp [ints_get _ _ _ hlt]
        have fa : w6.frozen? ⟨g1, k, none⟩ = false := frozen_of_row _ _ _ _ _ HA6.out
        have fb : w6.frozen? ⟨g2, k, none⟩ = false := frozen_of_row _ _ _ _ _ HB6.out
        have b0s : ∀ u, (w6.setCell ⟨g1, k, none⟩ u).cell? ⟨g2, k, none⟩ = some (.int .i64 (s.L.r k)) := fun u => (World.cell?_setCell_other w6 ⟨g1, k, none⟩ ⟨g2, k, none⟩ u (fun e => by cases e; exact hne rfl)).trans b0
        have j0 : (0 : Int) ≤ (k : Int) := by omega
        have j1 : (k : Int) < (m : Int) := by omega
        have HB2 : Hid (s2.b = great (great s.b n1) n2) := HSb.out.1
        have HEND : Hid (∀ x1, x1 = mI n1 → ∀ x2, x2 = mI n2 → ∀ x, RIn w R g1 g2 Lb m s2 (((w6.setCell ⟨g1, k, none⟩ (.int .i64 x1)).setCell ⟨g2, k, none⟩ (.int .i64 x2)).drewN x)) := by
          rintro x1 rfl x2 rfl x
          have hcs : Chg [g1, g2] w6 (((w6.setCell ⟨g1, k, none⟩ (.int .i64 (mI n1))).setCell ⟨g2, k, none⟩ (.int .i64 (mI n2))).drewN x) := (((Chg.refl [g1, g2] w6).setCell (p := ⟨g1, k, none⟩) (.inl (by simp)) _).setCell (p := ⟨g2, k, none⟩) (.inl (by simp)) _).drewN x
          refine ⟨?_, ?_, by rw [HSb.out.2.1]; exact HR6.out.chg hcs (by simp; omega), hcs.blk HL6.out (by simp; omega), hcs.blk (HC6.out.blk HZ.out (by simp; omega)) (by simp; omega), (HBB.out.trans (HC6.out.below HBB.out.size (by simp; omega))).trans (hcs.below (Nat.le_trans HBB.out.size HC6.out.size) (by simp; omega))⟩
          · rw [HSb.out.2.2.1, ← ints_put _ _ _ _ hlt]
            exact (heap_setCell_other _ ⟨g2, k, none⟩ g1 _ hne).trans (heap_setCell_same _ _ _ _ _ _ HA6.out)
          · rw [HSb.out.2.2.2, ← ints_put _ _ _ _ hlt]
            exact heap_setCell_same _ _ _ _ _ _ ((heap_setCell_other _ ⟨g1, k, none⟩ g2 _ (fun h => hne h.symm)).trans HB6.out)
        clear HSb HR6 HL6 HA6 HB6
        generalize s.b = sb at *
        by_cases h1 : n1 ≤ 1099511627776
        · have e1 : decide ((1099511627776 : Int) < (n1 : Int)) = false := by rw [decide_eq_false_iff_not]; omega
          have M1 : Hid ((n1 : Int) = mI n1) := by show _ = _; unfold mI wrap64; omega
          by_cases h2 : n2 ≤ 1099511627776
          · have e2 : decide ((1099511627776 : Int) < (n2 : Int)) = false := by rw [decide_eq_false_iff_not]; omega
            have M2 : Hid ((n2 : Int) = mI n2) := by show _ = _; unfold mI wrap64; omega
            cases sb with
            | true =>
              have HG : Hid (s2.b = true) := by show _ = _; rw [HB2.out]; simp [great]
              as_aux_lemma => (go_wp2_with fail; go_region; all_goals (have HQ1 := Lib.hid (HEND.out _ (M1.out) _ (M2.out) 1); clear l0 l1 a0 b0 fa fb b0s; go_wp2_with fail; go_roundw; (case rel => exact ⟨k + 1, by omega, by go_num, by rw [HSS.out, HG.out], by rw [HSS.out]; exact HQ1.out⟩); (case measure => simp [intOf]; omega)))
            | false =>
              have HG : Hid (s2.b = false) := by show _ = _; rw [HB2.out]; unfold great; rw [decide_eq_false (by omega), decide_eq_false (by omega)]; rfl
              as_aux_lemma => (go_wp2_with fail; go_region; all_goals (have HQ1 := Lib.hid (HEND.out _ (M1.out) _ (M2.out) 1); clear l0 l1 a0 b0 fa fb b0s; go_wp2_with fail; go_roundw; (case rel => exact ⟨k + 1, by omega, by go_num, by rw [HSS.out, HG.out], by rw [HSS.out]; exact HQ1.out⟩); (case measure => simp [intOf]; omega)))
          · have e2 : decide ((1099511627776 : Int) < (n2 : Int)) = true := by rw [decide_eq_true_eq]; omega
            have HG : Hid (s2.b = true) := by show _ = _; rw [HB2.out]; unfold great; rw [decide_eq_true (show 1099511627776 < n2 by omega)]; simp
            cases sb with
            | true =>
              as_aux_lemma => (go_wp2_with fail; go_region; all_goals (have HQ1 := Lib.hid (HEND.out _ (M1.out) _ (rfl) 1); clear l0 l1 a0 b0 fa fb b0s; go_wp2_with fail; go_roundw; (case rel => exact ⟨k + 1, by omega, by go_num, by rw [HSS.out, HG.out], by rw [HSS.out]; exact HQ1.out⟩); (case measure => simp [intOf]; omega)))
            | false =>
              as_aux_lemma => (go_wp2_with fail; go_region; all_goals (have HQ1 := Lib.hid (HEND.out _ (M1.out) _ (rfl) 1); clear l0 l1 a0 b0 fa fb b0s; go_wp2_with fail; go_roundw; (case rel => exact ⟨k + 1, by omega, by go_num, by rw [HSS.out, HG.out], by rw [HSS.out]; exact HQ1.out⟩); (case measure => simp [intOf]; omega)))
        · have e1 : decide ((1099511627776 : Int) < (n1 : Int)) = true := by rw [decide_eq_true_eq]; omega
          have HG : Hid (s2.b = true) := by show _ = _; rw [HB2.out]; unfold great; rw [decide_eq_true (show 1099511627776 < n1 by omega)]; simp
          by_cases h2 : n2 ≤ 1099511627776
          · have M2 : Hid ((n2 : Int) = mI n2) := by show _ = _; unfold mI wrap64; omega
            cases sb with
            | true =>
              as_aux_lemma => (go_wp2_with fail; go_region; all_goals (have HQ1 := Lib.hid (HEND.out _ (rfl) _ (M2.out) 1); clear l0 l1 a0 b0 fa fb b0s; go_wp2_with fail; go_roundw; (case rel => exact ⟨k + 1, by omega, by go_num, by rw [HSS.out, HG.out], by rw [HSS.out]; exact HQ1.out⟩); (case measure => simp [intOf]; omega)))
            | false =>
              as_aux_lemma => (go_wp2_with fail; go_region; all_goals (have HQ1 := Lib.hid (HEND.out _ (rfl) _ (M2.out) 1); clear l0 l1 a0 b0 fa fb b0s; go_wp2_with fail; go_roundw; (case rel => exact ⟨k + 1, by omega, by go_num, by rw [HSS.out, HG.out], by rw [HSS.out]; exact HQ1.out⟩); (case measure => simp [intOf]; omega)))
          · cases sb with
            | true =>
              as_aux_lemma => (go_wp2_with fail; go_region; all_goals (have HQ1 := Lib.hid (HEND.out _ (rfl) _ (rfl) 1); clear l0 l1 a0 b0 fa fb b0s; go_wp2_with fail; go_roundw; (case rel => exact ⟨k + 1, by omega, by go_num, by rw [HSS.out, HG.out], by rw [HSS.out]; exact HQ1.out⟩); (case measure => simp [intOf]; omega)))
            | false =>
              as_aux_lemma => (go_wp2_with fail; go_region; all_goals (have HQ1 := Lib.hid (HEND.out _ (rfl) _ (rfl) 1); clear l0 l1 a0 b0 fa fb b0s; go_wp2_with fail; go_roundw; (case rel => exact ⟨k + 1, by omega, by go_num, by rw [HSS.out, HG.out], by rw [HSS.out]; exact HQ1.out⟩); (case measure => simp [intOf]; omega)))
    · have HKM : Hid (k = m) := by show _ = _; omega
      rw [HKM.out] at HA HB HR
      rw [HKM.out]
      have hLm : (dLoop m r1 m).L.m = m := by rw [dLoop_m]; unfold mach; omega
      have HLM := Lib.hid hLm
      clear hLm hA hB hR hL hZ hbb
      generalize dLoop m r1 m = s at *
      have HU1 := Lib.hid (rdUint_calls R s.r wr HR.out)
      unfold RuP at HU1
      have HDb : Hid (D.b = great s.b (uintR s.r).1 ∧ D.r = (uintR s.r).2 ∧ D.L = setC s.L (mI (uintR s.r).1)) := by rw [HDD.out]; exact ⟨rfl, rfl, rfl⟩
      have hlt1 := uintR_lt s.r
      generalize (uintR s.r).1 = n1 at *
      generalize (uintR s.r).2 = q1 at *
      go_wp2_with fail
      refine HU1.out.mono ?_
      rintro e w5 ⟨rfl, hr5, hc5⟩
      have HR5 := Lib.hid hr5
      have HC5 := Lib.hid hc5
      have HL5 := Lib.hid (hc5.blk HLb.out (by simp; omega))
      have HA5 := Lib.hid (hc5.blk HA.out (by simp; omega))
      have HB5 := Lib.hid (hc5.blk HB.out (by simp; omega))
      have HZ5 := Lib.hid (hc5.blk HZ.out (by simp; omega))
      have HBB5 := Lib.hid (HBB.out.trans (hc5.below HBB.out.size (by simp; omega)))
      clear hr5 hc5 HU1
      -- the counter's cell, written
      have key : Hid (∀ x, x = mI n1 → ∀ w6, w6 = w5.setCell ⟨Lb, 2, none⟩ (.int .i64 x) →
          IsRr w.heap.size w6 R D.r ∧ w6.heap[Lb]? = some (.cells #[.slice (some ⟨g1, 0, none⟩) m m, .slice (some ⟨g2, 0, none⟩) m m, .int .i64 (mI n1)] 27 (0, 0)) ∧
          w6.heap[w.heap.size]? = some (.cells #[.slice none 0 0, .slice none 0 0, .int .i64 0] 27 (0, 0)) ∧ Below w.heap.size w w6 ∧
          w6.heap[g1]? = some (.cells (ints s.L.t m).toArray 3 (0, 0)) ∧ w6.heap[g2]? = some (.cells (ints s.L.r m).toArray 3 (0, 0))) := by
        rintro x rfl w6 rfl
        have hcs : Chg [Lb] w5 (w5.setCell ⟨Lb, 2, none⟩ (.int .i64 (mI n1))) := (Chg.refl [Lb] w5).setCell (p := ⟨Lb, 2, none⟩) (.inl (by simp)) _
        exact ⟨by rw [HDb.out.2.1]; exact HR5.out.chg hcs (by simp; omega), heap_setCell_same _ _ _ _ _ _ HL5.out, hcs.blk HZ5.out (by simp; omega), HBB5.out.trans (hcs.below HBB5.out.size (by simp; omega)), hcs.blk HA5.out (by simp; omega), hcs.blk HB5.out (by simp; omega)⟩
      have c5 : w5.cell? ⟨Lb, 2, none⟩ = some (.int .i64 0) := (cell_of_row _ _ 2 _ _ _ HL5.out).trans rfl
      have f5 : w5.frozen? ⟨Lb, 2, none⟩ = false := frozen_of_row _ _ _ _ _ HL5.out
      have HOWN : Hid (∀ w7, w7.heap[g1]? = some (.cells (ints s.L.t m).toArray 3 (0, 0)) → w7.heap[g2]? = some (.cells (ints s.L.r m).toArray 3 (0, 0)) → IsR w7 (.agg #[.slice (some ⟨g1, 0, none⟩) m m, .slice (some ⟨g2, 0, none⟩) m m, .int .i64 (mI n1)]) D.L) := by
        intro w7 h1 h2
        have hm := HLM.out
        rw [HDb.out.2.2]
        have h := isR_set w7 g1 g2 s.L (mI n1) (by rw [hm]; exact h8) (by rw [hm]; exact h1) (by rw [hm]; exact h2)
        rw [hm] at h
        exact h
      have HDB : Hid (D.b = great s.b n1) := HDb.out.1
      have HDO : Hid (∀ w', IsRr w.heap.size w' R D.r → Calls Try.prog 41 #[.pointer (some ⟨R, 0, none⟩)] w' fun e w'' => e = .returned (.int .i64 (doneR D.r)) ∧ w' = w'') := fun w' h => rdDone_calls R D.r w' h
      clear HDb HDD HL5 HA5 HB5 HZ5 HA HB HR HLb HZ HBB HR5 HC5
      obtain ⟨L, b, rr⟩ := D
      simp only at key HOWN HDB HDO HE1 HE2 HE3
      generalize hdd : doneR rr = d at *
      clear hdd
      generalize s.b = sb at *
      go_wp2_with fail; have hk6 := key.out ((wrap64 (n1 : Int))) (rfl) _ rfl; clear key c5 f5; generalize w5.setCell ⟨Lb, 2, none⟩ (.int .i64 (wrap64 (n1 : Int))) = w6 at *; have HR6 := Lib.hid hk6.1; have HL6 := Lib.hid hk6.2.1; have HZ6 := Lib.hid hk6.2.2.1; have HB6 := Lib.hid hk6.2.2.2.1; have HG6 := Lib.hid hk6.2.2.2.2; clear hk6; refine (HDO.out w6 HR6.out).mono ?_; rintro e w7 ⟨rfl, rfl⟩; have z0 : w6.cell? ⟨w.heap.size, 0, none⟩ = some (.slice none 0 0) := (cell_of_row _ _ 0 _ _ _ HZ6.out).trans rfl; have z1 : w6.cell? ⟨w.heap.size, 1, none⟩ = some (.slice none 0 0) := (cell_of_row _ _ 1 _ _ _ HZ6.out).trans rfl; have z2 : w6.cell? ⟨w.heap.size, 2, none⟩ = some (.int .i64 0) := (cell_of_row _ _ 2 _ _ _ HZ6.out).trans rfl; have y0 : w6.frozen? ⟨w.heap.size, 0, none⟩ = false := frozen_of_row _ _ _ _ _ HZ6.out; have y1 : w6.frozen? ⟨w.heap.size, 1, none⟩ = false := frozen_of_row _ _ _ _ _ HZ6.out; have y2 : w6.frozen? ⟨w.heap.size, 2, none⟩ = false := frozen_of_row _ _ _ _ _ HZ6.out
      by_cases hd : d = 0
      · subst hd
        cases sb with
        | true =>
          have HG : Hid (b = true) := by show _ = _; rw [HDB.out]; simp [great]
          as_aux_lemma => (go_wp2_with fail; have hz7 := heap_set3 HZ6.out (.slice none 0 0) (.slice none 0 0) (.int .i64 0); have hc7 := chg_set3 w6 w.heap.size (.slice none 0 0) (.slice none 0 0) (.int .i64 0); refine bodyPost_ret (results_cell_tmp rfl _ _ w.heap.size 27 #[.slice none 0 0, .slice none 0 0, .int .i64 0] (0, 0) _ rfl hz7 Try.underlying27 rfl size_leases) rfl ?_; exact (HE2.out _ (by simp) HG.out (HB6.out.trans (hc7.below HB6.out.size (by simp)))))
        | false =>
          by_cases h1 : n1 ≤ 1099511627776
          · have e1 : decide ((1099511627776 : Int) < (n1 : Int)) = false := by rw [decide_eq_false_iff_not]; omega
            have HG : Hid (b = false) := by show _ = _; rw [HDB.out]; unfold great; rw [decide_eq_false (by omega)]; rfl
            as_aux_lemma => (have l0 : w6.cell? ⟨Lb, 0, none⟩ = some (.slice (some ⟨g1, 0, none⟩) m m) := (cell_of_row _ _ 0 _ _ _ HL6.out).trans rfl; have l1 : w6.cell? ⟨Lb, 1, none⟩ = some (.slice (some ⟨g2, 0, none⟩) m m) := (cell_of_row _ _ 1 _ _ _ HL6.out).trans rfl; have l2 : w6.cell? ⟨Lb, 2, none⟩ = some (.int .i64 (mI n1)) := (cell_of_row _ _ 2 _ _ _ HL6.out).trans rfl; go_wp2_with fail; have hz7 := heap_set3 HZ6.out (.slice (some ⟨g1, 0, none⟩) m m) (.slice (some ⟨g2, 0, none⟩) m m) (.int .i64 (mI n1)); have hc7 := chg_set3 w6 w.heap.size (.slice (some ⟨g1, 0, none⟩) m m) (.slice (some ⟨g2, 0, none⟩) m m) (.int .i64 (mI n1)); refine bodyPost_ret (results_cell_tmp rfl _ _ w.heap.size 27 #[.slice (some ⟨g1, 0, none⟩) m m, .slice (some ⟨g2, 0, none⟩) m m, .int .i64 (mI n1)] (0, 0) _ rfl hz7 Try.underlying27 rfl size_leases) rfl ?_; exact HE3.out _ _ (by simp) HG.out (HOWN.out _ (hc7.blk HG6.out.1 (by simp; omega)) (hc7.blk HG6.out.2 (by simp; omega))) (HB6.out.trans (hc7.below HB6.out.size (by simp))))
          · have e1 : decide ((1099511627776 : Int) < (n1 : Int)) = true := by rw [decide_eq_true_eq]; omega
            have HG : Hid (b = true) := by show _ = _; rw [HDB.out]; unfold great; rw [decide_eq_true (show 1099511627776 < n1 by omega)]; simp
            as_aux_lemma => (go_wp2_with fail; have hz7 := heap_set3 HZ6.out (.slice none 0 0) (.slice none 0 0) (.int .i64 0); have hc7 := chg_set3 w6 w.heap.size (.slice none 0 0) (.slice none 0 0) (.int .i64 0); refine bodyPost_ret (results_cell_tmp rfl _ _ w.heap.size 27 #[.slice none 0 0, .slice none 0 0, .int .i64 0] (0, 0) _ rfl hz7 Try.underlying27 rfl size_leases) rfl ?_; exact (HE2.out _ (by simp) HG.out (HB6.out.trans (hc7.below HB6.out.size (by simp)))))
      · have q1 : (d != 0) = true := by simpa using hd
        have HDN := Lib.hid hd
        clear hd
        as_aux_lemma => (go_wp2_with fail; have hz7 := heap_set3 HZ6.out (.slice none 0 0) (.slice none 0 0) (.int .i64 0); have hc7 := chg_set3 w6 w.heap.size (.slice none 0 0) (.slice none 0 0) (.int .i64 0); refine bodyPost_ret (results_cell_tmp rfl _ _ w.heap.size 27 #[.slice none 0 0, .slice none 0 0, .int .i64 0] (0, 0) _ rfl hz7 Try.underlying27 rfl size_leases) rfl ?_; exact (HE1.out _ HDN.out (HB6.out.trans (hc7.below HB6.out.size (by simp)))))
end Ls
end Go.Proofs.Ytmdconcbelmdpaa
