/- The walk of the reader's ID. -/
import Derived.Test.YtkbhbpklgdmgpaaWrU
namespace Go.Proofs.Ytkbhbpklgdmgpaa
open Go.RowKit
namespace Wi
open Wr

def idE (m s : Nat) : Int := if (m = 0 ∧ s = 0) ∨ (1 ≤ m ∧ m ≤ 8 ∧ 1 ≤ s ∧ s ≤ 1099511627775) then 0 else 11

set_option maxRecDepth 100000 in
set_option maxHeartbeats 1000000 in
theorem id1_calls (M0 S0 : Nat) (m s : Nat) (w : World) (hM : w.heap[M0]? = some (.cells #[.int .u64 (m : Int)] 22 (0, 0))) (hS : w.heap[S0]? = some (.cells #[.int .u64 (s : Int)] 22 (0, 0))) :
    Calls Try.prog 50 #[.pointer (some ⟨M0, 0, none⟩), .pointer (some ⟨S0, 0, none⟩)] w (fun e w' => e = .returned (.int .i64 (idE m s)) ∧ Chg [] w w') := by
  have m0 : w.cell? ⟨M0, 0, none⟩ = some (.int .u64 (m : Int)) := (cell_of_row _ _ 0 _ _ _ hM).trans rfl
  have s0 : w.cell? ⟨S0, 0, none⟩ = some (.int .u64 (s : Int)) := (cell_of_row _ _ 0 _ _ _ hS).trans rfl
  clear hM hS
  have hcase : (m = 0 ∧ s = 0) ∨ (m = 0 ∧ s ≠ 0) ∨ 8 < m ∨ (1 ≤ m ∧ m ≤ 8 ∧ s = 0) ∨ (1 ≤ m ∧ m ≤ 8 ∧ 1099511627775 < s) ∨ (1 ≤ m ∧ m ≤ 8 ∧ 1 ≤ s ∧ s ≤ 1099511627775) := by omega
  rcases hcase with ⟨rfl, rfl⟩ | ⟨rfl, h1⟩ | h1 | ⟨h1, h2, rfl⟩ | ⟨h1, h2, h3⟩ | ⟨h1, h2, h3, h4⟩
  · have HE : Hid (idE 0 0 = 0) := rfl
    rw [HE.out]
    go_enter Try.func50, Try.ntmps50; go_wp2_with fail; go_ret; exact ⟨rfl, Chg.refl _ _⟩
  · have HE : Hid (idE 0 s = 11) := by show _ = _; unfold idE; rw [if_neg (by omega)]
    rw [HE.out]
    have b2 : ((s : Int) == 0) = false := by rw [beq_eq_false_iff_ne]; omega
    clear h1
    go_enter Try.func50, Try.ntmps50; go_wp2_with fail; go_ret; exact ⟨rfl, Chg.refl _ _⟩
  · have HE : Hid (idE m s = 11) := by show _ = _; unfold idE; rw [if_neg (by omega)]
    rw [HE.out]
    have b1 : ((m : Int) == 0) = false := by rw [beq_eq_false_iff_ne]; omega
    have d1 : decide ((1 : Int) ≤ (m : Int)) = true := by rw [decide_eq_true_eq]; omega
    have d2 : decide ((m : Int) ≤ 8) = false := by rw [decide_eq_false_iff_not]; omega
    go_enter Try.func50, Try.ntmps50; go_wp2_with fail; go_ret; exact ⟨rfl, Chg.refl _ _⟩
  · have HE : Hid (idE m 0 = 11) := by show _ = _; unfold idE; rw [if_neg (by omega)]
    rw [HE.out]
    have b1 : ((m : Int) == 0) = false := by rw [beq_eq_false_iff_ne]; omega
    have d1 : decide ((1 : Int) ≤ (m : Int)) = true := by rw [decide_eq_true_eq]; omega
    have d2 : decide ((m : Int) ≤ 8) = true := by rw [decide_eq_true_eq]; omega
    go_enter Try.func50, Try.ntmps50; go_wp2_with fail; go_ret; exact ⟨rfl, Chg.refl _ _⟩
  · have HE : Hid (idE m s = 11) := by show _ = _; unfold idE; rw [if_neg (by omega)]
    rw [HE.out]
    have b1 : ((m : Int) == 0) = false := by rw [beq_eq_false_iff_ne]; omega
    have d1 : decide ((1 : Int) ≤ (m : Int)) = true := by rw [decide_eq_true_eq]; omega
    have d2 : decide ((m : Int) ≤ 8) = true := by rw [decide_eq_true_eq]; omega
    have d3 : decide ((1 : Int) ≤ (s : Int)) = true := by rw [decide_eq_true_eq]; omega
    have d4 : decide ((s : Int) ≤ 1099511627775) = false := by rw [decide_eq_false_iff_not]; omega
    go_enter Try.func50, Try.ntmps50; go_wp2_with fail; go_ret; exact ⟨rfl, Chg.refl _ _⟩
  · have HE : Hid (idE m s = 0) := by show _ = _; unfold idE; rw [if_pos (by omega)]
    rw [HE.out]
    have b1 : ((m : Int) == 0) = false := by rw [beq_eq_false_iff_ne]; omega
    have d1 : decide ((1 : Int) ≤ (m : Int)) = true := by rw [decide_eq_true_eq]; omega
    have d2 : decide ((m : Int) ≤ 8) = true := by rw [decide_eq_true_eq]; omega
    have d3 : decide ((1 : Int) ≤ (s : Int)) = true := by rw [decide_eq_true_eq]; omega
    have d4 : decide ((s : Int) ≤ 1099511627775) = true := by rw [decide_eq_true_eq]; omega
    go_enter Try.func50, Try.ntmps50; go_wp2_with fail; go_ret; exact ⟨rfl, Chg.refl _ _⟩

theorem idR_zero (r : Rs) (m s : Nat) (r2 : Rs) (hm : (uintR r).1 = m) (hs : (uintR (uintR r).2).1 = s) (hr : (uintR (uintR r).2).2 = r2) :
    idR r = if r2.e ≠ 0 then ((0, 0), r2) else if idE m s = 0 then ((m, s), r2) else ((0, 0), failR 11) := by
  subst hm; subst hs; subst hr
  unfold idR idE
  by_cases he : (uintR (uintR r).2).2.e ≠ 0
  · rw [if_pos (.inl he), if_pos he]
  · rw [if_neg he]
    by_cases hz : (uintR r).1 = 0 ∧ (uintR (uintR r).2).1 = 0
    · rw [if_pos (.inr hz), if_pos (by rw [if_pos (.inl hz)]), hz.1, hz.2]
    · rw [if_neg (by rintro (h | h); exact he h; exact hz h)]
      by_cases hv : 1 ≤ (uintR r).1 ∧ (uintR r).1 ≤ 8 ∧ 1 ≤ (uintR (uintR r).2).1 ∧ (uintR (uintR r).2).1 ≤ 1099511627775
      · rw [if_pos hv, if_pos (by rw [if_pos (.inr hv)])]
      · rw [if_neg hv, if_neg (by rw [if_neg (by rintro (h | h); exact hz h; exact hv h)]; decide)]

set_option maxRecDepth 100000 in
set_option maxHeartbeats 2000000 in
theorem id_calls (g : Nat) (r : Rs) (w : World) (h : IsRd w g r) :
    Calls Try.prog 41 #[.pointer (some ⟨g, 0, none⟩)] w (DP w g (.agg #[.int .i64 (((idR r).1.1 : Nat) : Int), .int .i64 (((idR r).1.2 : Nat) : Int)]) (idR r).2) := by
  have hgl := h.lt
  have HU1 := Lib.hid (fun w' (h' : IsRd w' g r) => uint_calls g r w' h')
  have HU2 := Lib.hid (fun w' (h' : IsRd w' g (uintR r).2) => uint_calls g (uintR r).2 w' h')
  unfold UintPost at HU1 HU2
  have hlt1 := uintR_lt r
  have hlt2 := uintR_lt (uintR r).2
  have HI := Lib.hid h
  have HCR0 := Lib.hid (idR_zero r _ _ _ rfl rfl rfl)
  obtain ⟨cr, HCR⟩ : ∃ x, Hid (x = idR r) := ⟨_, rfl⟩
  rw [← HCR.out]
  rw [← HCR.out] at HCR0
  clear HCR h
  generalize (uintR (uintR r).2).1 = s at *
  generalize (uintR (uintR r).2).2 = r2 at *
  generalize (uintR r).1 = m at *
  generalize (uintR r).2 = r1 at *
  obtain ⟨l2, e2⟩ := r2
  simp only at HCR0
  go_enter Try.func41, Try.ntmps41
  go_wp2_with fail
  have hk := heap_alloc_new w (.cells #[.int .i64 0, .int .i64 0] 32)
  have hb := below1 w (.cells #[.int .i64 0, .int .i64 0] 32)
  generalize w.alloc (.cells #[.int .i64 0, .int .i64 0] 32) = w0 at *
  refine (HU1.out w0 (HI.out.below hb)).mono ?_
  rintro e w1 ⟨rfl, hr1, hc1⟩
  have HK1 := Lib.hid (hc1.blk hk (by simp; omega))
  have HC1 := Lib.hid ((Chg.of_below hb [g]).trans' hc1)
  have HR1 := Lib.hid hr1
  clear hk hb hr1 hc1 HI HU1
  go_wp2_with fail
  refine (HU2.out w1 HR1.out).mono ?_
  rintro e w2 ⟨rfl, hr2, hc2⟩
  have HK2 := Lib.hid (hc2.blk HK1.out (by simp; omega))
  have HC2 := Lib.hid (HC1.out.trans' hc2)
  have HR2 := Lib.hid hr2
  have hs2 : w.heap.size < w2.heap.size := (Array.getElem?_eq_some_iff.1 HK2.out).1
  clear hr2 hc2 HU2 HR1 HC1 HK1
  go_wp2_with fail
  have hb3 := below2 w2 (.cells #[.int .u64 (m : Int)] 22) (.cells #[.int .u64 (s : Int)] 22)
  have hM3 : ((w2.alloc (.cells #[.int .u64 (m : Int)] 22)).alloc (.cells #[.int .u64 (s : Int)] 22)).heap[w2.heap.size]? = _ := (Below.heap_alloc _ _ _ (by simp)).trans (heap_alloc_new _ _)
  have hS3 : ((w2.alloc (.cells #[.int .u64 (m : Int)] 22)).alloc (.cells #[.int .u64 (s : Int)] 22)).heap[w2.heap.size + 1]? = _ := heap_alloc2_new _ _ _
  change Calls _ _ _ ((w2.alloc (.cells #[.int .u64 (m : Int)] 22)).alloc (.cells #[.int .u64 (s : Int)] 22)) _
  generalize (w2.alloc (.cells #[.int .u64 (m : Int)] 22)).alloc (.cells #[.int .u64 (s : Int)] 22) = w3 at *
  have HM3 := Lib.hid hM3
  have HS3 := Lib.hid hS3
  have HK3 := Lib.hid ((hb3.block _ hs2).trans HK2.out)
  have HR3 := Lib.hid (HR2.out.below hb3)
  have HC3 := Lib.hid (HC2.out.trans' (Chg.of_below hb3 [g]))
  clear hb3 hM3 hS3 HK2 HC2 HR2
  have HEND : Hid (∀ (w3 : World) (x y : Int), w3.heap[w.heap.size]? = some (.cells #[.int .i64 0, .int .i64 0] 32 (0, 0)) → ∀ r3, IsRd w3 g r3 → Chg [g] w w3 →
      ((w3.setCell ⟨w.heap.size, 0, none⟩ (.int .i64 x)).setCell ⟨w.heap.size, 1, none⟩ (.int .i64 y)).heap[w.heap.size]? = some (.cells #[.int .i64 x, .int .i64 y] 32 (0, 0)) ∧ DP w g (.agg #[.int .i64 x, .int .i64 y]) r3 (.returned (.agg #[.int .i64 x, .int .i64 y])) ((w3.setCell ⟨w.heap.size, 0, none⟩ (.int .i64 x)).setCell ⟨w.heap.size, 1, none⟩ (.int .i64 y))) := by
    intro w3 x y h1 r3 h2 h3
    have hcs : Chg [w.heap.size] w3 ((w3.setCell ⟨w.heap.size, 0, none⟩ (.int .i64 x)).setCell ⟨w.heap.size, 1, none⟩ (.int .i64 y)) := ((Chg.refl _ w3).setCell (p := ⟨w.heap.size, 0, none⟩) (.inl (by simp)) _).setCell (p := ⟨w.heap.size, 1, none⟩) (.inl (by simp)) _
    exact ⟨heap_setCell_same _ _ _ _ _ _ (heap_setCell_same _ _ _ _ _ _ h1), rfl, h2.chg hcs (by simp; omega), h3.trans hcs (by simp)⟩
  by_cases he : e2 = 0
  · subst he
    have HX := Lib.hid (id1_calls w2.heap.size (w2.heap.size + 1) m s w3 HM3.out HS3.out)
    refine (try_ro _ _ (enters_id _) g w3 l2 HR3.out (idE m s) HX.out).mono ?_
    rintro e w4 (⟨h0, rfl, hr4, hc4⟩ | ⟨h0, rfl, hr4, hc4⟩)
    · have HE2 : Hid (cr = ((m, s), ⟨l2, 0⟩)) := by show _ = _; rw [HCR0.out, if_neg (by simp), if_pos h0]
      have hmb : m ≤ 8 := by unfold idE at h0; split at h0; omega; cases h0
      have hsb : s ≤ 1099511627775 := by unfold idE at h0; split at h0; omega; cases h0
      have HK4 := Lib.hid (hc4.blk HK3.out (by simp; omega))
      have m4 : w4.cell? ⟨w2.heap.size, 0, none⟩ = some (.int .u64 (m : Int)) := (hc4.cellAt HM3.out (by simp; omega)).trans rfl
      have s4 : w4.cell? ⟨w2.heap.size + 1, 0, none⟩ = some (.int .u64 (s : Int)) := (hc4.cellAt HS3.out (by simp; omega)).trans rfl
      have f0 : w4.frozen? ⟨w.heap.size, 0, none⟩ = false := frozen_of_row _ _ _ _ _ HK4.out; have f1 : w4.frozen? ⟨w.heap.size, 1, none⟩ = false := frozen_of_row _ _ _ _ _ HK4.out; have g0 : w4.cell? ⟨w.heap.size, 0, none⟩ = some (.int .i64 0) := (cell_of_row _ _ 0 _ _ _ HK4.out).trans rfl; have g1 : w4.cell? ⟨w.heap.size, 1, none⟩ = some (.int .i64 0) := (cell_of_row _ _ 1 _ _ _ HK4.out).trans rfl
      obtain ⟨he1, he2⟩ := HEND.out w4 m s (HK4.out) _ (hr4) (HC3.out.trans' hc4); have HE1 := Lib.hid he1; have HE3 := Lib.hid he2; clear he1 he2
      clear hr4 hc4 h0
      go_wp2_with fail
      exact bodyPost_ret (results_cell_row rfl _ _ w.heap.size 32 _ (0, 0) _ rfl HE1.out Try.underlying32 rfl size_id) rfl (by rw [HE2.out]; exact HE3.out)
    · have HE2 : Hid (cr = ((0, 0), failR 11)) := by show _ = _; rw [HCR0.out, if_neg (by simp), if_neg h0]
      have hE : idE m s = 11 := by unfold idE at h0 ⊢; split at h0; exact absurd rfl h0; rename_i h; rw [if_neg h]
      rw [hE] at hr4
      have HK4 := Lib.hid (hc4.blk HK3.out (by simp; omega))
      have f0 : w4.frozen? ⟨w.heap.size, 0, none⟩ = false := frozen_of_row _ _ _ _ _ HK4.out; have f1 : w4.frozen? ⟨w.heap.size, 1, none⟩ = false := frozen_of_row _ _ _ _ _ HK4.out; have g0 : w4.cell? ⟨w.heap.size, 0, none⟩ = some (.int .i64 0) := (cell_of_row _ _ 0 _ _ _ HK4.out).trans rfl; have g1 : w4.cell? ⟨w.heap.size, 1, none⟩ = some (.int .i64 0) := (cell_of_row _ _ 1 _ _ _ HK4.out).trans rfl
      obtain ⟨he1, he2⟩ := HEND.out w4 0 0 (HK4.out) _ (hr4) (HC3.out.trans' hc4); have HE1 := Lib.hid he1; have HE3 := Lib.hid he2; clear he1 he2
      clear hr4 hc4 h0 hE
      go_wp2_with fail
      exact bodyPost_ret (results_cell_row rfl _ _ w.heap.size 32 _ (0, 0) _ rfl HE1.out Try.underlying32 rfl size_id) rfl (by rw [HE2.out]; exact HE3.out)
  · obtain ⟨A, c, hg, _⟩ := HR3.out
    refine (try_no _ g w3 _ e2 hg he).mono ?_
    rintro e w4 ⟨rfl, rfl⟩
    have HE2 : Hid (cr = ((0, 0), ⟨l2, e2⟩)) := by show _ = _; rw [HCR0.out, if_pos he]
    clear hg he
    have f0 : w3.frozen? ⟨w.heap.size, 0, none⟩ = false := frozen_of_row _ _ _ _ _ HK3.out; have f1 : w3.frozen? ⟨w.heap.size, 1, none⟩ = false := frozen_of_row _ _ _ _ _ HK3.out; have g0 : w3.cell? ⟨w.heap.size, 0, none⟩ = some (.int .i64 0) := (cell_of_row _ _ 0 _ _ _ HK3.out).trans rfl; have g1 : w3.cell? ⟨w.heap.size, 1, none⟩ = some (.int .i64 0) := (cell_of_row _ _ 1 _ _ _ HK3.out).trans rfl
    obtain ⟨he1, he2⟩ := HEND.out w3 0 0 (HK3.out) _ (HR3.out) (HC3.out); have HE1 := Lib.hid he1; have HE3 := Lib.hid he2; clear he1 he2
    go_wp2_with fail
    exact bodyPost_ret (results_cell_row rfl _ _ w.heap.size 32 _ (0, 0) _ rfl HE1.out Try.underlying32 rfl size_id) rfl (by rw [HE2.out]; exact HE3.out)
end Wi
end Go.Proofs.Ytkbhbpklgdmgpaa
