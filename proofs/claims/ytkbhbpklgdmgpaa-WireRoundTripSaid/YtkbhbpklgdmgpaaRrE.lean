/- The walks of refmeshref02's Bool, ID, Done of the reader. -/
import Derived.Test.YtkbhbpklgdmgpaaRrD
import Derived.Test.YtkbhbpklgdmgpaaWrP
namespace Go.Proofs.Ytkbhbpklgdmgpaa
open Go.RowKit
namespace Wi
open Wr
variable {D : Nat}

/-- ID -/
def idR (r : Rs) : (Nat × Nat) × Rs :=
  if (uintR (uintR r).2).2.e ≠ 0 ∨ ((uintR r).1 = 0 ∧ (uintR (uintR r).2).1 = 0) then ((0, 0), (uintR (uintR r).2).2)
  else if 1 ≤ (uintR r).1 ∧ (uintR r).1 ≤ 8 ∧ 1 ≤ (uintR (uintR r).2).1 ∧ (uintR (uintR r).2).1 ≤ 1099511627775 then (((uintR r).1, (uintR (uintR r).2).1), (uintR (uintR r).2).2)
  else ((0, 0), failR 11)

set_option maxRecDepth 100000 in
theorem rdDone_calls (g : Nat) (r : Rs) (w : World) (h : IsRr D w g r) : Calls Try.prog 24 #[.pointer (some ⟨g, 0, none⟩)] w fun e w' => e = .returned (.int .i64 (doneR r)) ∧ w = w' := by
  obtain ⟨A, c, hg, _⟩ := h
  obtain ⟨l, er⟩ := r
  simp only at hg
  have c0 : w.cell? ⟨g, 0, none⟩ = some (.slice A l.length c) := (cell_of_row _ _ 0 _ _ _ hg).trans rfl
  have c1 : w.cell? ⟨g, 1, none⟩ = some (.int .i64 er) := (cell_of_row _ _ 1 _ _ _ hg).trans rfl
  clear hg
  by_cases he : er = 0
  · subst he
    by_cases hl : 0 < l.length
    · have HD : Hid (doneR ⟨l, 0⟩ = 11) := by show _ = _; unfold doneR; rw [if_pos ⟨rfl, hl⟩]
      rw [HD.out]
      have d0 : decide ((0 : Int) < (l.length : Int)) = true := by rw [decide_eq_true_eq]; omega
      generalize l.length = n at *
      go_enter Try.func24, Try.ntmps24
      go_wp2_with fail
      go_ret
      exact ⟨rfl, rfl⟩
    · have HD : Hid (doneR ⟨l, 0⟩ = 0) := by show _ = _; unfold doneR; rw [if_neg (by rintro ⟨_, h⟩; exact hl h)]
      rw [HD.out]
      have d0 : decide ((0 : Int) < (l.length : Int)) = false := by rw [decide_eq_false_iff_not]; omega
      generalize l.length = n at *
      go_enter Try.func24, Try.ntmps24
      go_wp2_with fail
      go_ret
      exact ⟨rfl, rfl⟩
  · have HD : Hid (doneR ⟨l, er⟩ = er) := by show _ = _; unfold doneR; rw [if_neg (by rintro ⟨h, _⟩; exact he h)]
    rw [HD.out]
    have q1 : (er == 0) = false := by simpa using he
    clear he
    go_enter Try.func24, Try.ntmps24
    go_wp2_with fail
    go_ret
    exact ⟨rfl, rfl⟩

set_option maxRecDepth 100000 in
set_option maxHeartbeats 1000000 in
theorem rdBool_calls (g : Nat) (r : Rs) (w : World) (h : IsRr D w g r) : Calls Try.prog 47 #[.pointer (some ⟨g, 0, none⟩)] w (RP D w g (.bool (boolR r).1) (boolR r).2) := by
  have HI := Lib.hid h
  obtain ⟨l, er⟩ := r
  obtain ⟨A, c, hg, hlc, hcm, hr, hne, hD⟩ := h
  simp only at hg hlc hr hne
  have c0 : w.cell? ⟨g, 0, none⟩ = some (.slice A l.length c) := (cell_of_row _ _ 0 _ _ _ hg).trans rfl
  have c1 : w.cell? ⟨g, 1, none⟩ = some (.int .i64 er) := (cell_of_row _ _ 1 _ _ _ hg).trans rfl
  have f0 : w.frozen? ⟨g, 0, none⟩ = false := frozen_of_row _ _ _ _ _ hg
  have HG := Lib.hid hg
  have HR := Lib.hid hr
  have HNE := Lib.hid hne
  have hcm' := hcm
  unfold maxLen at hcm'
  have HFA := Lib.hid (rfail_calls g _ er 11 w hD hg)
  clear hg hr hne
  by_cases he : er = 0
  · subst he
    cases l with
    | nil =>
      have HB : Hid (boolR ⟨[], 0⟩ = (false, failR 11)) := rfl
      rw [HB.out]
      have e0 : ((0 : Int) == 0) = true := rfl
      go_enter Try.func47, Try.ntmps47
      go_wp2_with fail
      refine HFA.out.mono ?_
      rintro e w2 ⟨rfl, hr2, hc2⟩
      have HZ : Hid (RP D w g (.bool false) (failR 11) (.returned (.bool false)) w2) := ⟨rfl, hr2, hc2⟩
      clear hr2 hc2
      go_wp2_with fail
      go_ret
      exact HZ.out
    | cons x t =>
      obtain ⟨b, off, rfl, _, hcl⟩ := RB.cells HR.out (by simp)
      have b0 : w.cell? ⟨b, off, none⟩ = some (.int .u8 (x.toNat : Int)) := by have := hcl 0 (by simp); simpa using this
      have hk255 : x.toNat ≤ 255 := by have := x.toNat_lt; omega
      obtain ⟨m, HM⟩ : ∃ m, Hid (m = t.length) := ⟨_, rfl⟩
      rw [List.length_cons, ← HM.out] at c0 hlc
      have e0 : (((m + 1 : Nat) : Int) == 0) = false := by simp; omega
      have e0' : ((m : Int) + 1 == 0) = false := by simp; omega
      have i1 : (0 : Int) < (m : Int) + 1 := by omega
      clear hcl
      by_cases h1 : 1 < x.toNat
      · have HB : Hid (boolR ⟨x :: t, 0⟩ = (false, failR 11)) := by show _ = _; unfold boolR; simp [h1]
        rw [HB.out]
        have d1 : decide ((1 : Int) < (x.toNat : Int)) = true := by simp; omega
        generalize x.toNat = q at *
        go_enter Try.func47, Try.ntmps47
        go_wp2_with fail
        refine HFA.out.mono ?_
        rintro e w2 ⟨rfl, hr2, hc2⟩
        have HZ : Hid (RP D w g (.bool false) (failR 11) (.returned (.bool false)) w2) := ⟨rfl, hr2, hc2⟩
        clear hr2 hc2
        go_wp2_with fail
        go_ret
        exact HZ.out
      · have HB : Hid (boolR ⟨x :: t, 0⟩ = (decide (x.toNat = 1), ⟨t, 0⟩)) := by show _ = _; unfold boolR; simp [h1]
        rw [HB.out]
        have d1 : decide ((1 : Int) < (x.toNat : Int)) = false := by simp; omega
        have hcut : ∀ w', (Instr.slice 24 (.slice (some ⟨b, off, none⟩) (m + 1) c) (some (.int .i64 1)) none none).run Try.prog w' = .ok (.slice (cutA (some ⟨b, off, none⟩) 1 c) m (c - 1)) w' :=
          fun w' => run_cut_l (P := Try.prog) Try.underlying24 elem_u8s size_u8 (some ⟨b, off, none⟩) (m + 1) c 1 (by omega) w'
        have HZ : Hid (∀ z, z = decide (x.toNat = 1) → RP D w g (.bool (decide (x.toNat = 1))) ⟨t, 0⟩ (.returned (.bool z)) (w.setCell ⟨g, 0, none⟩ (.slice (cutA (some ⟨b, off, none⟩) 1 c) m (c - 1)))) := by
          rintro z rfl
          have hcs : Chg [g] w (w.setCell ⟨g, 0, none⟩ (.slice (cutA (some ⟨b, off, none⟩) 1 c) m (c - 1))) := (Chg.refl [g] w).setCell (p := ⟨g, 0, none⟩) (.inl (by simp)) _
          refine ⟨rfl, ?_, hcs⟩
          have h3 := IsRr.cut (k := 1) HR.out (by simp; rw [← HM.out]; exact hlc) hcm HNE.out hD hcs (by simp) (by
            have h2 := heap_setCell_same w g 0 _ _ (.slice (cutA (some ⟨b, off, none⟩) 1 c) m (c - 1)) HG.out
            rw [h2, HM.out]; rfl)
          exact h3
        have d2 : ((x.toNat : Int) == 1) = decide (x.toNat = 1) := by
          by_cases h : x.toNat = 1
          · rw [h]; rfl
          · rw [decide_eq_false h, beq_eq_false_iff_ne]; omega
        generalize x.toNat = q at *
        go_enter Try.func47, Try.ntmps47
        go_wp2_with fail
        go_ret
        exact HZ.out _ rfl
  · have q1 : (er != 0) = true := by simpa using he
    have HF : Hid (RP D w g (.bool (boolR ⟨l, er⟩).1) (boolR ⟨l, er⟩).2 (.returned (.bool false)) w) := by
      unfold boolR; simp only [ne_eq, he, not_false_iff, if_true]; exact ⟨rfl, HI.out, Chg.refl _ _⟩
    clear he
    go_enter Try.func47, Try.ntmps47
    go_wp2_with fail
    go_ret
    exact HF.out

theorem size_id : (Try.prog.info? 32).map (·.size) = some 2 := by kernel_rfl

set_option maxRecDepth 100000 in
set_option maxHeartbeats 2000000 in
theorem rdID_calls (g : Nat) (r : Rs) (w : World) (h : IsRr D w g r) :
    Calls Try.prog 46 #[.pointer (some ⟨g, 0, none⟩)] w (RP D w g (.agg #[.int .i64 (((idR r).1.1 : Nat) : Int), .int .i64 (((idR r).1.2 : Nat) : Int)]) (idR r).2) := by
  have hgl := h.lt
  have HU1 := Lib.hid (fun w' (h' : IsRr D w' g r) => rdUint_calls g r w' h')
  have HU2 := Lib.hid (fun w' (h' : IsRr D w' g (uintR r).2) => rdUint_calls g (uintR r).2 w' h')
  unfold RuP at HU1 HU2
  have hlt1 := uintR_lt r
  have hlt2 := uintR_lt (uintR r).2
  have HI := Lib.hid h
  obtain ⟨cr, HCR⟩ : ∃ x, Hid (x = idR r) := ⟨_, rfl⟩
  have HCR' := HCR.out
  unfold idR at HCR'
  rw [← HCR.out]
  clear HCR h
  generalize (uintR (uintR r).2).1 = s at *
  generalize (uintR (uintR r).2).2 = r2 at *
  generalize (uintR r).1 = m at *
  generalize (uintR r).2 = r1 at *
  obtain ⟨l2, e2⟩ := r2
  simp only at HCR'
  have HCR := Lib.hid HCR'
  clear HCR'
  go_enter Try.func46, Try.ntmps46
  go_wp2_with fail
  have hk := heap_alloc_new w (.cells #[.int .i64 0, .int .i64 0] 32)
  have hb := below1 w (.cells #[.int .i64 0, .int .i64 0] 32)
  generalize w.alloc (.cells #[.int .i64 0, .int .i64 0] 32) = w0 at *
  refine (HU1.out w0 (HI.out.below hb)).mono ?_
  rintro e w1 ⟨rfl, hr1, hc1⟩
  have HK1 := Lib.hid (hc1.blk hk (by simp; omega))
  have HC1 := Lib.hid ((Chg.of_below hb [g]).trans' hc1)
  have HR1 := Lib.hid hr1
  clear hk hb hr1 hc1 HI HU1
  go_wp2_with fail
  refine (HU2.out w1 HR1.out).mono ?_
  rintro e w2 ⟨rfl, hr2, hc2⟩
  have HK2 := Lib.hid (hc2.blk HK1.out (by simp; omega))
  have HC2 := Lib.hid (HC1.out.trans' hc2)
  have HR2 := Lib.hid hr2
  clear hr2 hc2 HU2 HR1 HC1 HK1
  obtain ⟨A, c, hg, _, _, _, _, hD⟩ := HR2.out
  have HG := Lib.hid hg
  have c1 : w2.cell? ⟨g, 1, none⟩ = some (.int .i64 e2) := (cell_of_row _ _ 1 _ _ _ hg).trans rfl
  have f0 : w2.frozen? ⟨w.heap.size, 0, none⟩ = false := frozen_of_row _ _ _ _ _ HK2.out
  have f1 : w2.frozen? ⟨w.heap.size, 1, none⟩ = false := frozen_of_row _ _ _ _ _ HK2.out
  have g0 : w2.cell? ⟨w.heap.size, 0, none⟩ = some (.int .i64 0) := (cell_of_row _ _ 0 _ _ _ HK2.out).trans rfl
  have g1 : w2.cell? ⟨w.heap.size, 1, none⟩ = some (.int .i64 0) := (cell_of_row _ _ 1 _ _ _ HK2.out).trans rfl
  clear hg
  have HEND : Hid (∀ (w3 : World) (x y : Int), w3.heap[w.heap.size]? = some (.cells #[.int .i64 0, .int .i64 0] 32 (0, 0)) → ∀ r3, IsRr D w3 g r3 → Chg [g] w w3 →
      ((w3.setCell ⟨w.heap.size, 0, none⟩ (.int .i64 x)).setCell ⟨w.heap.size, 1, none⟩ (.int .i64 y)).heap[w.heap.size]? = some (.cells #[.int .i64 x, .int .i64 y] 32 (0, 0)) ∧ RP D w g (.agg #[.int .i64 x, .int .i64 y]) r3 (.returned (.agg #[.int .i64 x, .int .i64 y])) ((w3.setCell ⟨w.heap.size, 0, none⟩ (.int .i64 x)).setCell ⟨w.heap.size, 1, none⟩ (.int .i64 y))) := by
    intro w3 x y h1 r3 h2 h3
    have hcs : Chg [w.heap.size] w3 ((w3.setCell ⟨w.heap.size, 0, none⟩ (.int .i64 x)).setCell ⟨w.heap.size, 1, none⟩ (.int .i64 y)) := ((Chg.refl _ w3).setCell (p := ⟨w.heap.size, 0, none⟩) (.inl (by simp)) _).setCell (p := ⟨w.heap.size, 1, none⟩) (.inl (by simp)) _
    exact ⟨heap_setCell_same _ _ _ _ _ _ (heap_setCell_same _ _ _ _ _ _ h1), rfl, h2.chg hcs (by simp; omega), h3.trans hcs (by simp)⟩
  by_cases he : e2 = 0
  · subst he
    by_cases hz : m = 0 ∧ s = 0
    · obtain ⟨hz1, hz2⟩ := hz
      subst hz1; subst hz2
      have HE2 : Hid (cr = ((0, 0), ⟨l2, 0⟩)) := by show _ = _; rw [HCR.out]; simp
      obtain ⟨he1, he2⟩ := HEND.out w2 0 0 (HK2.out) _ (HR2.out) (HC2.out); have HE1 := Lib.hid he1; have HE3 := Lib.hid he2; clear he1 he2
      go_wp2_with fail
      exact bodyPost_ret (results_cell_row rfl _ _ w.heap.size 32 _ (0, 0) _ rfl HE1.out Try.underlying32 rfl size_id) rfl (by rw [HE2.out]; exact HE3.out)
    · by_cases hv : 1 ≤ m ∧ m ≤ 8 ∧ 1 ≤ s ∧ s ≤ 1099511627775
      · have HE2 : Hid (cr = ((m, s), ⟨l2, 0⟩)) := by show _ = _; rw [HCR.out]; simp only [ne_eq, not_true_eq_false, false_or]; rw [if_neg hz, if_pos hv]
        obtain ⟨h1, h2, h3, h4⟩ := hv
        have m0 : ((m : Int) == 0) = false := by rw [beq_eq_false_iff_ne]; omega
        have s0 : ((s : Int) == 0) = false := by rw [beq_eq_false_iff_ne]; omega
        have d1 : decide ((m : Int) < 1) = false := by rw [decide_eq_false_iff_not]; omega
        have d2 : decide ((8 : Int) < (m : Int)) = false := by rw [decide_eq_false_iff_not]; omega
        have d3 : decide ((s : Int) < 1) = false := by rw [decide_eq_false_iff_not]; omega
        have d4 : decide ((1099511627775 : Int) < (s : Int)) = false := by rw [decide_eq_false_iff_not]; omega
        obtain ⟨he1, he2⟩ := HEND.out w2 m s HK2.out _ HR2.out HC2.out
        have HE1 := Lib.hid he1
        have HE3 := Lib.hid he2
        clear he1 he2 hz
        go_wp2_with fail
        exact bodyPost_ret (results_cell_row rfl _ _ w.heap.size 32 _ (0, 0) _ rfl HE1.out Try.underlying32 rfl size_id) rfl (by rw [HE2.out]; exact HE3.out)
      · have HE2 : Hid (cr = ((0, 0), failR 11)) := by show _ = _; rw [HCR.out]; simp only [ne_eq, not_true_eq_false, false_or]; rw [if_neg hz, if_neg hv]
        have HFA := Lib.hid (rfail_calls g _ _ 11 w2 hD HG.out)
        have hcase : (m = 0 ∧ s ≠ 0) ∨ 8 < m ∨ (1 ≤ m ∧ m ≤ 8 ∧ s = 0) ∨ (1 ≤ m ∧ m ≤ 8 ∧ 1099511627775 < s) := by omega
        clear hz hv
        rcases hcase with ⟨rfl, h1⟩ | h1 | ⟨h1, h2, rfl⟩ | ⟨h1, h2, h3⟩
        · have s0 : ((s : Int) == 0) = false := by rw [beq_eq_false_iff_ne]; omega
          clear h1
          go_wp2_with fail; refine HFA.out.mono ?_; rintro e w3 ⟨rfl, hr3, hc3⟩; have HK3 := Lib.hid (hc3.blk HK2.out (by simp; omega)); obtain ⟨he1, he2⟩ := HEND.out w3 0 0 HK3.out _ hr3 (HC2.out.trans' hc3); have HE1 := Lib.hid he1; have HE3 := Lib.hid he2; have f0 : w3.frozen? ⟨w.heap.size, 0, none⟩ = false := frozen_of_row _ _ _ _ _ HK3.out; have f1 : w3.frozen? ⟨w.heap.size, 1, none⟩ = false := frozen_of_row _ _ _ _ _ HK3.out; have g0 : w3.cell? ⟨w.heap.size, 0, none⟩ = some (.int .i64 0) := (cell_of_row _ _ 0 _ _ _ HK3.out).trans rfl; have g1 : w3.cell? ⟨w.heap.size, 1, none⟩ = some (.int .i64 0) := (cell_of_row _ _ 1 _ _ _ HK3.out).trans rfl; clear he1 he2 hr3 hc3; go_wp2_with fail; exact bodyPost_ret (results_cell_row rfl _ _ w.heap.size 32 _ (0, 0) _ rfl HE1.out Try.underlying32 rfl size_id) rfl (by rw [HE2.out]; exact HE3.out)
        · have m0 : ((m : Int) == 0) = false := by rw [beq_eq_false_iff_ne]; omega
          have d1 : decide ((m : Int) < 1) = false := by rw [decide_eq_false_iff_not]; omega
          have d2 : decide ((8 : Int) < (m : Int)) = true := by rw [decide_eq_true_eq]; omega
          go_wp2_with fail; refine HFA.out.mono ?_; rintro e w3 ⟨rfl, hr3, hc3⟩; have HK3 := Lib.hid (hc3.blk HK2.out (by simp; omega)); obtain ⟨he1, he2⟩ := HEND.out w3 0 0 HK3.out _ hr3 (HC2.out.trans' hc3); have HE1 := Lib.hid he1; have HE3 := Lib.hid he2; have f0 : w3.frozen? ⟨w.heap.size, 0, none⟩ = false := frozen_of_row _ _ _ _ _ HK3.out; have f1 : w3.frozen? ⟨w.heap.size, 1, none⟩ = false := frozen_of_row _ _ _ _ _ HK3.out; have g0 : w3.cell? ⟨w.heap.size, 0, none⟩ = some (.int .i64 0) := (cell_of_row _ _ 0 _ _ _ HK3.out).trans rfl; have g1 : w3.cell? ⟨w.heap.size, 1, none⟩ = some (.int .i64 0) := (cell_of_row _ _ 1 _ _ _ HK3.out).trans rfl; clear he1 he2 hr3 hc3; go_wp2_with fail; exact bodyPost_ret (results_cell_row rfl _ _ w.heap.size 32 _ (0, 0) _ rfl HE1.out Try.underlying32 rfl size_id) rfl (by rw [HE2.out]; exact HE3.out)
        · have m0 : ((m : Int) == 0) = false := by rw [beq_eq_false_iff_ne]; omega
          have d1 : decide ((m : Int) < 1) = false := by rw [decide_eq_false_iff_not]; omega
          have d2 : decide ((8 : Int) < (m : Int)) = false := by rw [decide_eq_false_iff_not]; omega
          go_wp2_with fail; refine HFA.out.mono ?_; rintro e w3 ⟨rfl, hr3, hc3⟩; have HK3 := Lib.hid (hc3.blk HK2.out (by simp; omega)); obtain ⟨he1, he2⟩ := HEND.out w3 0 0 HK3.out _ hr3 (HC2.out.trans' hc3); have HE1 := Lib.hid he1; have HE3 := Lib.hid he2; have f0 : w3.frozen? ⟨w.heap.size, 0, none⟩ = false := frozen_of_row _ _ _ _ _ HK3.out; have f1 : w3.frozen? ⟨w.heap.size, 1, none⟩ = false := frozen_of_row _ _ _ _ _ HK3.out; have g0 : w3.cell? ⟨w.heap.size, 0, none⟩ = some (.int .i64 0) := (cell_of_row _ _ 0 _ _ _ HK3.out).trans rfl; have g1 : w3.cell? ⟨w.heap.size, 1, none⟩ = some (.int .i64 0) := (cell_of_row _ _ 1 _ _ _ HK3.out).trans rfl; clear he1 he2 hr3 hc3; go_wp2_with fail; exact bodyPost_ret (results_cell_row rfl _ _ w.heap.size 32 _ (0, 0) _ rfl HE1.out Try.underlying32 rfl size_id) rfl (by rw [HE2.out]; exact HE3.out)
        · have m0 : ((m : Int) == 0) = false := by rw [beq_eq_false_iff_ne]; omega
          have s0 : ((s : Int) == 0) = false := by rw [beq_eq_false_iff_ne]; omega
          have d1 : decide ((m : Int) < 1) = false := by rw [decide_eq_false_iff_not]; omega
          have d2 : decide ((8 : Int) < (m : Int)) = false := by rw [decide_eq_false_iff_not]; omega
          have d3 : decide ((s : Int) < 1) = false := by rw [decide_eq_false_iff_not]; omega
          have d4 : decide ((1099511627775 : Int) < (s : Int)) = true := by rw [decide_eq_true_eq]; omega
          go_wp2_with fail; refine HFA.out.mono ?_; rintro e w3 ⟨rfl, hr3, hc3⟩; have HK3 := Lib.hid (hc3.blk HK2.out (by simp; omega)); obtain ⟨he1, he2⟩ := HEND.out w3 0 0 HK3.out _ hr3 (HC2.out.trans' hc3); have HE1 := Lib.hid he1; have HE3 := Lib.hid he2; have f0 : w3.frozen? ⟨w.heap.size, 0, none⟩ = false := frozen_of_row _ _ _ _ _ HK3.out; have f1 : w3.frozen? ⟨w.heap.size, 1, none⟩ = false := frozen_of_row _ _ _ _ _ HK3.out; have g0 : w3.cell? ⟨w.heap.size, 0, none⟩ = some (.int .i64 0) := (cell_of_row _ _ 0 _ _ _ HK3.out).trans rfl; have g1 : w3.cell? ⟨w.heap.size, 1, none⟩ = some (.int .i64 0) := (cell_of_row _ _ 1 _ _ _ HK3.out).trans rfl; clear he1 he2 hr3 hc3; go_wp2_with fail; exact bodyPost_ret (results_cell_row rfl _ _ w.heap.size 32 _ (0, 0) _ rfl HE1.out Try.underlying32 rfl size_id) rfl (by rw [HE2.out]; exact HE3.out)
  · have HE2 : Hid (cr = ((0, 0), ⟨l2, e2⟩)) := by show _ = _; rw [HCR.out]; rw [if_pos (.inl he)]
    have q1 : (e2 != 0) = true := by simpa using he
    clear he
    obtain ⟨he1, he2⟩ := HEND.out w2 0 0 (HK2.out) _ (HR2.out) (HC2.out); have HE1 := Lib.hid he1; have HE3 := Lib.hid he2; clear he1 he2
    go_wp2_with fail
    exact bodyPost_ret (results_cell_row rfl _ _ w.heap.size 32 _ (0, 0) _ rfl HE1.out Try.underlying32 rfl size_id) rfl (by rw [HE2.out]; exact HE3.out)
end Wi
end Go.Proofs.Ytkbhbpklgdmgpaa
