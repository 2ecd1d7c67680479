/- The walks of the reader's Bool, Count, ID. -/
import Derived.Test.YtmdconcbelmdpaaRrE
namespace Go.Proofs.Ytmdconcbelmdpaa
open Go.RowKit
namespace Wi
open Wr

/-- try, over a closure that only reads -/
def TroP (g : Nat) (l : List UInt8) (E : Int) (w : World) (e : Ending) (w'' : World) : Prop :=
  (E = 0 ∧ e = .returned (.bool true) ∧ IsRd w'' g ⟨l, 0⟩ ∧ Chg [g] w w'') ∨ (E ≠ 0 ∧ e = .returned (.bool false) ∧ IsRd w'' g (failR E) ∧ Chg [g] w w'')
theorem try_ro (F : Nat) (caps : Array Value) (hcf : ∀ w' : World, (callFunc F caps).run Try.prog w' = .ok (.enter F caps) w') (g : Nat) (w : World) (l : List UInt8) (h : IsRd w g ⟨l, 0⟩) (E : Int)
    (H : Calls Try.prog F caps w (fun e w' => e = .returned (.int .i64 E) ∧ Chg [] w w')) :
    Calls Try.prog 44 #[.pointer (some ⟨g, 0, none⟩), .func (Fn.func F) #[] caps] w (TroP g l E w) := by
  obtain ⟨A, c, hg, hlc, hcm, hrb, hne⟩ := id h
  refine (try_calls F caps hcf g w _ hg (fun ec sl w' => ec = E ∧ sl = .slice A l.length c ∧ Chg [] w w') (H.mono ?_)).mono ?_
  · rintro e w' ⟨rfl, hc⟩
    exact ⟨E, _, rfl, hc.blk hg (by simp), rfl, rfl, hc⟩
  · rintro e w'' ⟨ec, sl, w', ⟨rfl, rfl, hc⟩, hg', hcase⟩
    rcases hcase with ⟨h0, rfl, rfl⟩ | ⟨h0, rfl, rfl⟩
    · have hcs : Chg [g] w' (w'.setCell ⟨g, 1, none⟩ (.int .i64 0)) := (Chg.refl [g] w').setCell (p := ⟨g, 1, none⟩) (.inl (by simp)) _
      refine .inl ⟨h0, rfl, ⟨A, c, heap_setCell_same _ _ _ _ _ _ hg', hlc, hcm, ?_, hne⟩, (hc.mono (by simp)).trans' hcs⟩
      refine RB.chg (RB.chg hrb hc (by simp)) hcs (fun hp b off e => ?_)
      have := hne hp b off e
      simp; omega
    · refine .inr ⟨h0, rfl, ⟨none, 0, heap_setCell_same _ _ _ _ _ _ (heap_setCell_same _ _ _ _ _ _ hg'), Nat.le_refl _, by simp [maxLen], RB.nil, fun h => by cases h⟩, ?_⟩
      exact ((hc.mono (by simp)).setCell (p := ⟨g, 1, none⟩) (.inl (by simp)) _).setCell (p := ⟨g, 0, none⟩) (.inl (by simp)) _

def DP (w : World) (g : Nat) (v : Value) (r2 : Rs) (e : Ending) (w' : World) : Prop := e = .returned v ∧ IsRd w' g r2 ∧ Chg [g] w w'

/-! ### Count -/
theorem enters_count : ∀ (args : Array Value) (w' : World), (callFunc 45 args).run Try.prog w' = .ok (.enter 45 args) w' := enters_of Try.func45 (by kernel_rfl) rfl

def cntE (most : Int) (n len : Nat) : Int := if most < 0 ∨ most < (n : Int) then 8 else if len < n then 11 else 0
set_option maxRecDepth 100000 in
set_option maxHeartbeats 1000000 in
theorem count1_calls (M0 N0 R0 g : Nat) (most : Int) (n : Nat) (A : Option Addr) (m c : Nat) (er : Value) (w : World) (hM : w.heap[M0]? = some (.cells #[.int .i64 most] 3 (0, 0))) (hN : w.heap[N0]? = some (.cells #[.int .u64 (n : Int)] 68 (0, 0)))
    (hR : w.heap[R0]? = some (.cells #[.pointer (some ⟨g, 0, none⟩)] 70 (0, 0))) (hg : w.heap[g]? = some (.cells #[.slice A m c, er] 82 (0, 0))) (hmc : m ≤ c) (hcm : c ≤ maxLen) (_hn : n < 18446744073709551616) (_h2 : most ≤ 9223372036854775807) :
    Calls Try.prog 45 #[.pointer (some ⟨M0, 0, none⟩), .pointer (some ⟨N0, 0, none⟩), .pointer (some ⟨R0, 0, none⟩)] w (fun e w' => e = .returned (.int .i64 (cntE most n m)) ∧ Chg [] w w') := by
  unfold maxLen at hcm
  have m0 : w.cell? ⟨M0, 0, none⟩ = some (.int .i64 most) := (cell_of_row _ _ 0 _ _ _ hM).trans rfl
  have n0 : w.cell? ⟨N0, 0, none⟩ = some (.int .u64 (n : Int)) := (cell_of_row _ _ 0 _ _ _ hN).trans rfl
  have r0 : w.cell? ⟨R0, 0, none⟩ = some (.pointer (some ⟨g, 0, none⟩)) := (cell_of_row _ _ 0 _ _ _ hR).trans rfl
  have g0 : w.cell? ⟨g, 0, none⟩ = some (.slice A m c) := (cell_of_row _ _ 0 _ _ _ hg).trans rfl
  clear hM hN hR hg
  have hw : IntKind.u64.wrap (m : Int) = (m : Int) := by rw [IntKind.wrap_u64]; omega
  by_cases h1 : most < 0
  · have HE : Hid (cntE most n m = 8) := by show _ = _; unfold cntE; rw [if_pos (.inl h1)]
    have d1 : decide (most < 0) = true := by simpa using h1
    rw [HE.out]
    go_enter Try.func45, Try.ntmps45
    go_wp2_with fail
    go_ret
    exact ⟨rfl, Chg.refl _ _⟩
  · have d1 : decide (most < 0) = false := by simpa using h1
    have hz : 0 ≤ most := by omega
    by_cases h2 : most < (n : Int)
    · have HE : Hid (cntE most n m = 8) := by show _ = _; unfold cntE; rw [if_pos (.inr h2)]
      have d2 : decide (most < (n : Int)) = true := by simpa using h2
      rw [HE.out]
      clear h1
      go_enter Try.func45, Try.ntmps45
      go_wp2_with fail
      go_ret
      exact ⟨rfl, Chg.refl _ _⟩
    · have d2 : decide (most < (n : Int)) = false := by simpa using h2
      by_cases h3 : m < n
      · have HE : Hid (cntE most n m = 11) := by show _ = _; unfold cntE; rw [if_neg (by omega), if_pos h3]
        have d3 : decide ((m : Int) < (n : Int)) = true := by simp; omega
        have d3' : decide (m < n) = true := by simpa using h3
        rw [HE.out]
        clear h1 h2
        go_enter Try.func45, Try.ntmps45
        go_wp2_with fail
        go_quiet (fail)
        go_wp2_with fail
        go_ret
        exact ⟨rfl, (Chg.refl _ _).drewN _⟩
      · have HE : Hid (cntE most n m = 0) := by show _ = _; unfold cntE; rw [if_neg (by omega), if_neg h3]
        have d3 : decide ((m : Int) < (n : Int)) = false := by simp; omega
        have d3' : decide (m < n) = false := by simpa using h3
        rw [HE.out]
        clear h1 h2
        go_enter Try.func45, Try.ntmps45
        go_wp2_with fail
        go_quiet (fail)
        go_wp2_with fail
        go_ret
        exact ⟨rfl, (Chg.refl _ _).drewN _⟩

set_option maxRecDepth 100000 in
set_option maxHeartbeats 1000000 in
theorem count_calls (g : Nat) (r : Rs) (most : Int) (w : World) (h : IsRd w g r) (hm1 : -9223372036854775808 ≤ most) (hm2 : most ≤ 9223372036854775807) :
    Calls Try.prog 33 #[.pointer (some ⟨g, 0, none⟩), .int .i64 most] w (DP w g (.int .i64 ((countR most r).1 : Int)) (countR most r).2) := by
  have hgl := h.lt
  have HU := Lib.hid (fun w' (h' : IsRd w' g r) => uint_calls g r w' h')
  unfold UintPost at HU
  have hlt := uintR_lt r
  have HI := Lib.hid h
  obtain ⟨cr, HCR⟩ : ∃ x, Hid (x = countR most r) := ⟨_, rfl⟩
  have HCR' := HCR.out
  unfold countR at HCR'
  rw [show uintR r = ((uintR r).1, (uintR r).2) from rfl] at HCR'
  rw [← HCR.out]
  clear HCR h
  generalize (uintR r).1 = n at *
  generalize (uintR r).2 = r2 at *
  obtain ⟨l2, e2⟩ := r2
  simp only at HCR'
  have HCR := Lib.hid HCR'
  clear HCR'
  go_enter Try.func33, Try.ntmps33
  go_wp2_with fail
  have hb1 := below2 w (.cells #[.pointer (some ⟨g, 0, none⟩)] 70) (.cells #[.int .i64 most] 3)
  have hR1 : ((w.alloc (.cells #[.pointer (some ⟨g, 0, none⟩)] 70)).alloc (.cells #[.int .i64 most] 3)).heap[w.heap.size]? = _ := (Below.heap_alloc _ _ _ (by simp)).trans (heap_alloc_new _ _)
  have hM1 : ((w.alloc (.cells #[.pointer (some ⟨g, 0, none⟩)] 70)).alloc (.cells #[.int .i64 most] 3)).heap[w.heap.size + 1]? = _ := heap_alloc2_new _ _ _
  generalize (w.alloc (.cells #[.pointer (some ⟨g, 0, none⟩)] 70)).alloc (.cells #[.int .i64 most] 3) = w1 at *
  refine (HU.out w1 (HI.out.below hb1)).mono ?_
  rintro e w2 ⟨rfl, hr2, hc2⟩
  have HRB := Lib.hid (hc2.blk hR1 (by simp; omega))
  have HMB := Lib.hid (hc2.blk hM1 (by simp; omega))
  have hs2 : w.heap.size + 1 < w2.heap.size := (Array.getElem?_eq_some_iff.1 HMB.out).1
  have HC2 := Lib.hid ((Chg.of_below hb1 [g]).trans' hc2)
  have HR2 := Lib.hid hr2
  have r0 : ∀ o : Obj, (w2.alloc o).cell? ⟨w.heap.size, 0, none⟩ = some (.pointer (some ⟨g, 0, none⟩)) := fun o => (World.cell?_alloc_lt w2 o ⟨w.heap.size, 0, none⟩ (by show w.heap.size < _; omega)).trans ((cell_of_row _ _ 0 _ _ _ HRB.out).trans rfl)
  have r0' : w2.cell? ⟨w.heap.size, 0, none⟩ = some (.pointer (some ⟨g, 0, none⟩)) := (cell_of_row _ _ 0 _ _ _ HRB.out).trans rfl
  clear hb1 hR1 hM1 hr2 hc2 HI HU
  go_wp2_with fail
  have hb3 := below1 w2 (.cells #[.int .u64 (n : Int)] 68)
  have hN := heap_alloc_new w2 (.cells #[.int .u64 (n : Int)] 68)
  change Calls _ _ _ (w2.alloc (.cells #[.int .u64 (n : Int)] 68)) _
  clear r0
  generalize w2.alloc (.cells #[.int .u64 (n : Int)] 68) = w3 at *
  have HN3 := Lib.hid hN
  have HR3 := Lib.hid (HR2.out.below hb3)
  have HC3 := Lib.hid (HC2.out.trans' (Chg.of_below hb3 [g]))
  have HRB3 := Lib.hid ((hb3.block _ (by omega)).trans HRB.out)
  have HMB3 := Lib.hid ((hb3.block _ hs2).trans HMB.out)
  have hgs : g < w2.heap.size := by omega
  clear hN hb3 r0' HRB HMB HC2 HR2
  by_cases he : e2 = 0
  · subst he
    obtain ⟨A, c, hg, hlc, hcm, _, _⟩ := HR3.out
    have HX := Lib.hid (count1_calls (w.heap.size + 1) w2.heap.size w.heap.size g most n A l2.length c _ w3 HMB3.out HN3.out HRB3.out hg hlc hcm hlt hm2)
    clear hg hlc hcm
    refine (try_ro _ _ (enters_count _) g w3 l2 HR3.out (cntE most n l2.length) HX.out).mono ?_
    rintro e w4 (⟨h0, rfl, hr4, hc4⟩ | ⟨h0, rfl, hr4, hc4⟩)
    · have HE : Hid (cr = (n, ⟨l2, 0⟩)) := by
        show _ = _; rw [HCR.out]; unfold cntE at h0
        rw [if_neg (by simp)]
        split at h0
        · cases h0
        · rename_i hx; rw [if_neg hx]; split at h0
          · cases h0
          · rename_i hy; rw [if_neg hy]
      have hnm : (n : Int) ≤ most := by unfold cntE at h0; split at h0; cases h0; omega
      have n0 : w4.cell? ⟨w2.heap.size, 0, none⟩ = some (.int .u64 (n : Int)) := (hc4.cellAt HN3.out (by simp; omega)).trans rfl
      have HZ : Hid (DP w g (.int .i64 (cr.1 : Int)) cr.2 (.returned (.int .i64 (n : Int))) w4) := by rw [HE.out]; exact ⟨rfl, hr4, HC3.out.trans' hc4⟩
      clear hr4 hc4 h0
      go_wp2_with fail
      go_ret
      exact HZ.out
    · have HE : Hid (cr = (0, failR (cntE most n l2.length))) := by
        show _ = _; rw [HCR.out]; unfold cntE at h0 ⊢
        rw [if_neg (by simp)]
        split
        · rfl
        · rename_i hx; rw [if_neg hx] at h0; split
          · rfl
          · rename_i hy; rw [if_neg hy] at h0; exact absurd rfl h0
      have HZ : Hid (DP w g (.int .i64 (cr.1 : Int)) cr.2 (.returned (.int .i64 0)) w4) := by rw [HE.out]; exact ⟨rfl, hr4, HC3.out.trans' hc4⟩
      clear hr4 hc4 h0
      go_wp2_with fail
      go_ret
      exact HZ.out
  · obtain ⟨A, c, hg, _⟩ := HR3.out
    refine (try_no _ g w3 _ e2 hg he).mono ?_
    rintro e w4 ⟨rfl, rfl⟩
    have HZ : Hid (DP w g (.int .i64 (cr.1 : Int)) cr.2 (.returned (.int .i64 0)) w3) := by
      have := HCR.out
      rw [if_pos he] at this
      rw [this]; exact ⟨rfl, HR3.out, HC3.out⟩
    clear hg
    go_wp2_with fail
    go_ret
    exact HZ.out
end Wi
end Go.Proofs.Ytmdconcbelmdpaa
