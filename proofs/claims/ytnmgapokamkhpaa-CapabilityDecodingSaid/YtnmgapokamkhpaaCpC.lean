/- The walks of capability.Mine (a number that is there), New, Issued. -/
import Derived.Test.YtnmgapokamkhpaaCpB
namespace Go.Proofs.Ytnmgapokamkhpaa
open Go.RowKit Go.Shelf
namespace Cp
open Sip
attribute [local go_sem] Oper.semAt_some

set_option maxRecDepth 100000 in
set_option maxHeartbeats 2000000 in
theorem mine_calls (k0 k1 : BitVec 64) (g c : Nat) (x : BitVec 64) (t : Nat) (w : World) (hg : IsB w g k0 k1 c)
    (hct : t ≤ c) (h1 : 1 ≤ t) (ht : t < 1000000000) (hne : ∀ s, 1 ≤ s → s < t → num k0 k1 s ≠ x) (hx : num k0 k1 t = x) :
    Calls Try.prog 12 #[.pointer (some ⟨g, 0, none⟩), vw x] w fun e w' => e = .returned (.bool true) ∧ Below w.heap.size w w' := by
  have HG := Lib.hid hg
  have HNE := Lib.hid hne
  have HX := Lib.hid hx
  have hgl : g < w.heap.size := (Array.getElem?_eq_some_iff.1 hg).1
  clear hg hne hx
  refine (callsIn_wide (n := 5)).1 ?_
  refine callsIn_of_wp_marks Try.func12 rfl trivial ?_ rfl
  simp only [Try.ntmps12, List.size_toArray, List.length_cons, List.length_nil, Nat.reduceAdd, Nat.reduceSub, Array.replicate_succ, Array.replicate_zero, List.push_toArray, List.append_toArray, List.nil_append, List.cons_append]
  gi_wp2
  obtain ⟨X1, HX1⟩ : ∃ X, Hid (X = Obj.cells #[.pointer (some ⟨g, 0, none⟩)] 27) := ⟨_, Lib.hid rfl⟩
  obtain ⟨X2, HX2⟩ : ∃ X, Hid (X = Obj.cells #[vw x] 22) := ⟨_, Lib.hid rfl⟩
  obtain ⟨X3, HX3⟩ : ∃ X, Hid (X = Obj.cells #[.bool false] 4) := ⟨_, Lib.hid rfl⟩
  have hBx : Hid ((((w.alloc X1).alloc X2).alloc X3).heap[w.heap.size]? = some X1) := heap3_a w X1 X2 X3
  have hUx : Hid ((((w.alloc X1).alloc X2).alloc X3).heap[w.heap.size + 1]? = some X2) := heap3_b w X1 X2 X3
  have hRx : Hid ((((w.alloc X1).alloc X2).alloc X3).heap[w.heap.size + 1 + 1]? = some X3) := heap3_c w X1 X2 X3
  have hBel : Hid (Below w.heap.size w (((w.alloc X1).alloc X2).alloc X3)) := below3n w X1 X2 X3
  rw [← HX1.out, show Obj.cells #[.int .u64 (x.toNat : Int)] 22 = X2 from HX2.out.symm, ← HX3.out]
  generalize ((w.alloc X1).alloc X2).alloc X3 = w1 at *
  rw [HX1.out] at hBx
  rw [HX2.out] at hUx
  rw [HX3.out] at hRx
  have hG1 := Lib.hid ((hBel.out.block g hgl).trans HG.out)
  have hrl : w.heap.size + 1 + 1 < w1.heap.size := (Array.getElem?_eq_some_iff.1 hRx.out).1
  clear HX1 HX2 HX3 X1 X2 X3 HG
  refine ⟨trivial, ?_⟩
  refine (callsIn_wide.2 (numbers_calls g 1 w1)).mono ?_
  rintro e w' ⟨rfl, rfl⟩
  have hF0 : Hid (((w1.alloc (.cells #[.pointer (some ⟨g, 0, none⟩)] 27)).alloc (.cells #[.int .i64 1] 3)).heap[w1.heap.size + 1]? = some (.cells #[.int .i64 1] 3 (0, 0))) := heap_alloc2_new _ _ _
  have hB0 : Hid (((w1.alloc (.cells #[.pointer (some ⟨g, 0, none⟩)] 27)).alloc (.cells #[.int .i64 1] 3)).heap[w1.heap.size]? = some (.cells #[.pointer (some ⟨g, 0, none⟩)] 27 (0, 0))) := (Below.heap_alloc _ _ _ (by simp)).trans (heap_alloc_new _ _)
  have hb2 := (below2 w1 (.cells #[.pointer (some ⟨g, 0, none⟩)] 27) (.cells #[.int .i64 1] 3))
  have hB2 := Lib.hid (hBel.out.trans (hb2.mono hBel.out.size))
  have hG2 := Lib.hid ((hb2.block _ (by omega)).trans hG1.out)
  have hBx2 := Lib.hid ((hb2.block _ (by omega)).trans hBx.out)
  have hUx2 := Lib.hid ((hb2.block _ (by omega)).trans hUx.out)
  have hRx2 := Lib.hid ((hb2.block _ hrl).trans hRx.out)
  clear hb2 hG1 hBx hUx hRx hBel
  generalize ((w1.alloc (.cells #[.pointer (some ⟨g, 0, none⟩)] 27)).alloc (.cells #[.int .i64 1] 3)) = w2 at *
  have hfl : w1.heap.size + 1 < w2.heap.size := (Array.getElem?_eq_some_iff.1 hF0.out).1
  gi_wp2
  have hF' : w2.cell? ⟨w1.heap.size + 1, 0, none⟩ = some (.int .i64 ((1 : Nat) : Int)) := (cell_of_row _ _ 0 _ _ _ hF0.out).trans (by simp)
  have hB' : w2.cell? ⟨w1.heap.size, 0, none⟩ = some (.pointer (some ⟨g, 0, none⟩)) := (cell_of_row _ _ 0 _ _ _ hB0.out).trans rfl
  have hgl2 : g < w2.heap.size := (Array.getElem?_eq_some_iff.1 hG2.out).1
  have hsq := numbers1 k0 k1 1 t (by omega) (w1.heap.size + 1) w1.heap.size g c w2.heap.size w2 hF' hB' hG2.out hfl (by omega) hgl2 (Nat.le_refl _)
  have HSQ := Lib.hid hsq
  clear hF' hB' hsq hF0 hB0
  refine wpIn_rangeN (n := 5) (F := Fence.wide) rfl (by decide) (gf := 26) (lb := #[.pointer (some ⟨w1.heap.size + 1, 0, none⟩), .pointer (some ⟨w1.heap.size, 0, none⟩)]) rfl trivial (enters_of Try.func26 (by kernel_rfl) rfl)
    HSQ.out belowK_t (belowK_b (Nat.le_refl _)) (Below.refl _ _) (fun _ => rfl)
    (fun k W => 1 + k ≤ t ∧ Below w2.heap.size w2 W)
    (fun _ W => W.heap[w.heap.size + 1 + 1]? = some (.cells #[.bool true] 4 (0, 0)) ∧ Chg [w.heap.size + 1 + 1] w2 W)
    (OwnFrom.and (fun _ _ _ _ h _ _ => h) (ownFrom_below (Nat.le_refl _) (Nat.le_refl _)))
    (fun k A B row h hg hr => ⟨(own_blk (B := w2.heap.size) (by omega) hg hr (by have := h.2.size; omega)).trans h.1, ⟨hg.os.trans h.2.os, hg.tape.trans h.2.tape, hg.output.trans h.2.output, Nat.le_trans h.2.size hg.size, fun i hi hn => (own_blk hi hg hr (Nat.lt_of_lt_of_le hi h.2.size)).trans (h.2.block i hi hn)⟩⟩)
    (fun k W h => by have := h.1; omega)
    ⟨by omega, Below.refl _ _⟩
    (fun k => { tmps := #[.pointer (some ⟨g, 0, none⟩), vw x, .pointer (some ⟨w.heap.size, 0, none⟩), .pointer (some ⟨w.heap.size + 1, 0, none⟩), .pointer (some ⟨w.heap.size + 1 + 1, 0, none⟩), .int .i64 ((1 + k : Nat) : Int), vw (num k0 k1 (1 + k)), .pointer (some ⟨g, 0, none⟩), .func (.func 26) #[] #[.pointer (some ⟨w1.heap.size + 1, 0, none⟩), .pointer (some ⟨w1.heap.size, 0, none⟩)], .int .i64 ((1 + k : Nat) : Int), vw (num k0 k1 (1 + k)), undef, undef, undef, undef, undef, undef, undef, undef, undef], defers := [] }) ?assign ?body ?stop
  case assign =>
    intro l k W K hK
    gi_wp2
    exact hK
  case body =>
    rintro l k W ⟨hk, hB⟩
    obtain ⟨s, hs⟩ : ∃ s, Hid (s = 1 + k) := ⟨_, Lib.hid rfl⟩
    have b0 : W.cell? ⟨w.heap.size, 0, none⟩ = some (.pointer (some ⟨g, 0, none⟩)) := (cell_of_row _ _ 0 _ _ _ ((hB.block _ (by omega)).trans hBx2.out)).trans rfl
    have b1 : W.cell? ⟨w.heap.size + 1, 0, none⟩ = some (vw x) := (cell_of_row _ _ 0 _ _ _ ((hB.block _ (by omega)).trans hUx2.out)).trans rfl
    have g2 : W.cell? ⟨g, 2, none⟩ = some (.int .i64 (c : Int)) := (cell_of_row _ _ 2 _ _ _ ((hB.block _ hgl2).trans hG2.out)).trans rfl
    have hRW := Lib.hid ((hB.block _ (by omega)).trans hRx2.out)
    have r0 : W.cell? ⟨w.heap.size + 1 + 1, 0, none⟩ = some (.bool false) := (cell_of_row _ _ 0 _ _ _ hRW.out).trans rfl
    have fr : W.frozen? ⟨w.heap.size + 1 + 1, 0, none⟩ = false := frozen_of_row _ _ _ _ _ hRW.out
    have hsb : 1 ≤ s := by have := hs.out; omega
    have HBW := Lib.hid hB
    rw [← hs.out] at hk ⊢
    clear hB
    have dg : decide (c < s) = false := by simp; omega
    obtain ⟨y, HY⟩ : ∃ y, Hid (y = num k0 k1 s) := ⟨_, Lib.hid rfl⟩
    rw [← HY.out]
    by_cases hst : s < t
    · have hne : y ≠ x := by rw [HY.out]; exact HNE.out s hsb hst
      have d0 : (((y.toNat : Int) == (x.toNat : Int)) : Bool) = false := by rw [vw_beq]; simpa using hne
      clear hne
      gi_wp2
      exact ⟨KeepsOthers.refl _, Below.refl _ _, by have := hs.out; omega, HBW.out⟩
    · obtain rfl : s = t := by omega
      have d0 : (((y.toNat : Int) == (x.toNat : Int)) : Bool) = true := by rw [vw_beq, HY.out, HX.out]; simp
      gi_wp2
      refine ⟨KeepsOthers.setCell _ _ _, ?_, ?_⟩
      · exact heap_setCell_same _ _ _ _ _ _ hRW.out
      · exact (Chg.of_below HBW.out [w.heap.size + 1 + 1]).setCell (p := ⟨w.heap.size + 1 + 1, 0, none⟩) (.inl (by simp)) _
  case stop =>
    rintro D k W hD ⟨hR3, hC3⟩ hK
    have HC3 := Lib.hid hC3
    have HK3 := Lib.hid hK
    have r0 : W.cell? ⟨w.heap.size + 1 + 1, 0, none⟩ = some (.bool true) := (cell_of_row _ _ 0 _ _ _ hR3).trans rfl
    have hc5 := cell_kept r0 (grownBy_putObj' _ D (.deferred none)) (fun r e => by cases e; exact ⟨_, hK, rfl⟩)
    clear hC3 hR3 r0 hK
    gi_wp2
    refine ⟨by simp, .inl ⟨_, _, rfl, run_takeDeferred HK3.out, ?_⟩⟩
    refine ⟨.bool true, ?_, rfl, ?_⟩
    · simp [results, Try.f12, go_sem, hc5]
    · refine ⟨HC3.out.os.trans hB2.out.os, HC3.out.tape.trans hB2.out.tape, HC3.out.output.trans hB2.out.output, by rw [World.putObj_size]; exact Nat.le_trans hB2.out.size HC3.out.size, fun i hi => ?_⟩
      refine (World.putObj_heap_other (by omega)).trans ((HC3.out.block i (by omega) (by simp; omega)).trans (hB2.out.block i hi))

set_option maxRecDepth 100000 in
theorem new_calls (k0 k1 : BitVec 64) (w : World) :
    Calls Try.prog 8 #[.agg #[vw k0, vw k1]] w fun e w' => ∃ g, e = .returned (.pointer (some ⟨g, 0, none⟩)) ∧ IsB w' g k0 k1 0 ∧ w.heap.size ≤ g ∧ Below w.heap.size w w' := by
  go_enter Try.func8, Try.ntmps8
  go_wp2_with fail
  go_ret
  exact ⟨_, rfl, heap_alloc2_new _ _ _, by omega, below2 _ _ _⟩
set_option maxRecDepth 100000 in
theorem issued_calls (k0 k1 : BitVec 64) (g c : Nat) (w : World) (hg : IsB w g k0 k1 c) :
    Calls Try.prog 11 #[.pointer (some ⟨g, 0, none⟩)] w fun e w' => e = .returned (.int .i64 (c : Int)) ∧ w = w' := by
  have g2 : w.cell? ⟨g, 2, none⟩ = some (.int .i64 (c : Int)) := (cell_of_row _ _ 2 _ _ _ hg).trans rfl
  clear hg
  go_enter Try.func11, Try.ntmps11
  go_wp2_with fail
  go_ret
  exact ⟨rfl, rfl⟩
end Cp
end Go.Proofs.Ytnmgapokamkhpaa
