/- The walks of refmeshref46's Before, Index. -/
import Derived.Test.YtddoepaplbnlcaaMbV
namespace Go.Proofs.Ytddoepaplbnlcaa
open Go.RowKit Go.Shelf
namespace Mb

theorem lt_cmp (x y : Msg) : Lt x y ↔ cmpID x.a1 x.a2 y.a1 y.a2 < 0 ∨ cmpID x.a1 x.a2 y.a1 y.a2 = 0 ∧ cmpID x.i1 x.i2 y.i1 y.i2 < 0 := by
  unfold Lt
  rcases cmpID_cases x.a1 x.a2 y.a1 y.a2 with ⟨h, e⟩ | ⟨h, e⟩ | ⟨h, e⟩ <;> rcases cmpID_cases x.i1 x.i2 y.i1 y.i2 with ⟨h', e'⟩ | ⟨h', e'⟩ | ⟨h', e'⟩ <;> rw [e, e'] <;> omega
set_option maxRecDepth 100000 in
set_option maxHeartbeats 2000000 in
theorem rbefore_calls (x y : Mm) (w : World) : Calls Try.prog 15 #[mval x, mval y] w (BoolB (decide (Lt x.m y.m)) w) := by
  have hb2 := below2 w (.cells x.cells.toArray 36) (.cells y.cells.toArray 36)
  have k0 : (((w.alloc (.cells x.cells.toArray 36)).alloc (.cells y.cells.toArray 36))).heap[w.heap.size]? = _ := (Below.heap_alloc _ _ _ (by simp)).trans (heap_alloc_new _ _)
  have k1 : (((w.alloc (.cells x.cells.toArray 36)).alloc (.cells y.cells.toArray 36))).heap[w.heap.size + 1]? = _ := heap_alloc2_new _ _ _
  have HL := Lib.hid (lt_cmp x.m y.m)
  have HC := Lib.hid (rcompare_calls x.m.a1 x.m.a2 y.m.a1 y.m.a2)
  have HD := Lib.hid (rcompare_calls x.m.i1 x.m.i2 y.m.i1 y.m.i2)
  unfold mval Mm.cells at *
  by_cases h1 : cmpID x.m.a1 x.m.a2 y.m.a1 y.m.a2 < 0
  · have HE : Hid (decide (Lt x.m y.m) = true) := Lib.hid (decide_eq_true (HL.out.2 (.inl h1)))
    go_enter Try.func15, Try.ntmps15
    go_upto_region 1 with (fail)
    generalize ((w.alloc _).alloc _) = w2 at *
    have z0 := (Array.getElem?_eq_some_iff.1 k0).1
    have z1 := (Array.getElem?_eq_some_iff.1 k1).1
    have m00 : ∀ w', Below w2.heap.size w2 w' → w'.cell? ⟨w.heap.size, 0, none⟩ = some (.int .i64 x.m.a1) := fun w' h => (cell_of_row _ _ 0 _ _ _ ((h.block _ z0).trans k0)).trans rfl
    have m01 : ∀ w', Below w2.heap.size w2 w' → w'.cell? ⟨w.heap.size, 1, none⟩ = some (.int .i64 x.m.a2) := fun w' h => (cell_of_row _ _ 1 _ _ _ ((h.block _ z0).trans k0)).trans rfl
    have m10 : ∀ w', Below w2.heap.size w2 w' → w'.cell? ⟨w.heap.size + 1, 0, none⟩ = some (.int .i64 y.m.a1) := fun w' h => (cell_of_row _ _ 0 _ _ _ ((h.block _ z1).trans k1)).trans rfl
    have m11 : ∀ w', Below w2.heap.size w2 w' → w'.cell? ⟨w.heap.size + 1, 1, none⟩ = some (.int .i64 y.m.a2) := fun w' h => (cell_of_row _ _ 1 _ _ _ ((h.block _ z1).trans k1)).trans rfl
    have r := Below.refl w2.heap.size w2
    have HB2 := Lib.hid hb2
    clear hb2 k0 k1 z0 z1
    go_wp2_with ((with_reducible refine (HC.out _).mono ?_); rintro e w3 ⟨rfl, hb⟩)
    go_ret
    exact ⟨by rw [HE.out]; rfl, HB2.out.trans (hb.mono HB2.out.size)⟩
  · by_cases h2 : cmpID x.m.a1 x.m.a2 y.m.a1 y.m.a2 = 0
    · have q1 : decide (cmpID x.m.a1 x.m.a2 y.m.a1 y.m.a2 < 0) = false := decide_eq_false h1
      rw [h2] at HC
      obtain ⟨b, HBB⟩ : ∃ b, Hid (decide (cmpID x.m.i1 x.m.i2 y.m.i1 y.m.i2 < 0) = b) := ⟨decide (cmpID x.m.i1 x.m.i2 y.m.i1 y.m.i2 < 0), rfl⟩
      have hbb := HBB.out
      have HE : Hid (decide (Lt x.m y.m) = b) := Lib.hid (by
        rw [← hbb]
        apply decide_eq_decide.2
        rw [HL.out, h2]
        omega)
      clear h1 h2 q1
      go_enter Try.func15, Try.ntmps15
      go_upto_region 1 with (fail)
      generalize ((w.alloc _).alloc _) = w2 at *
      have z0 := (Array.getElem?_eq_some_iff.1 k0).1
      have z1 := (Array.getElem?_eq_some_iff.1 k1).1
      have m00 : ∀ w', Below w2.heap.size w2 w' → w'.cell? ⟨w.heap.size, 0, none⟩ = some (.int .i64 x.m.a1) := fun w' h => (cell_of_row _ _ 0 _ _ _ ((h.block _ z0).trans k0)).trans rfl
      have m01 : ∀ w', Below w2.heap.size w2 w' → w'.cell? ⟨w.heap.size, 1, none⟩ = some (.int .i64 x.m.a2) := fun w' h => (cell_of_row _ _ 1 _ _ _ ((h.block _ z0).trans k0)).trans rfl
      have m10 : ∀ w', Below w2.heap.size w2 w' → w'.cell? ⟨w.heap.size + 1, 0, none⟩ = some (.int .i64 y.m.a1) := fun w' h => (cell_of_row _ _ 0 _ _ _ ((h.block _ z1).trans k1)).trans rfl
      have m11 : ∀ w', Below w2.heap.size w2 w' → w'.cell? ⟨w.heap.size + 1, 1, none⟩ = some (.int .i64 y.m.a2) := fun w' h => (cell_of_row _ _ 1 _ _ _ ((h.block _ z1).trans k1)).trans rfl
      have m02 : ∀ w', Below w2.heap.size w2 w' → w'.cell? ⟨w.heap.size, 2, none⟩ = some (.int .i64 x.m.i1) := fun w' h => (cell_of_row _ _ 2 _ _ _ ((h.block _ z0).trans k0)).trans rfl
      have m03 : ∀ w', Below w2.heap.size w2 w' → w'.cell? ⟨w.heap.size, 3, none⟩ = some (.int .i64 x.m.i2) := fun w' h => (cell_of_row _ _ 3 _ _ _ ((h.block _ z0).trans k0)).trans rfl
      have m12 : ∀ w', Below w2.heap.size w2 w' → w'.cell? ⟨w.heap.size + 1, 2, none⟩ = some (.int .i64 y.m.i1) := fun w' h => (cell_of_row _ _ 2 _ _ _ ((h.block _ z1).trans k1)).trans rfl
      have m13 : ∀ w', Below w2.heap.size w2 w' → w'.cell? ⟨w.heap.size + 1, 3, none⟩ = some (.int .i64 y.m.i2) := fun w' h => (cell_of_row _ _ 3 _ _ _ ((h.block _ z1).trans k1)).trans rfl
      have r := Below.refl w2.heap.size w2
      have HB2 := Lib.hid hb2
      clear hb2 k0 k1 z0 z1
      go_wp2_with (first | ((with_reducible refine (HC.out _).mono ?_); rintro e w3 ⟨rfl, hb3⟩) | ((with_reducible refine (HD.out _).mono ?_); rintro e w4 ⟨rfl, hb4⟩; have hb5 := hb3.trans (hb4.mono hb3.size)))
      all_goals go_ret
      all_goals exact ⟨by rw [HE.out]; first | rfl | simp [*], HB2.out.trans (hb5.mono HB2.out.size)⟩
    · have q1 : decide (cmpID x.m.a1 x.m.a2 y.m.a1 y.m.a2 < 0) = false := decide_eq_false h1
      have q2 : (cmpID x.m.a1 x.m.a2 y.m.a1 y.m.a2 == 0) = false := by rw [beq_eq_false_iff_ne]; exact h2
      have HE : Hid (decide (Lt x.m y.m) = false) := Lib.hid (decide_eq_false (fun h => by rcases HL.out.1 h with h | h; exact h1 h; exact h2 h.1))
      go_enter Try.func15, Try.ntmps15
      go_upto_region 1 with (fail)
      generalize ((w.alloc _).alloc _) = w2 at *
      have z0 := (Array.getElem?_eq_some_iff.1 k0).1
      have z1 := (Array.getElem?_eq_some_iff.1 k1).1
      have m00 : ∀ w', Below w2.heap.size w2 w' → w'.cell? ⟨w.heap.size, 0, none⟩ = some (.int .i64 x.m.a1) := fun w' h => (cell_of_row _ _ 0 _ _ _ ((h.block _ z0).trans k0)).trans rfl
      have m01 : ∀ w', Below w2.heap.size w2 w' → w'.cell? ⟨w.heap.size, 1, none⟩ = some (.int .i64 x.m.a2) := fun w' h => (cell_of_row _ _ 1 _ _ _ ((h.block _ z0).trans k0)).trans rfl
      have m10 : ∀ w', Below w2.heap.size w2 w' → w'.cell? ⟨w.heap.size + 1, 0, none⟩ = some (.int .i64 y.m.a1) := fun w' h => (cell_of_row _ _ 0 _ _ _ ((h.block _ z1).trans k1)).trans rfl
      have m11 : ∀ w', Below w2.heap.size w2 w' → w'.cell? ⟨w.heap.size + 1, 1, none⟩ = some (.int .i64 y.m.a2) := fun w' h => (cell_of_row _ _ 1 _ _ _ ((h.block _ z1).trans k1)).trans rfl
      have r := Below.refl w2.heap.size w2
      have HB2 := Lib.hid hb2
      clear hb2 k0 k1 z0 z1
      go_wp2_with ((with_reducible refine (HC.out _).mono ?_); rintro e w3 ⟨rfl, hb⟩)
      go_ret
      exact ⟨by rw [HE.out]; rfl, HB2.out.trans (hb.mono HB2.out.size)⟩
end Mb
end Go.Proofs.Ytddoepaplbnlcaa
