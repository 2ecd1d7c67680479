/- The walk of refmeshref46's Valid. -/
import Derived.Test.YtddoepaplbnlcaaMbX
namespace Go.Proofs.Ytddoepaplbnlcaa
open Go.RowKit Go.Shelf
namespace Mb

theorem valid_good (m : Msg) : valid m = (validID m.a1 m.a2 && validID m.i1 m.i2 && decide (1 ≤ m.me.size ∧ m.me.size ≤ 31) && decide (m.ar.length ≤ 9) && m.ar.all good) := rfl
set_option maxRecDepth 100000 in
set_option maxHeartbeats 4000000 in
theorem rvalidM_calls (x : Mm) (w : World) (N : List Nat) (hx : x.ok w N) : Calls Try.prog 22 #[mval x] w (ValB x.m w) := by
  have hs := hx.s
  have hc1 := hx.c1
  have hc2 := hx.c2
  unfold maxLen at hc2
  have HQ := Lib.hid (valid_good x.m)
  have HR := Lib.hid hx.rd
  have HI1 := Lib.hid (rvalid_calls x.m.a1 x.m.a2)
  have HI2 := Lib.hid (rvalid_calls x.m.i1 x.m.i2)
  obtain ⟨⟨a1, a2, i1, i2, me, ar⟩, xa, xc⟩ := x
  unfold mval Mm.cells
  simp only at *
  have hl0 : ar.length ≤ 9223372036854775807 := by omega
  clear hx hc1 hc2
  cases h1 : validID a1 a2 with
  | false =>
    rw [h1] at HI1 HQ
    simp only [Bool.false_and] at HQ
    clear h1 HI2
    go_enter Try.func22, Try.ntmps22; go_upto_region 1 with (fail); have hb1 := below1 w (.cells #[.int .i64 a1, .int .i64 a2, .int .i64 i1, .int .i64 i2, .string me, .slice xa ar.length xc] 36); have k := heap_alloc_new w (.cells #[.int .i64 a1, .int .i64 a2, .int .i64 i1, .int .i64 i2, .string me, .slice xa ar.length xc] 36); generalize w.alloc _ = w1 at *; have z := (Array.getElem?_eq_some_iff.1 k).1; have m0 : ∀ w', Below w1.heap.size w1 w' → w'.cell? ⟨w.heap.size, 0, none⟩ = some (.int .i64 a1) := fun w' h => (cell_of_row _ _ 0 _ _ _ ((h.block _ z).trans k)).trans rfl; have m1 : ∀ w', Below w1.heap.size w1 w' → w'.cell? ⟨w.heap.size, 1, none⟩ = some (.int .i64 a2) := fun w' h => (cell_of_row _ _ 1 _ _ _ ((h.block _ z).trans k)).trans rfl; have m2 : ∀ w', Below w1.heap.size w1 w' → w'.cell? ⟨w.heap.size, 2, none⟩ = some (.int .i64 i1) := fun w' h => (cell_of_row _ _ 2 _ _ _ ((h.block _ z).trans k)).trans rfl; have m3 : ∀ w', Below w1.heap.size w1 w' → w'.cell? ⟨w.heap.size, 3, none⟩ = some (.int .i64 i2) := fun w' h => (cell_of_row _ _ 3 _ _ _ ((h.block _ z).trans k)).trans rfl; have m4 : ∀ w', Below w1.heap.size w1 w' → w'.cell? ⟨w.heap.size, 4, none⟩ = some (.string me) := fun w' h => (cell_of_row _ _ 4 _ _ _ ((h.block _ z).trans k)).trans rfl; have m5 : ∀ w', Below w1.heap.size w1 w' → w'.cell? ⟨w.heap.size, 5, none⟩ = some (.slice xa ar.length xc) := fun w' h => (cell_of_row _ _ 5 _ _ _ ((h.block _ z).trans k)).trans rfl; have r := Below.refl w1.heap.size w1; have HB1 := Lib.hid hb1; have HKK := Lib.hid k; clear hb1 k
    go_wp2_with ((with_reducible refine (HI1.out _).mono ?_); rintro e w2 ⟨rfl, hb⟩; have r2 := r.trans (hb.mono r.size); clear hb)
    go_ret
    exact ⟨by rw [HQ.out]; rfl, HB1.out.trans (r2.mono HB1.out.size)⟩
  | true =>
    cases h2 : validID i1 i2 with
    | false =>
      rw [h1] at HI1
      rw [h2] at HI2
      rw [h1, h2] at HQ
      simp only [Bool.and_false, Bool.false_and] at HQ
      clear h1 h2
      go_enter Try.func22, Try.ntmps22; go_upto_region 1 with (fail); have hb1 := below1 w (.cells #[.int .i64 a1, .int .i64 a2, .int .i64 i1, .int .i64 i2, .string me, .slice xa ar.length xc] 36); have k := heap_alloc_new w (.cells #[.int .i64 a1, .int .i64 a2, .int .i64 i1, .int .i64 i2, .string me, .slice xa ar.length xc] 36); generalize w.alloc _ = w1 at *; have z := (Array.getElem?_eq_some_iff.1 k).1; have m0 : ∀ w', Below w1.heap.size w1 w' → w'.cell? ⟨w.heap.size, 0, none⟩ = some (.int .i64 a1) := fun w' h => (cell_of_row _ _ 0 _ _ _ ((h.block _ z).trans k)).trans rfl; have m1 : ∀ w', Below w1.heap.size w1 w' → w'.cell? ⟨w.heap.size, 1, none⟩ = some (.int .i64 a2) := fun w' h => (cell_of_row _ _ 1 _ _ _ ((h.block _ z).trans k)).trans rfl; have m2 : ∀ w', Below w1.heap.size w1 w' → w'.cell? ⟨w.heap.size, 2, none⟩ = some (.int .i64 i1) := fun w' h => (cell_of_row _ _ 2 _ _ _ ((h.block _ z).trans k)).trans rfl; have m3 : ∀ w', Below w1.heap.size w1 w' → w'.cell? ⟨w.heap.size, 3, none⟩ = some (.int .i64 i2) := fun w' h => (cell_of_row _ _ 3 _ _ _ ((h.block _ z).trans k)).trans rfl; have m4 : ∀ w', Below w1.heap.size w1 w' → w'.cell? ⟨w.heap.size, 4, none⟩ = some (.string me) := fun w' h => (cell_of_row _ _ 4 _ _ _ ((h.block _ z).trans k)).trans rfl; have m5 : ∀ w', Below w1.heap.size w1 w' → w'.cell? ⟨w.heap.size, 5, none⟩ = some (.slice xa ar.length xc) := fun w' h => (cell_of_row _ _ 5 _ _ _ ((h.block _ z).trans k)).trans rfl; have r := Below.refl w1.heap.size w1; have HB1 := Lib.hid hb1; have HKK := Lib.hid k; clear hb1 k
      go_wp2_with (first | ((with_reducible refine (HI1.out _).mono ?_); rintro e w2 ⟨rfl, hb⟩; have r2 := r.trans (hb.mono r.size); clear hb) | ((with_reducible refine (HI2.out _).mono ?_); rintro e w3 ⟨rfl, hb⟩; have r3 := r2.trans (hb.mono r2.size); clear hb))
      go_ret
      exact ⟨by rw [HQ.out]; rfl, HB1.out.trans (r3.mono HB1.out.size)⟩
    | true =>
      rw [h1] at HI1
      rw [h2] at HI2
      rw [h1, h2] at HQ
      simp only [Bool.and_true, Bool.true_and] at HQ
      clear h1 h2
      by_cases he : me.size = 0
      · have q0 : (me.size : Int) < 1 := by omega
        rw [decide_eq_false (by omega)] at HQ
        simp only [Bool.false_and] at HQ
        clear he
        go_enter Try.func22, Try.ntmps22; go_upto_region 1 with (fail); have hb1 := below1 w (.cells #[.int .i64 a1, .int .i64 a2, .int .i64 i1, .int .i64 i2, .string me, .slice xa ar.length xc] 36); have k := heap_alloc_new w (.cells #[.int .i64 a1, .int .i64 a2, .int .i64 i1, .int .i64 i2, .string me, .slice xa ar.length xc] 36); generalize w.alloc _ = w1 at *; have z := (Array.getElem?_eq_some_iff.1 k).1; have m0 : ∀ w', Below w1.heap.size w1 w' → w'.cell? ⟨w.heap.size, 0, none⟩ = some (.int .i64 a1) := fun w' h => (cell_of_row _ _ 0 _ _ _ ((h.block _ z).trans k)).trans rfl; have m1 : ∀ w', Below w1.heap.size w1 w' → w'.cell? ⟨w.heap.size, 1, none⟩ = some (.int .i64 a2) := fun w' h => (cell_of_row _ _ 1 _ _ _ ((h.block _ z).trans k)).trans rfl; have m2 : ∀ w', Below w1.heap.size w1 w' → w'.cell? ⟨w.heap.size, 2, none⟩ = some (.int .i64 i1) := fun w' h => (cell_of_row _ _ 2 _ _ _ ((h.block _ z).trans k)).trans rfl; have m3 : ∀ w', Below w1.heap.size w1 w' → w'.cell? ⟨w.heap.size, 3, none⟩ = some (.int .i64 i2) := fun w' h => (cell_of_row _ _ 3 _ _ _ ((h.block _ z).trans k)).trans rfl; have m4 : ∀ w', Below w1.heap.size w1 w' → w'.cell? ⟨w.heap.size, 4, none⟩ = some (.string me) := fun w' h => (cell_of_row _ _ 4 _ _ _ ((h.block _ z).trans k)).trans rfl; have m5 : ∀ w', Below w1.heap.size w1 w' → w'.cell? ⟨w.heap.size, 5, none⟩ = some (.slice xa ar.length xc) := fun w' h => (cell_of_row _ _ 5 _ _ _ ((h.block _ z).trans k)).trans rfl; have r := Below.refl w1.heap.size w1; have HB1 := Lib.hid hb1; have HKK := Lib.hid k; clear hb1 k
        go_wp2_with (first | ((with_reducible refine (HI1.out _).mono ?_); rintro e w2 ⟨rfl, hb⟩; have r2 := r.trans (hb.mono r.size); clear hb) | ((with_reducible refine (HI2.out _).mono ?_); rintro e w3 ⟨rfl, hb⟩; have r3 := r2.trans (hb.mono r2.size); clear hb))
        go_ret
        exact ⟨by rw [HQ.out]; rfl, HB1.out.trans (r3.mono HB1.out.size)⟩
      · have q0 : decide ((me.size : Int) < 1) = false := decide_eq_false (by omega)
        by_cases hq : me.size ≤ 31
        · have q1 : decide ((31 : Int) < (me.size : Int)) = false := decide_eq_false (by omega)
          by_cases ha : ar.length ≤ 9
          · have q2 : decide ((9 : Int) < (ar.length : Int)) = false := decide_eq_false (by omega)
            rw [decide_eq_true (p := 1 ≤ me.size ∧ me.size ≤ 31) (by omega), decide_eq_true ha] at HQ
            simp only [Bool.and_true, Bool.true_and] at HQ
            clear he hq ha
            go_enter Try.func22, Try.ntmps22; go_upto_region 1 with (fail); have hb1 := below1 w (.cells #[.int .i64 a1, .int .i64 a2, .int .i64 i1, .int .i64 i2, .string me, .slice xa ar.length xc] 36); have k := heap_alloc_new w (.cells #[.int .i64 a1, .int .i64 a2, .int .i64 i1, .int .i64 i2, .string me, .slice xa ar.length xc] 36); generalize w.alloc _ = w1 at *; have z := (Array.getElem?_eq_some_iff.1 k).1; have m0 : ∀ w', Below w1.heap.size w1 w' → w'.cell? ⟨w.heap.size, 0, none⟩ = some (.int .i64 a1) := fun w' h => (cell_of_row _ _ 0 _ _ _ ((h.block _ z).trans k)).trans rfl; have m1 : ∀ w', Below w1.heap.size w1 w' → w'.cell? ⟨w.heap.size, 1, none⟩ = some (.int .i64 a2) := fun w' h => (cell_of_row _ _ 1 _ _ _ ((h.block _ z).trans k)).trans rfl; have m2 : ∀ w', Below w1.heap.size w1 w' → w'.cell? ⟨w.heap.size, 2, none⟩ = some (.int .i64 i1) := fun w' h => (cell_of_row _ _ 2 _ _ _ ((h.block _ z).trans k)).trans rfl; have m3 : ∀ w', Below w1.heap.size w1 w' → w'.cell? ⟨w.heap.size, 3, none⟩ = some (.int .i64 i2) := fun w' h => (cell_of_row _ _ 3 _ _ _ ((h.block _ z).trans k)).trans rfl; have m4 : ∀ w', Below w1.heap.size w1 w' → w'.cell? ⟨w.heap.size, 4, none⟩ = some (.string me) := fun w' h => (cell_of_row _ _ 4 _ _ _ ((h.block _ z).trans k)).trans rfl; have m5 : ∀ w', Below w1.heap.size w1 w' → w'.cell? ⟨w.heap.size, 5, none⟩ = some (.slice xa ar.length xc) := fun w' h => (cell_of_row _ _ 5 _ _ _ ((h.block _ z).trans k)).trans rfl; have r := Below.refl w1.heap.size w1; have HB1 := Lib.hid hb1; have HKK := Lib.hid k; clear hb1 k
            go_wp2_with (first | ((with_reducible refine (HI1.out _).mono ?_); rintro e w2 ⟨rfl, hb⟩; have r2 := r.trans (hb.mono r.size); clear hb) | ((with_reducible refine (HI2.out _).mono ?_); rintro e w3 ⟨rfl, hb⟩; have r3 := r2.trans (hb.mono r2.size); clear hb))
            have HB3 := Lib.hid (HB1.out.trans (r3.mono HB1.out.size))
            have HR3 := Lib.hid (HR.out.below HB3.out)
            have c5 := m5 w3 r3
            clear m0 m1 m2 m3 m4 m5 r r2 z
            obtain ⟨n, HN⟩ : ∃ n, Hid (ar.length = n) := ⟨_, rfl⟩
            rw [HN.out] at c5 hl0 q2 ⊢
            go_loop [3] (fun i => ∃ k : Nat, k ≤ n ∧ i = .int .i64 k ∧ (∀ x ∈ ar.take k, good x = true)) (fun i => n - (intOf i).toNat)
            case atStart => exact ⟨0, by omega, rfl, by simp⟩
            case round =>
              obtain ⟨k, hk, rfl, hall⟩ := hrel
              have HA := Lib.hid hall
              clear hall
              have j0 : (0 : Int) ≤ (k : Int) := by omega
              by_cases hlt : k < n
              · have j1 : (k : Int) < (n : Int) := by omega
                have hkl : k < ar.length := by rw [HN.out]; exact hlt
                obtain ⟨b, off, e, hc⟩ := HR3.out k _ (by rw [List.getElem?_map, List.getElem?_eq_getElem hkl]; rfl)
                subst e
                have HT := Lib.hid (take_more (P := fun x => good x = true) hkl HA.out)
                have HM : Hid (ar[k] ∈ ar) := Lib.hid (List.getElem_mem hkl)
                generalize ar[k] = h at *
                by_cases p1 : h < 1
                · have HF : Hid (ar.all good = false) := Lib.hid (by
                    rw [List.all_eq_false]
                    exact ⟨h, HM.out, by unfold good; simp; omega⟩)
                  clear HT
                  go_wp2_with fail
                  go_ret
                  exact ⟨by rw [HQ.out, HF.out]; rfl, HB3.out⟩
                · have p1d : decide (h < 1) = false := decide_eq_false p1
                  by_cases p2 : 4294967296 < h
                  · have HF : Hid (ar.all good = false) := Lib.hid (by
                      rw [List.all_eq_false]
                      exact ⟨h, HM.out, by unfold good; simp; omega⟩)
                    clear HT
                    go_wp2_with fail
                    go_ret
                    exact ⟨by rw [HQ.out, HF.out]; rfl, HB3.out⟩
                  · have p2d : decide (4294967296 < h) = false := decide_eq_false p2
                    have HT2 := Lib.hid (HT.out (by unfold good; exact decide_eq_true (by omega)))
                    clear HT
                    go_wp2_with fail
                    go_round
                    case rel => exact ⟨k + 1, by omega, by go_num, HT2.out⟩
                    case measure => simp [intOf]; omega
              · obtain rfl : k = n := by omega
                have HF : Hid (ar.all good = true) := Lib.hid (by
                  rw [List.all_eq_true]
                  rw [List.take_of_length_le (Nat.le_of_eq HN.out)] at HA
                  exact HA.out)
                go_wp2_with fail
                go_ret
                exact ⟨by rw [HQ.out, HF.out]; rfl, HB3.out⟩
          · have q2 : (9 : Int) < (ar.length : Int) := by omega
            rw [decide_eq_false ha] at HQ
            simp only [Bool.and_false, Bool.false_and] at HQ
            clear he hq ha
            go_enter Try.func22, Try.ntmps22; go_upto_region 1 with (fail); have hb1 := below1 w (.cells #[.int .i64 a1, .int .i64 a2, .int .i64 i1, .int .i64 i2, .string me, .slice xa ar.length xc] 36); have k := heap_alloc_new w (.cells #[.int .i64 a1, .int .i64 a2, .int .i64 i1, .int .i64 i2, .string me, .slice xa ar.length xc] 36); generalize w.alloc _ = w1 at *; have z := (Array.getElem?_eq_some_iff.1 k).1; have m0 : ∀ w', Below w1.heap.size w1 w' → w'.cell? ⟨w.heap.size, 0, none⟩ = some (.int .i64 a1) := fun w' h => (cell_of_row _ _ 0 _ _ _ ((h.block _ z).trans k)).trans rfl; have m1 : ∀ w', Below w1.heap.size w1 w' → w'.cell? ⟨w.heap.size, 1, none⟩ = some (.int .i64 a2) := fun w' h => (cell_of_row _ _ 1 _ _ _ ((h.block _ z).trans k)).trans rfl; have m2 : ∀ w', Below w1.heap.size w1 w' → w'.cell? ⟨w.heap.size, 2, none⟩ = some (.int .i64 i1) := fun w' h => (cell_of_row _ _ 2 _ _ _ ((h.block _ z).trans k)).trans rfl; have m3 : ∀ w', Below w1.heap.size w1 w' → w'.cell? ⟨w.heap.size, 3, none⟩ = some (.int .i64 i2) := fun w' h => (cell_of_row _ _ 3 _ _ _ ((h.block _ z).trans k)).trans rfl; have m4 : ∀ w', Below w1.heap.size w1 w' → w'.cell? ⟨w.heap.size, 4, none⟩ = some (.string me) := fun w' h => (cell_of_row _ _ 4 _ _ _ ((h.block _ z).trans k)).trans rfl; have m5 : ∀ w', Below w1.heap.size w1 w' → w'.cell? ⟨w.heap.size, 5, none⟩ = some (.slice xa ar.length xc) := fun w' h => (cell_of_row _ _ 5 _ _ _ ((h.block _ z).trans k)).trans rfl; have r := Below.refl w1.heap.size w1; have HB1 := Lib.hid hb1; have HKK := Lib.hid k; clear hb1 k
            go_wp2_with (first | ((with_reducible refine (HI1.out _).mono ?_); rintro e w2 ⟨rfl, hb⟩; have r2 := r.trans (hb.mono r.size); clear hb) | ((with_reducible refine (HI2.out _).mono ?_); rintro e w3 ⟨rfl, hb⟩; have r3 := r2.trans (hb.mono r2.size); clear hb))
            go_ret
            exact ⟨by rw [HQ.out]; rfl, HB1.out.trans (r3.mono HB1.out.size)⟩
        · have q1 : (31 : Int) < (me.size : Int) := by omega
          rw [decide_eq_false (by omega)] at HQ
          simp only [Bool.false_and] at HQ
          clear he hq
          go_enter Try.func22, Try.ntmps22; go_upto_region 1 with (fail); have hb1 := below1 w (.cells #[.int .i64 a1, .int .i64 a2, .int .i64 i1, .int .i64 i2, .string me, .slice xa ar.length xc] 36); have k := heap_alloc_new w (.cells #[.int .i64 a1, .int .i64 a2, .int .i64 i1, .int .i64 i2, .string me, .slice xa ar.length xc] 36); generalize w.alloc _ = w1 at *; have z := (Array.getElem?_eq_some_iff.1 k).1; have m0 : ∀ w', Below w1.heap.size w1 w' → w'.cell? ⟨w.heap.size, 0, none⟩ = some (.int .i64 a1) := fun w' h => (cell_of_row _ _ 0 _ _ _ ((h.block _ z).trans k)).trans rfl; have m1 : ∀ w', Below w1.heap.size w1 w' → w'.cell? ⟨w.heap.size, 1, none⟩ = some (.int .i64 a2) := fun w' h => (cell_of_row _ _ 1 _ _ _ ((h.block _ z).trans k)).trans rfl; have m2 : ∀ w', Below w1.heap.size w1 w' → w'.cell? ⟨w.heap.size, 2, none⟩ = some (.int .i64 i1) := fun w' h => (cell_of_row _ _ 2 _ _ _ ((h.block _ z).trans k)).trans rfl; have m3 : ∀ w', Below w1.heap.size w1 w' → w'.cell? ⟨w.heap.size, 3, none⟩ = some (.int .i64 i2) := fun w' h => (cell_of_row _ _ 3 _ _ _ ((h.block _ z).trans k)).trans rfl; have m4 : ∀ w', Below w1.heap.size w1 w' → w'.cell? ⟨w.heap.size, 4, none⟩ = some (.string me) := fun w' h => (cell_of_row _ _ 4 _ _ _ ((h.block _ z).trans k)).trans rfl; have m5 : ∀ w', Below w1.heap.size w1 w' → w'.cell? ⟨w.heap.size, 5, none⟩ = some (.slice xa ar.length xc) := fun w' h => (cell_of_row _ _ 5 _ _ _ ((h.block _ z).trans k)).trans rfl; have r := Below.refl w1.heap.size w1; have HB1 := Lib.hid hb1; have HKK := Lib.hid k; clear hb1 k
          go_wp2_with (first | ((with_reducible refine (HI1.out _).mono ?_); rintro e w2 ⟨rfl, hb⟩; have r2 := r.trans (hb.mono r.size); clear hb) | ((with_reducible refine (HI2.out _).mono ?_); rintro e w3 ⟨rfl, hb⟩; have r3 := r2.trans (hb.mono r2.size); clear hb))
          go_ret
          exact ⟨by rw [HQ.out]; rfl, HB1.out.trans (r3.mono HB1.out.size)⟩
end Mb
end Go.Proofs.Ytddoepaplbnlcaa
