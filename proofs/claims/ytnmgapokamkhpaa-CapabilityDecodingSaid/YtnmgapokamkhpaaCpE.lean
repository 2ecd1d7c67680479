/- The walk of awake. -/
import Derived.Test.YtnmgapokamkhpaaCpD
import Derived.Deep.RegionHeld3
import Derived.Deep.DrawnRows
namespace Go.Proofs.Ytnmgapokamkhpaa
open Go.RowKit
namespace Cp
open Sip
attribute [local go_sem ↓] Go.wp_at_zero Go.wp_at_succ

theorem num_a : num 1#64 2#64 1 ≠ 0#64 ∧ num 1#64 2#64 2 ≠ 0#64 ∧ num 1#64 2#64 1 ≠ num 1#64 2#64 2 := by decide +kernel

theorem IsB.chg {w w' : World} {g g' n : Nat} {k0 k1 : BitVec 64} (h : IsB w g k0 k1 n) (hc : Chg [g'] w w') (hne : g ≠ g') : IsB w' g k0 k1 n := hc.blk h (by simpa using hne)
theorem IsB.below {w w' : World} {g n : Nat} {k0 k1 : BitVec 64} (h : IsB w g k0 k1 n) (hb : Below w.heap.size w w') : IsB w' g k0 k1 n := (hb.block _ (Array.getElem?_eq_some_iff.1 h).1).trans h

set_option maxRecDepth 100000 in
set_option maxHeartbeats 2000000 in
theorem awake_calls (w : World) : Calls Try.prog 6 #[] w fun e w' => e = .returned (.bool true) ∧ Below w.heap.size w w' := by
  obtain ⟨k0, K0⟩ : ∃ x, Hid (x = 1#64) := ⟨_, Lib.hid rfl⟩
  obtain ⟨k1, K1⟩ : ∃ x, Hid (x = 2#64) := ⟨_, Lib.hid rfl⟩
  obtain ⟨n1, n2, n3⟩ := num_a
  rw [← K0.out, ← K1.out] at n1 n2 n3
  obtain ⟨x, HX⟩ : ∃ x, Hid (x = num k0 k1 1) := ⟨_, Lib.hid rfl⟩
  obtain ⟨y, HY⟩ : ∃ x, Hid (x = num k0 k1 2) := ⟨_, Lib.hid rfl⟩
  rw [← HX.out] at n1 n3
  rw [← HY.out] at n2 n3
  have hb3 : ∀ s, 0 < s → s < 2 → num k0 k1 s = 0#64 ∨ num k0 k1 s ∈ [x] := by
    intro s h1 h2
    obtain rfl : s = 1 := by omega
    right
    rw [← HX.out]; simp
  have IS1 := fun g w' (h : IsB w' g k0 k1 0) => Lib.hid (issue_calls k0 k1 g 0 none 0 0 [] 1 w' h rfl (by omega) Rd.nil (by omega) (by omega) (fun s h1 h2 => by omega) ⟨by rw [← HX.out]; exact n1, by simp⟩)
  have IS2 := fun g w' (h : IsB w' g k0 k1 1) => Lib.hid (issue_calls k0 k1 g 1 none 0 0 [] 2 w' h rfl (by omega) Rd.nil (by omega) (by omega) (fun s h1 h2 => by omega) ⟨by rw [← HY.out]; exact n2, by simp⟩)
  have IS3 := fun g A w' (h : IsB w' g k0 k1 0) (hr : Rd w' A ([x].map vw)) => Lib.hid (issue_calls k0 k1 g 0 A 1 1 [x] 2 w' h rfl (by omega) hr (by omega) (by omega) hb3 ⟨by rw [← HY.out]; exact n2, by rw [← HY.out]; simpa using fun h => n3 h.symm⟩)
  have MI1 := fun g w' (h : IsB w' g k0 k1 2) => Lib.hid (mine_calls k0 k1 g 2 x 1 w' h (by omega) (by omega) (by omega) (fun s h1 h2 => by omega) HX.out.symm)
  have MI2 := fun g w' (h : IsB w' g k0 k1 2) => Lib.hid (mine_calls k0 k1 g 2 y 2 w' h (by omega) (by omega) (by omega) (fun s h1 h2 => by
    obtain rfl : s = 1 := by omega
    rw [← HX.out]; exact n3) HY.out.symm)
  simp only [← HX.out, ← HY.out] at IS1 IS2 IS3
  have d0 : (((x.toNat : Int) != 0) : Bool) = true := by rw [bne_iff_ne]; intro e; exact n1 (BitVec.eq_of_toNat_eq (by simpa using e))
  have d1 : (((x.toNat : Int) != (y.toNat : Int)) : Bool) = true := by rw [bne_iff_ne]; intro e; exact n3 (BitVec.eq_of_toNat_eq (by omega))
  have d2 : (((y.toNat : Int) == (y.toNat : Int)) : Bool) = true := by simp
  have NW := fun w => Lib.hid (new_calls k0 k1 w)
  clear n1 n2 n3 hb3
  go_enter Try.func6, Try.ntmps6
  go_wp2_with fail
  have hk0 : (w.alloc (.cells #[vw 1#64, vw 2#64] 24)).heap[w.heap.size]? = some (.cells #[vw 1#64, vw 2#64] 24 (0, 0)) := heap_alloc_new _ _
  have hb := Lib.hid (below1 w (.cells #[vw 1#64, vw 2#64] 24))
  show Code.wp _ _ _ _ (w.alloc (.cells #[vw 1#64, vw 2#64] 24))
  generalize w.alloc (.cells #[vw 1#64, vw 2#64] 24) = w2 at *
  rw [← K0.out, ← K1.out] at hk0
  have hk := Lib.hid hk0
  have hs : w.heap.size < w2.heap.size := (Array.getElem?_eq_some_iff.1 hk.out).1
  have m0 : ∀ w', Below w2.heap.size w2 w' → w'.cell? ⟨w.heap.size, 0, none⟩ = some (vw k0) := fun w' h => (cell_of_row _ _ 0 _ _ _ ((h.block _ hs).trans hk.out)).trans rfl
  have m1 : ∀ w', Below w2.heap.size w2 w' → w'.cell? ⟨w.heap.size, 1, none⟩ = some (vw k1) := fun w' h => (cell_of_row _ _ 1 _ _ _ ((h.block _ hs).trans hk.out)).trans rfl
  have NX : ∀ w', Below w2.heap.size w2 w' → Hid (Calls Try.prog 8 #[.agg #[vw k0, vw k1]] w' fun e w'' => ∃ g, e = .returned (.pointer (some ⟨g, 0, none⟩)) ∧ IsB w'' g k0 k1 0 ∧ w'.heap.size ≤ g ∧ Below w'.heap.size w' w'' ∧ Below w2.heap.size w2 w'') := fun w' h =>
    (NW w').out.mono fun e w'' ⟨g, h1, h2, h3, h4⟩ => ⟨g, h1, h2, h3, h4, h.trans (h4.mono h.size)⟩
  clear NW hk0
  have tok : True := trivial
  go_region_held3 (fun w' => Below w2.heap.size w2 w') (first | exact (Below.refl _ _).drew | assumption) (first | (go_at_call 8; have _t := tok; refine (NX _ (by assumption)).out.mono ?_; rintro e wX ⟨gX, rfl, hhX, hgX, hbX, hsX⟩; have HX3 := Lib.hid hhX; clear hhX tok _t) | (go_at_call 8; refine (NX _ (by assumption)).out.mono ?_; rintro e wY ⟨gY, rfl, hhY, hgY, hbY, hsY⟩; have HY3 := Lib.hid hhY; clear hhY))
  have BY := Lib.hid (hb.out.trans (hsY.mono hb.out.size))
  have HX4 := Lib.hid (HX3.out.below hbY)
  have hgx : gX < wX.heap.size := (Array.getElem?_eq_some_iff.1 HX3.out).1
  have hgxy : gX ≠ gY := by omega
  have hwx : w.heap.size ≤ gX := Nat.le_trans hb.out.size (Nat.le_trans (by simpa using hgX) (Nat.le_refl _))
  have hwy : w.heap.size ≤ gY := by have := hsX.size; omega
  clear m0 m1 NX hgX hgY hbX hbY hsX hsY HX3 hk hb
  go_wp2_with fail
  refine (IS1 gX wY HX4.out).out.mono ?_
  rintro e w3 ⟨rfl, hx3, hc3⟩
  have HX5 := Lib.hid hx3
  have HY5 := Lib.hid (HY3.out.chg hc3 hgxy.symm)
  have B5 := Lib.hid (BY.out.trans (hc3.below BY.out.size (by simpa using hwx)))
  clear hx3 hc3 HX4 HY3 BY
  go_wp2_with fail
  refine (IS2 gX w3 HX5.out).out.mono ?_
  rintro e w4 ⟨rfl, hx3, hc3⟩
  have HY6 := Lib.hid (HY5.out.chg hc3 hgxy.symm)
  have B6 := Lib.hid (B5.out.trans (hc3.below B5.out.size (by simpa using hwx)))
  clear hx3 hc3 HX5 HY5 B5
  go_wp2_with fail
  have HR7 : Hid (Rd (w4.alloc (.cells #[vw x] 22)) (some ⟨w4.heap.size, 0, none⟩) ([x].map vw)) := Rd.one _ _ _
  have HY7 := Lib.hid (HY6.out.below (below1 w4 (.cells #[vw x] 22)))
  have B7 := Lib.hid (B6.out.trans ((below1 w4 (.cells #[vw x] 22)).mono B6.out.size))
  show Calls _ _ _ (w4.alloc (.cells #[vw x] 22)) _
  generalize hw5 : w4.alloc (.cells #[vw x] 22) = w5 at *
  clear hw5
  refine (IS3 gY _ w5 HY7.out HR7.out).out.mono ?_
  rintro e w6 ⟨rfl, hy3, hc3⟩
  have HY8 := Lib.hid hy3
  have B8 := Lib.hid (B7.out.trans (hc3.below B7.out.size (by simpa using hwy)))
  clear hy3 hc3 HY7 HR7 B7 HY6 B6
  go_wp2_with fail
  refine (issued_calls k0 k1 gY 2 w6 HY8.out).mono ?_
  rintro e w6' ⟨rfl, rfl⟩
  go_wp2_with fail
  refine (MI1 gY w6 HY8.out).out.mono ?_
  rintro e w7 ⟨rfl, hb3⟩
  have HY9 := Lib.hid (HY8.out.below hb3)
  have B9 := Lib.hid (B8.out.trans (hb3.mono B8.out.size))
  clear hb3 HY8 B8
  go_wp2_with fail
  refine (MI2 gY w7 HY9.out).out.mono ?_
  rintro e w8 ⟨rfl, hb3⟩
  have B10 := Lib.hid (B9.out.trans (hb3.mono B9.out.size))
  clear hb3 HY9 B9
  go_wp2_with fail
  go_ret
  exact ⟨rfl, B10.out⟩
end Cp
end Go.Proofs.Ytnmgapokamkhpaa
