/- The walks of comparing: cmp.Compare, cmp.Or, identity.Compare. -/
import Derived.Test.YtddoepaplbnlcaaChecked
import Derived.Test.YtddoepaplbnlcaaMbD
import Derived.Deep.QuietTactic
import Derived.BigQuiet
import Derived.Deep.RegionHeld3
import Derived.Deep.RegionWith
import Derived.Outline
namespace Go.Proofs.Ytddoepaplbnlcaa
open Go.RowKit
namespace Mb

def i64 (a : Int) : Prop := -9223372036854775808 ≤ a ∧ a ≤ 9223372036854775807

theorem isNaN_calls (a : Int) (w : World) : Calls Try.prog 96 #[.int .i64 a] w fun e w' => e = .returned (.bool false) ∧ w = w' := by
  go_enter Try.func96, Try.ntmps96
  go_wp2
  go_ret
  exact ⟨rfl, rfl⟩
theorem cmp_calls (a b : Int) (w : World) : Calls Try.prog 94 #[.int .i64 a, .int .i64 b] w fun e w' => e = .returned (.int .i64 (cmpI a b)) ∧ w = w' := by
  rcases cmpI_cases a b with ⟨h, e⟩ | ⟨h, e⟩ | ⟨h, e⟩
  · have HE := Lib.hid e
    clear e
    go_enter Try.func94, Try.ntmps94
    go_wp2_with (go_at_call 96; refine (isNaN_calls _ _).mono ?_; rintro e w' ⟨rfl, rfl⟩)
    go_ret
    exact ⟨by rw [HE.out]; rfl, rfl⟩
  · have HE := Lib.hid e
    clear e
    subst h
    go_enter Try.func94, Try.ntmps94
    go_wp2_with (go_at_call 96; refine (isNaN_calls _ _).mono ?_; rintro e w' ⟨rfl, rfl⟩)
    go_ret
    exact ⟨by rw [HE.out]; rfl, rfl⟩
  · have HE := Lib.hid e
    clear e
    have h2 : ¬ a < b := by omega
    go_enter Try.func94, Try.ntmps94
    go_wp2_with (go_at_call 96; refine (isNaN_calls _ _).mono ?_; rintro e w' ⟨rfl, rfl⟩)
    go_ret
    exact ⟨by rw [HE.out]; rfl, rfl⟩
theorem or_calls (b off : Nat) (x y : Int) (w : World) (h0 : w.cell? ⟨b, off, none⟩ = some (.int .i64 x)) (h1 : w.cell? ⟨b, off + 1, none⟩ = some (.int .i64 y)) :
    Calls Try.prog 80 #[.slice (some ⟨b, off, none⟩) 2 2] w fun e w' => e = .returned (.int .i64 (orI x y)) ∧ w = w' := by
  go_enter Try.func80, Try.ntmps80
  go_wp2_with fail
  go_loop [8] (fun i => ∃ k : Nat, k ≤ 2 ∧ i = .int .i64 k ∧ (1 ≤ k → x = 0) ∧ (2 ≤ k → y = 0)) (fun i => 2 - (intOf i).toNat)
  case atStart => exact ⟨0, by omega, rfl, by omega, by omega⟩
  case round =>
    obtain ⟨k, hk, rfl, hx, hy⟩ := hrel
    have hc : k = 0 ∨ k = 1 ∨ k = 2 := by omega
    rcases hc with rfl | rfl | rfl
    · clear hx hy hk
      by_cases hx : x = 0
      · subst hx
        go_wp2_with fail
        go_round
        case rel => exact ⟨1, by omega, by go_num, by simp, by omega⟩
        case measure => simp [intOf]
      · have hx' : (x == 0) = false := by rw [beq_eq_false_iff_ne]; exact hx
        have hx2 : (x != 0) = true := by rw [bne_iff_ne]; exact hx
        go_wp2_with fail
        go_ret
        exact ⟨by unfold orI; rw [if_neg hx]; rfl, rfl⟩
    · have hx := hx (by omega)
      clear hy hk
      subst hx
      by_cases hy : y = 0
      · subst hy
        go_wp2_with fail
        go_round
        case rel => exact ⟨2, by omega, by go_num, by simp, by simp⟩
        case measure => simp [intOf]
      · have hx' : (y == 0) = false := by rw [beq_eq_false_iff_ne]; exact hy
        have hx2 : (y != 0) = true := by rw [bne_iff_ne]; exact hy
        go_wp2_with fail
        go_ret
        exact ⟨by unfold orI; rw [if_pos rfl]; rfl, rfl⟩
    · have hx := hx (by omega)
      have hy := hy (by omega)
      clear hk
      subst hx; subst hy
      go_wp2_with fail
      go_ret
      exact ⟨by unfold orI; rw [if_pos rfl]; rfl, rfl⟩
theorem or_new (W : World) (x y : Int) (T : TypeId) :
    Calls Try.prog 80 #[.slice (some ⟨W.heap.size, 0, none⟩) 2 2] (W.alloc (.cells #[.int .i64 x, .int .i64 y] T)).drew fun e w' => e = .returned (.int .i64 (orI x y)) ∧ (W.alloc (.cells #[.int .i64 x, .int .i64 y] T)).drew = w' :=
  or_calls _ 0 x y _ ((cell_of_row _ _ 0 _ _ _ (heap_alloc_new W _)).trans rfl) ((cell_of_row _ _ 1 _ _ _ (heap_alloc_new W _)).trans rfl)
/-- the two parts of an identity compared -/
theorem idCompare_calls (a1 a2 b1 b2 : Int) (w : World) :
    Calls Try.prog 81 #[.agg #[.int .i64 a1, .int .i64 a2], .agg #[.int .i64 b1, .int .i64 b2]] w fun e w' => e = .returned (.int .i64 (cmpID a1 a2 b1 b2)) ∧ Below w.heap.size w w' := by
  have HE : Hid (orI (cmpI a1 b1) (cmpI a2 b2) = cmpID a1 a2 b1 b2) := Lib.hid rfl
  go_enter Try.func81, Try.ntmps81
  go_wp2_with fail
  have hb2 := below2 w (.cells #[.int .i64 a1, .int .i64 a2] 30) (.cells #[.int .i64 b1, .int .i64 b2] 30)
  have c0 : ∀ w', Below w.heap.size w w' → True := fun _ _ => trivial
  clear c0
  have k0 : ((w.alloc (.cells #[.int .i64 a1, .int .i64 a2] 30)).alloc (.cells #[.int .i64 b1, .int .i64 b2] 30)).heap[w.heap.size]? = _ := (Below.heap_alloc _ _ _ (by simp)).trans (heap_alloc_new _ _)
  have k1 : ((w.alloc (.cells #[.int .i64 a1, .int .i64 a2] 30)).alloc (.cells #[.int .i64 b1, .int .i64 b2] 30)).heap[w.heap.size + 1]? = _ := heap_alloc2_new _ _ _
  generalize ((w.alloc (.cells #[.int .i64 a1, .int .i64 a2] 30)).alloc (.cells #[.int .i64 b1, .int .i64 b2] 30)) = w2 at *
  have z0 := (Array.getElem?_eq_some_iff.1 k0).1
  have z1 := (Array.getElem?_eq_some_iff.1 k1).1
  have m00 : ∀ w', Below w2.heap.size w2 w' → w'.cell? ⟨w.heap.size, 0, none⟩ = some (.int .i64 a1) := fun w' h => (cell_of_row _ _ 0 _ _ _ ((h.block _ z0).trans k0)).trans rfl
  have m01 : ∀ w', Below w2.heap.size w2 w' → w'.cell? ⟨w.heap.size, 1, none⟩ = some (.int .i64 a2) := fun w' h => (cell_of_row _ _ 1 _ _ _ ((h.block _ z0).trans k0)).trans rfl
  have m10 : ∀ w', Below w2.heap.size w2 w' → w'.cell? ⟨w.heap.size + 1, 0, none⟩ = some (.int .i64 b1) := fun w' h => (cell_of_row _ _ 0 _ _ _ ((h.block _ z1).trans k1)).trans rfl
  have m11 : ∀ w', Below w2.heap.size w2 w' → w'.cell? ⟨w.heap.size + 1, 1, none⟩ = some (.int .i64 b2) := fun w' h => (cell_of_row _ _ 1 _ _ _ ((h.block _ z1).trans k1)).trans rfl
  have HB2 := Lib.hid hb2
  have HK := Lib.hid (And.intro k0 (And.intro k1 (And.intro z0 z1)))
  clear hb2 k0 k1 z0 z1
  go_region_held3 (fun w' => Below w2.heap.size w2 w') (first | exact (Below.refl _ _).drew | assumption | exact (Below.refl _ _).drew.alloc (Nat.le_refl _) _) (first | (go_at_call 94; refine (cmp_calls _ _ _).mono ?_; rintro e w' ⟨rfl, rfl⟩) | (go_at_call 80; refine (or_new _ _ _ _).mono ?_; rintro e w' ⟨rfl, rfl⟩))
  go_wp2_with fail
  go_ret
  exact ⟨by rw [← HE.out]; rfl, (HB2.out.trans (((Below.refl _ _).alloc (Nat.le_refl _) _).mono HB2.out.size)).drew⟩
theorem or_newB (W : World) (x y : Int) (T : TypeId) {B : Nat} {w : World} (hb : Below B w W) (hB : B ≤ W.heap.size) :
    Calls Try.prog 80 #[.slice (some ⟨W.heap.size, 0, none⟩) 2 2] (W.alloc (.cells #[.int .i64 x, .int .i64 y] T)) fun e w' => e = .returned (.int .i64 (orI x y)) ∧ Below B w w' :=
  (or_calls _ 0 x y _ ((cell_of_row _ _ 0 _ _ _ (heap_alloc_new W _)).trans rfl) ((cell_of_row _ _ 1 _ _ _ (heap_alloc_new W _)).trans rfl)).mono fun _ _ ⟨h1, h2⟩ => ⟨h1, h2 ▸ hb.alloc hB _⟩
theorem compare_calls (x y : Mm) (w : World) : Calls Try.prog 49 #[mval x, mval y] w fun e w' => e = .returned (.int .i64 (cmpM x.m y.m)) ∧ Below w.heap.size w w' := by
  have HE : Hid (orI (cmpID x.m.a1 x.m.a2 y.m.a1 y.m.a2) (cmpID x.m.i1 x.m.i2 y.m.i1 y.m.i2) = cmpM x.m y.m) := Lib.hid rfl
  unfold mval Mm.cells
  go_enter Try.func49, Try.ntmps49
  go_wp2_with fail
  have hb2 := below2 w (.cells x.cells.toArray 76) (.cells y.cells.toArray 76)
  have k0 : ((w.alloc (.cells x.cells.toArray 76)).alloc (.cells y.cells.toArray 76)).heap[w.heap.size]? = _ := (Below.heap_alloc _ _ _ (by simp)).trans (heap_alloc_new _ _)
  have k1 : ((w.alloc (.cells x.cells.toArray 76)).alloc (.cells y.cells.toArray 76)).heap[w.heap.size + 1]? = _ := heap_alloc2_new _ _ _
  unfold Mm.cells at hb2 k0 k1
  generalize ((w.alloc _).alloc _) = w2 at *
  have z0 := (Array.getElem?_eq_some_iff.1 k0).1
  have z1 := (Array.getElem?_eq_some_iff.1 k1).1
  have m00 : ∀ w', Below w2.heap.size w2 w' → w'.cell? ⟨w.heap.size, 0, none⟩ = some (.int .i64 x.m.a1) := fun w' h => (cell_of_row _ _ 0 _ _ _ ((h.block _ z0).trans k0)).trans rfl
  have m01 : ∀ w', Below w2.heap.size w2 w' → w'.cell? ⟨w.heap.size, 1, none⟩ = some (.int .i64 x.m.a2) := fun w' h => (cell_of_row _ _ 1 _ _ _ ((h.block _ z0).trans k0)).trans rfl
  have m02 : ∀ w', Below w2.heap.size w2 w' → w'.cell? ⟨w.heap.size, 2, none⟩ = some (.int .i64 x.m.i1) := fun w' h => (cell_of_row _ _ 2 _ _ _ ((h.block _ z0).trans k0)).trans rfl
  have m03 : ∀ w', Below w2.heap.size w2 w' → w'.cell? ⟨w.heap.size, 3, none⟩ = some (.int .i64 x.m.i2) := fun w' h => (cell_of_row _ _ 3 _ _ _ ((h.block _ z0).trans k0)).trans rfl
  have m10 : ∀ w', Below w2.heap.size w2 w' → w'.cell? ⟨w.heap.size + 1, 0, none⟩ = some (.int .i64 y.m.a1) := fun w' h => (cell_of_row _ _ 0 _ _ _ ((h.block _ z1).trans k1)).trans rfl
  have m11 : ∀ w', Below w2.heap.size w2 w' → w'.cell? ⟨w.heap.size + 1, 1, none⟩ = some (.int .i64 y.m.a2) := fun w' h => (cell_of_row _ _ 1 _ _ _ ((h.block _ z1).trans k1)).trans rfl
  have m12 : ∀ w', Below w2.heap.size w2 w' → w'.cell? ⟨w.heap.size + 1, 2, none⟩ = some (.int .i64 y.m.i1) := fun w' h => (cell_of_row _ _ 2 _ _ _ ((h.block _ z1).trans k1)).trans rfl
  have m13 : ∀ w', Below w2.heap.size w2 w' → w'.cell? ⟨w.heap.size + 1, 3, none⟩ = some (.int .i64 y.m.i2) := fun w' h => (cell_of_row _ _ 3 _ _ _ ((h.block _ z1).trans k1)).trans rfl
  have HB2 := Lib.hid hb2
  have HK := Lib.hid (And.intro k0 (And.intro k1 (And.intro z0 z1)))
  clear hb2 k0 k1 z0 z1
  go_region_held3 (fun w' => Below w2.heap.size w2 w') (first | exact (Below.refl _ _).drew | assumption | exact Below.alloc (by assumption) (Below.size (by assumption)) _) (first | (go_at_call 81; refine (idCompare_calls _ _ _ _ _).mono ?_; rintro e w' ⟨rfl, hb⟩; have hb' := Below.trans (by assumption) (hb.mono (Below.size (by assumption))); clear hb) | (go_at_call 80; refine (or_newB _ _ _ _ (by assumption) (Below.size (by assumption))).mono ?_; rintro e w' ⟨rfl, hb⟩))
  all_goals (go_wp2_with fail; go_ret; exact ⟨by rw [← HE.out]; rfl, HB2.out.trans (hb.mono HB2.out.size)⟩)
theorem idValid_calls (a b : Int) (w : World) : Calls Try.prog 66 #[.agg #[.int .i64 a, .int .i64 b]] w fun e w' => e = .returned (.bool (validID a b)) ∧ Below w.heap.size w w' := by
  go_enter Try.func66, Try.ntmps66
  by_cases h1 : 1 ≤ a
  rotate_left
  · have d : decide (1 ≤ a) = false := by simpa using h1
    have HV : Hid (validID a b = false) := Lib.hid (by unfold validID; exact decide_eq_false (by omega))
    go_wp2
    go_ret
    exact ⟨by rw [HV.out]; rfl, (Below.refl _ _).alloc (Nat.le_refl _) _⟩
  by_cases h2 : a ≤ 8
  rotate_left
  · have d : decide (a ≤ 8) = false := by simpa using h2
    have HV : Hid (validID a b = false) := Lib.hid (by unfold validID; exact decide_eq_false (by omega))
    go_wp2
    go_ret
    exact ⟨by rw [HV.out]; rfl, (Below.refl _ _).alloc (Nat.le_refl _) _⟩
  by_cases h3 : 1 ≤ b
  rotate_left
  · have d : decide (1 ≤ b) = false := by simpa using h3
    have HV : Hid (validID a b = false) := Lib.hid (by unfold validID; exact decide_eq_false (by omega))
    go_wp2
    go_ret
    exact ⟨by rw [HV.out]; rfl, (Below.refl _ _).alloc (Nat.le_refl _) _⟩
  by_cases h4 : b ≤ 1099511627775
  rotate_left
  · have d : decide (b ≤ 1099511627775) = false := by simpa using h4
    have HV : Hid (validID a b = false) := Lib.hid (by unfold validID; exact decide_eq_false (by omega))
    go_wp2
    go_ret
    exact ⟨by rw [HV.out]; rfl, (Below.refl _ _).alloc (Nat.le_refl _) _⟩
  · have HV : Hid (validID a b = true) := Lib.hid (by unfold validID; exact decide_eq_true (by omega))
    go_wp2
    go_ret
    exact ⟨by rw [HV.out]; rfl, (Below.refl _ _).alloc (Nat.le_refl _) _⟩
theorem rvalidID_calls (a b : Int) (w : World) : Calls Try.prog 72 #[.agg #[.int .i64 a, .int .i64 b]] w fun e w' => e = .returned (.bool (validID a b)) ∧ Below w.heap.size w w' := by
  go_enter Try.func72, Try.ntmps72
  by_cases h1 : 1 ≤ a
  rotate_left
  · have d : decide (1 ≤ a) = false := by simpa using h1
    have HV : Hid (validID a b = false) := Lib.hid (by unfold validID; exact decide_eq_false (by omega))
    go_wp2
    go_ret
    exact ⟨by rw [HV.out]; rfl, (Below.refl _ _).alloc (Nat.le_refl _) _⟩
  by_cases h2 : a ≤ 8
  rotate_left
  · have d : decide (a ≤ 8) = false := by simpa using h2
    have HV : Hid (validID a b = false) := Lib.hid (by unfold validID; exact decide_eq_false (by omega))
    go_wp2
    go_ret
    exact ⟨by rw [HV.out]; rfl, (Below.refl _ _).alloc (Nat.le_refl _) _⟩
  by_cases h3 : 1 ≤ b
  rotate_left
  · have d : decide (1 ≤ b) = false := by simpa using h3
    have HV : Hid (validID a b = false) := Lib.hid (by unfold validID; exact decide_eq_false (by omega))
    go_wp2
    go_ret
    exact ⟨by rw [HV.out]; rfl, (Below.refl _ _).alloc (Nat.le_refl _) _⟩
  by_cases h4 : b ≤ 1099511627775
  rotate_left
  · have d : decide (b ≤ 1099511627775) = false := by simpa using h4
    have HV : Hid (validID a b = false) := Lib.hid (by unfold validID; exact decide_eq_false (by omega))
    go_wp2
    go_ret
    exact ⟨by rw [HV.out]; rfl, (Below.refl _ _).alloc (Nat.le_refl _) _⟩
  · have HV : Hid (validID a b = true) := Lib.hid (by unfold validID; exact decide_eq_true (by omega))
    go_wp2
    go_ret
    exact ⟨by rw [HV.out]; rfl, (Below.refl _ _).alloc (Nat.le_refl _) _⟩
theorem rvalid_calls (a b : Int) (w : World) : Calls Try.prog 44 #[.agg #[.int .i64 a, .int .i64 b]] w fun e w' => e = .returned (.bool (validID a b)) ∧ Below w.heap.size w w' := by
  go_enter Try.func44, Try.ntmps44
  go_wp2_with (go_at_call 72; refine (rvalidID_calls _ _ _).mono ?_; rintro e w' ⟨rfl, hb⟩)
  go_ret
  exact ⟨rfl, ((Below.refl _ _).alloc (Nat.le_refl _) _).trans (hb.mono (by simp))⟩
theorem rcompare_calls (a1 a2 b1 b2 : Int) (w : World) : Calls Try.prog 25 #[.agg #[.int .i64 a1, .int .i64 a2], .agg #[.int .i64 b1, .int .i64 b2]] w fun e w' => e = .returned (.int .i64 (cmpID a1 a2 b1 b2)) ∧ Below w.heap.size w w' := by
  have hb2 := Lib.hid (below2 w (.cells #[.int .i64 a1, .int .i64 a2] 30) (.cells #[.int .i64 b1, .int .i64 b2] 30))
  rcases cmpI_cases a1 b1 with ⟨h, _⟩ | ⟨h, _⟩ | ⟨h, _⟩
  · have HE : Hid (cmpID a1 a2 b1 b2 = -1) := Lib.hid (by unfold cmpID cmpI; rw [if_pos h]; rfl)
    have n1 : (a1 == b1) = false := by rw [beq_eq_false_iff_ne]; omega
    go_enter Try.func25, Try.ntmps25
    go_wp2_with fail
    go_ret
    exact ⟨by rw [HE.out]; rfl, hb2.out⟩
  · subst h
    rcases cmpI_cases a2 b2 with ⟨h, _⟩ | ⟨h, _⟩ | ⟨h, _⟩
    · have HE : Hid (cmpID a1 a2 a1 b2 = -1) := Lib.hid (by unfold cmpID cmpI orI; simp [h])
      have n1 : (a2 == b2) = false := by rw [beq_eq_false_iff_ne]; omega
      go_enter Try.func25, Try.ntmps25
      go_wp2_with fail
      go_ret
      exact ⟨by rw [HE.out]; rfl, hb2.out⟩
    · subst h
      have HE : Hid (cmpID a1 a2 a1 a2 = 0) := Lib.hid (by unfold cmpID cmpI orI; simp)
      go_enter Try.func25, Try.ntmps25
      go_wp2_with fail
      go_ret
      exact ⟨by rw [HE.out]; rfl, hb2.out⟩
    · have h' : ¬ a2 < b2 := by omega
      have HE : Hid (cmpID a1 a2 a1 b2 = 1) := Lib.hid (by unfold cmpID cmpI orI; simp [h, h'])
      have n1 : (a2 == b2) = false := by rw [beq_eq_false_iff_ne]; omega
      have n2 : decide (a2 < b2) = false := by simpa using h'
      go_enter Try.func25, Try.ntmps25
      go_wp2_with fail
      go_ret
      exact ⟨by rw [HE.out]; rfl, hb2.out⟩
  · have h' : ¬ a1 < b1 := by omega
    have HE : Hid (cmpID a1 a2 b1 b2 = 1) := Lib.hid (by unfold cmpID cmpI orI; simp [h, h'])
    have n1 : (a1 == b1) = false := by rw [beq_eq_false_iff_ne]; omega
    have n2 : decide (a1 < b1) = false := by simpa using h'
    go_enter Try.func25, Try.ntmps25
    go_wp2_with fail
    go_ret
    exact ⟨by rw [HE.out]; rfl, hb2.out⟩
end Mb
end Go.Proofs.Ytddoepaplbnlcaa
