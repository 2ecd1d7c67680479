/- The walks of a message's valid, and of slices.ContainsFunc over messages. -/
import Derived.Test.YtddoepaplbnlcaaMbF
import Derived.Lib.Strings
namespace Go.Proofs.Ytddoepaplbnlcaa
open Go.RowKit Go.Shelf
namespace Mb

theorem indexM_calls (F : Nat) (caps : Array Value) (hcf : ∀ (args : Array Value) (w' : World), (callFunc F args).run Try.prog w' = .ok (.enter F args) w') (p : Msg → Bool) (A : Option Addr) (n c : Nat) (xs : List Mm) (w : World)
    (hn : xs.length = n) (hr : Rd w A (cells6 xs)) (hm : n ≤ 9223372036854775807)
    (H : ∀ x : Mm, ∀ w', Below w.heap.size w w' → Calls Try.prog F (#[mval x] ++ caps) w' fun e w'' => e = .returned (.bool (p x.m)) ∧ Below w'.heap.size w' w'') :
    Calls Try.prog 68 #[.slice A n c, .func (.func F) #[] caps] w fun e w' => e = .returned (.int .i64 (idxI xs (fun x => p x.m))) ∧ Below w.heap.size w w' := by
  have HN := Lib.hid hn
  have HR := Lib.hid hr
  have HH := Lib.hid H
  clear hn hr H
  go_enter Try.func68, Try.ntmps68
  go_wp2_with fail
  go_loopw [8] (fun i wr => ∃ k : Nat, k ≤ n ∧ i = .int .i64 k ∧ Below w.heap.size w wr ∧ ∀ x ∈ xs.take k, p x.m = false) (fun i _ => n - (intOf i).toNat)
  case atStart => exact ⟨0, by omega, rfl, Below.refl _ _, by simp⟩
  case round =>
    obtain ⟨k, hk, rfl, hb, hall⟩ := hrel
    have HA := Lib.hid hall
    have HB := Lib.hid hb
    clear hall hb
    by_cases hlt : k < n
    · have j1 : (k : Int) < (n : Int) := by omega
      have j0 : (0 : Int) ≤ (k : Int) := by omega
      have hkl : k < xs.length := by have := HN.out; omega
      obtain ⟨b, off, e, hbl, x0, x1, x2, x3, x4, x5⟩ := rd6 (HR.out.below HB.out) k hkl
      subst e
      clear hbl
      have HC := Lib.hid (HH.out xs[k] wr HB.out)
      have HT := Lib.hid (take_more (P := fun x => p x.m = false) hkl HA.out)
      have HS := Lib.hid (idxI_some (p := fun x => p x.m) hkl HA.out)
      generalize xs[k] = z at *
      cases hb : p z.m with
      | true =>
        have HS2 := Lib.hid (HS.out hb)
        rw [hb] at HC
        clear hb HT HS
        unfold mval Mm.cells at HC
        go_wp2_with (refine HC.out.mono ?_; rintro e w' ⟨rfl, hb⟩)
        go_ret
        exact ⟨by rw [HS2.out]; rfl, HB.out.trans (hb.mono HB.out.size)⟩
      | false =>
        have HT2 := Lib.hid (HT.out hb)
        rw [hb] at HC
        clear hb HT HS
        unfold mval Mm.cells at HC
        go_wp2_with (refine HC.out.mono ?_; rintro e w' ⟨rfl, hb⟩; have HB' := Lib.hid (HB.out.trans (hb.mono HB.out.size)); clear hb)
        go_roundw
        case rel => exact ⟨k + 1, by omega, by go_num, HB'.out, HT2.out⟩
        case measure => simp [intOf]; omega
    · obtain rfl : k = n := by omega
      have HE : Hid (idxI xs (fun x => p x.m) = -1) := Lib.hid (idxI_none (by rw [← List.take_of_length_le (Nat.le_of_eq HN.out)]; exact HA.out))
      go_wp2_with fail
      go_ret
      exact ⟨by rw [HE.out]; rfl, HB.out⟩
theorem containsM_calls (F : Nat) (caps : Array Value) (hcf : ∀ (args : Array Value) (w' : World), (callFunc F args).run Try.prog w' = .ok (.enter F args) w') (p : Msg → Bool) (A : Option Addr) (n c : Nat) (xs : List Mm) (w : World)
    (hn : xs.length = n) (hr : Rd w A (cells6 xs)) (hm : n ≤ 9223372036854775807)
    (H : ∀ x : Mm, ∀ w', Below w.heap.size w w' → Calls Try.prog F (#[mval x] ++ caps) w' fun e w'' => e = .returned (.bool (p x.m)) ∧ Below w'.heap.size w' w'') :
    Calls Try.prog 39 #[.slice A n c, .func (.func F) #[] caps] w fun e w' => e = .returned (.bool (xs.any fun x => p x.m)) ∧ Below w.heap.size w w' := by
  have HC := Lib.hid (indexM_calls F caps hcf p A n c xs w hn hr hm H)
  have HD := Lib.hid (idxI_any xs (fun x => p x.m))
  clear hn hr H
  generalize idxI xs (fun x => p x.m) = z at *
  go_enter Try.func39, Try.ntmps39
  go_wp2_with (refine HC.out.mono ?_; rintro e w' ⟨rfl, hb⟩)
  all_goals go_ret
  all_goals exact ⟨by rw [← HD.out]; rfl, hb⟩
/-- the closure of Put -/
theorem put1_calls (x : Mm) (b : Nat) (i1 i2 : Int) (w : World) (h0 : w.cell? ⟨b, 0, none⟩ = some (.int .i64 i1)) (h1 : w.cell? ⟨b, 1, none⟩ = some (.int .i64 i2)) :
    Calls Try.prog 40 #[mval x, .pointer (some ⟨b, 0, none⟩)] w fun e w' => e = .returned (.bool (decide (x.m.i1 = i1 ∧ x.m.i2 = i2))) ∧ Below w.heap.size w w' := by
  have hb := block_lt_of_cell h0
  unfold mval Mm.cells
  by_cases e1 : x.m.i1 = i1
  · by_cases e2 : x.m.i2 = i2
    · subst e1 e2
      go_enter Try.func40, Try.ntmps40
      go_wp2_with fail
      go_ret
      exact ⟨rfl, (Below.refl _ _).alloc (Nat.le_refl _) _⟩
    · have n2 : (x.m.i2 == i2) = false := by rw [beq_eq_false_iff_ne]; exact e2
      subst e1
      go_enter Try.func40, Try.ntmps40
      go_wp2_with fail
      go_ret
      exact ⟨rfl, (Below.refl _ _).alloc (Nat.le_refl _) _⟩
  · have n1 : (x.m.i1 == i1) = false := by rw [beq_eq_false_iff_ne]; exact e1
    go_enter Try.func40, Try.ntmps40
    go_wp2_with fail
    go_ret
    exact ⟨rfl, (Below.refl _ _).alloc (Nat.le_refl _) _⟩
/-- the closure of TakeAll -/
theorem takeAll1_calls (x : Mm) (b : Nat) (a1 a2 : Int) (w : World) (h0 : w.cell? ⟨b, 0, none⟩ = some (.int .i64 a1)) (h1 : w.cell? ⟨b, 1, none⟩ = some (.int .i64 a2)) :
    Calls Try.prog 87 #[mval x, .pointer (some ⟨b, 0, none⟩)] w fun e w' => e = .returned (.bool (decide (x.m.a1 = a1 ∧ x.m.a2 = a2))) ∧ Below w.heap.size w w' := by
  have hb := block_lt_of_cell h0
  unfold mval Mm.cells
  by_cases e1 : x.m.a1 = a1
  · by_cases e2 : x.m.a2 = a2
    · subst e1 e2
      go_enter Try.func87, Try.ntmps87
      go_wp2_with fail
      go_ret
      exact ⟨rfl, (Below.refl _ _).alloc (Nat.le_refl _) _⟩
    · have n2 : (x.m.a2 == a2) = false := by rw [beq_eq_false_iff_ne]; exact e2
      subst e1
      go_enter Try.func87, Try.ntmps87
      go_wp2_with fail
      go_ret
      exact ⟨rfl, (Below.refl _ _).alloc (Nat.le_refl _) _⟩
  · have n1 : (x.m.a1 == a1) = false := by rw [beq_eq_false_iff_ne]; exact e1
    go_enter Try.func87, Try.ntmps87
    go_wp2_with fail
    go_ret
    exact ⟨rfl, (Below.refl _ _).alloc (Nat.le_refl _) _⟩
theorem any_bad (l : List Int) : l.any badB = !l.all good := by
  induction l with
  | nil => rfl
  | cons x l ih => simp only [List.any_cons, List.all_cons, ih, badB]; cases good x <;> simp
theorem valid_parts (m : Msg) : valid m = (validID m.a1 m.a2 && validID m.i1 m.i2 && decide (1 ≤ m.me.size ∧ m.me.size ≤ 31) && decide (m.ar.length ≤ 9) && !m.ar.any badB) := by
  unfold valid; rw [any_bad]; simp
def ValB (m : Msg) (w : World) (e : Ending) (w' : World) : Prop := e = .returned (.bool (valid m)) ∧ Below w.heap.size w w'
theorem str_nil {s : ByteArray} (h : s.size = 0) : s.toList = [] := by
  rw [Lib.toList_data]
  exact List.eq_nil_of_length_eq_zero (by simpa using h)
theorem str_ne {s : ByteArray} (h : ¬ s.size = 0) : ¬ s.toList = [] := by
  rw [Lib.toList_data]
  intro e
  apply h
  have := congrArg List.length e
  simpa using this
set_option maxRecDepth 100000 in
set_option maxHeartbeats 2000000 in
theorem valid_calls (x : Mm) (w : World) (N : List Nat) (hx : x.ok w N) : Calls Try.prog 38 #[mval x] w (ValB x.m w) := by
  have hs := hx.s
  have hc1 := hx.c1
  have hc2 := hx.c2
  unfold maxLen at hc2
  have HQ := Lib.hid (valid_parts x.m)
  have HV := Lib.hid (fun (w' : World) (hb : Below w.heap.size w w') => containsBad_calls x.a x.m.ar.length x.c x.m.ar w' rfl (hx.rd.below hb) (by omega))
  have HI1 := Lib.hid (idValid_calls x.m.a1 x.m.a2)
  have HI2 := Lib.hid (idValid_calls x.m.i1 x.m.i2)
  obtain ⟨⟨a1, a2, i1, i2, me, ar⟩, xa, xc⟩ := x
  unfold mval Mm.cells
  simp only at *
  have hl0 : ar.length ≤ 9223372036854775807 := by omega
  clear hx hc1 hc2
  cases h1 : validID a1 a2 with
  | false =>
    rw [h1] at HI1 HQ
    simp only [Bool.false_and] at HQ
    clear h1 HI2 HV
    go_enter Try.func38, Try.ntmps38; go_wp2_with fail; have hb1 := below1 w (.cells #[.int .i64 a1, .int .i64 a2, .int .i64 i1, .int .i64 i2, .string me, .slice xa ar.length xc] 76); have k := heap_alloc_new w (.cells #[.int .i64 a1, .int .i64 a2, .int .i64 i1, .int .i64 i2, .string me, .slice xa ar.length xc] 76); generalize w.alloc _ = w1 at *; have z := (Array.getElem?_eq_some_iff.1 k).1; have m0 : ∀ w', Below w1.heap.size w1 w' → w'.cell? ⟨w.heap.size, 0, none⟩ = some (.int .i64 a1) := fun w' h => (cell_of_row _ _ 0 _ _ _ ((h.block _ z).trans k)).trans rfl; have m1 : ∀ w', Below w1.heap.size w1 w' → w'.cell? ⟨w.heap.size, 1, none⟩ = some (.int .i64 a2) := fun w' h => (cell_of_row _ _ 1 _ _ _ ((h.block _ z).trans k)).trans rfl; have m2 : ∀ w', Below w1.heap.size w1 w' → w'.cell? ⟨w.heap.size, 2, none⟩ = some (.int .i64 i1) := fun w' h => (cell_of_row _ _ 2 _ _ _ ((h.block _ z).trans k)).trans rfl; have m3 : ∀ w', Below w1.heap.size w1 w' → w'.cell? ⟨w.heap.size, 3, none⟩ = some (.int .i64 i2) := fun w' h => (cell_of_row _ _ 3 _ _ _ ((h.block _ z).trans k)).trans rfl; have m4 : ∀ w', Below w1.heap.size w1 w' → w'.cell? ⟨w.heap.size, 4, none⟩ = some (.string me) := fun w' h => (cell_of_row _ _ 4 _ _ _ ((h.block _ z).trans k)).trans rfl; have m5 : ∀ w', Below w1.heap.size w1 w' → w'.cell? ⟨w.heap.size, 5, none⟩ = some (.slice xa ar.length xc) := fun w' h => (cell_of_row _ _ 5 _ _ _ ((h.block _ z).trans k)).trans rfl; have r := Below.refl w1.heap.size w1; have HB1 := Lib.hid hb1; clear hb1 k z
    go_wp2_with ((with_reducible refine (HI1.out _).mono ?_); rintro e w2 ⟨rfl, hb⟩; have r2 := r.trans (hb.mono r.size); clear hb)
    go_ret
    exact ⟨by rw [HQ.out]; rfl, HB1.out.trans (r2.mono HB1.out.size)⟩
  | true =>
    cases h2 : validID i1 i2 with
    | false =>
      rw [h1] at HI1
      rw [h2] at HI2
      rw [h1, h2] at HQ
      simp only [Bool.and_false, Bool.false_and] at HQ
      clear h1 h2 HV
      go_enter Try.func38, Try.ntmps38; go_wp2_with fail; have hb1 := below1 w (.cells #[.int .i64 a1, .int .i64 a2, .int .i64 i1, .int .i64 i2, .string me, .slice xa ar.length xc] 76); have k := heap_alloc_new w (.cells #[.int .i64 a1, .int .i64 a2, .int .i64 i1, .int .i64 i2, .string me, .slice xa ar.length xc] 76); generalize w.alloc _ = w1 at *; have z := (Array.getElem?_eq_some_iff.1 k).1; have m0 : ∀ w', Below w1.heap.size w1 w' → w'.cell? ⟨w.heap.size, 0, none⟩ = some (.int .i64 a1) := fun w' h => (cell_of_row _ _ 0 _ _ _ ((h.block _ z).trans k)).trans rfl; have m1 : ∀ w', Below w1.heap.size w1 w' → w'.cell? ⟨w.heap.size, 1, none⟩ = some (.int .i64 a2) := fun w' h => (cell_of_row _ _ 1 _ _ _ ((h.block _ z).trans k)).trans rfl; have m2 : ∀ w', Below w1.heap.size w1 w' → w'.cell? ⟨w.heap.size, 2, none⟩ = some (.int .i64 i1) := fun w' h => (cell_of_row _ _ 2 _ _ _ ((h.block _ z).trans k)).trans rfl; have m3 : ∀ w', Below w1.heap.size w1 w' → w'.cell? ⟨w.heap.size, 3, none⟩ = some (.int .i64 i2) := fun w' h => (cell_of_row _ _ 3 _ _ _ ((h.block _ z).trans k)).trans rfl; have m4 : ∀ w', Below w1.heap.size w1 w' → w'.cell? ⟨w.heap.size, 4, none⟩ = some (.string me) := fun w' h => (cell_of_row _ _ 4 _ _ _ ((h.block _ z).trans k)).trans rfl; have m5 : ∀ w', Below w1.heap.size w1 w' → w'.cell? ⟨w.heap.size, 5, none⟩ = some (.slice xa ar.length xc) := fun w' h => (cell_of_row _ _ 5 _ _ _ ((h.block _ z).trans k)).trans rfl; have r := Below.refl w1.heap.size w1; have HB1 := Lib.hid hb1; clear hb1 k z
      go_wp2_with (first | ((with_reducible refine (HI1.out _).mono ?_); rintro e w2 ⟨rfl, hb⟩; have r2 := r.trans (hb.mono r.size); clear hb) | ((with_reducible refine (HI2.out _).mono ?_); rintro e w3 ⟨rfl, hb⟩; have r3 := r2.trans (hb.mono r2.size); clear hb))
      go_ret
      exact ⟨by rw [HQ.out]; rfl, HB1.out.trans (r3.mono HB1.out.size)⟩
    | true =>
      rw [h1] at HI1
      rw [h2] at HI2
      rw [h1, h2] at HQ
      simp only [Bool.and_true] at HQ
      clear h1 h2
      by_cases he : me.size = 0
      · have e0 : me.toList = [] := str_nil he
        have e1 : me.toList.isEmpty = true := by rw [e0]; rfl
        rw [decide_eq_false (by omega)] at HQ
        simp only [Bool.and_false, Bool.false_and] at HQ
        clear HV he
        go_enter Try.func38, Try.ntmps38; go_wp2_with fail; have hb1 := below1 w (.cells #[.int .i64 a1, .int .i64 a2, .int .i64 i1, .int .i64 i2, .string me, .slice xa ar.length xc] 76); have k := heap_alloc_new w (.cells #[.int .i64 a1, .int .i64 a2, .int .i64 i1, .int .i64 i2, .string me, .slice xa ar.length xc] 76); generalize w.alloc _ = w1 at *; have z := (Array.getElem?_eq_some_iff.1 k).1; have m0 : ∀ w', Below w1.heap.size w1 w' → w'.cell? ⟨w.heap.size, 0, none⟩ = some (.int .i64 a1) := fun w' h => (cell_of_row _ _ 0 _ _ _ ((h.block _ z).trans k)).trans rfl; have m1 : ∀ w', Below w1.heap.size w1 w' → w'.cell? ⟨w.heap.size, 1, none⟩ = some (.int .i64 a2) := fun w' h => (cell_of_row _ _ 1 _ _ _ ((h.block _ z).trans k)).trans rfl; have m2 : ∀ w', Below w1.heap.size w1 w' → w'.cell? ⟨w.heap.size, 2, none⟩ = some (.int .i64 i1) := fun w' h => (cell_of_row _ _ 2 _ _ _ ((h.block _ z).trans k)).trans rfl; have m3 : ∀ w', Below w1.heap.size w1 w' → w'.cell? ⟨w.heap.size, 3, none⟩ = some (.int .i64 i2) := fun w' h => (cell_of_row _ _ 3 _ _ _ ((h.block _ z).trans k)).trans rfl; have m4 : ∀ w', Below w1.heap.size w1 w' → w'.cell? ⟨w.heap.size, 4, none⟩ = some (.string me) := fun w' h => (cell_of_row _ _ 4 _ _ _ ((h.block _ z).trans k)).trans rfl; have m5 : ∀ w', Below w1.heap.size w1 w' → w'.cell? ⟨w.heap.size, 5, none⟩ = some (.slice xa ar.length xc) := fun w' h => (cell_of_row _ _ 5 _ _ _ ((h.block _ z).trans k)).trans rfl; have r := Below.refl w1.heap.size w1; have HB1 := Lib.hid hb1; clear hb1 k z
        go_wp2_with (first | ((with_reducible refine (HI1.out _).mono ?_); rintro e w2 ⟨rfl, hb⟩; have r2 := r.trans (hb.mono r.size); clear hb) | ((with_reducible refine (HI2.out _).mono ?_); rintro e w3 ⟨rfl, hb⟩; have r3 := r2.trans (hb.mono r2.size); clear hb))
        go_ret
        exact ⟨by rw [HQ.out]; rfl, HB1.out.trans (r3.mono HB1.out.size)⟩
      · have e0 : ¬ me.toList = [] := str_ne he
        have e1 : me.toList.isEmpty = false := by simpa using e0
        by_cases hq : me.size ≤ 31
        · by_cases ha : ar.length ≤ 9
          · rw [decide_eq_true (by omega), decide_eq_true ha] at HQ
            simp only [Bool.and_true, Bool.true_and] at HQ
            have q1 : (me.size : Int) ≤ 31 := by omega
            have q2 : (ar.length : Int) ≤ 9 := by omega
            cases hb : ar.any badB with
            | true =>
              rw [hb] at HQ HV
              clear he hq ha hb
              go_enter Try.func38, Try.ntmps38; go_wp2_with fail; have hb1 := below1 w (.cells #[.int .i64 a1, .int .i64 a2, .int .i64 i1, .int .i64 i2, .string me, .slice xa ar.length xc] 76); have k := heap_alloc_new w (.cells #[.int .i64 a1, .int .i64 a2, .int .i64 i1, .int .i64 i2, .string me, .slice xa ar.length xc] 76); generalize w.alloc _ = w1 at *; have z := (Array.getElem?_eq_some_iff.1 k).1; have m0 : ∀ w', Below w1.heap.size w1 w' → w'.cell? ⟨w.heap.size, 0, none⟩ = some (.int .i64 a1) := fun w' h => (cell_of_row _ _ 0 _ _ _ ((h.block _ z).trans k)).trans rfl; have m1 : ∀ w', Below w1.heap.size w1 w' → w'.cell? ⟨w.heap.size, 1, none⟩ = some (.int .i64 a2) := fun w' h => (cell_of_row _ _ 1 _ _ _ ((h.block _ z).trans k)).trans rfl; have m2 : ∀ w', Below w1.heap.size w1 w' → w'.cell? ⟨w.heap.size, 2, none⟩ = some (.int .i64 i1) := fun w' h => (cell_of_row _ _ 2 _ _ _ ((h.block _ z).trans k)).trans rfl; have m3 : ∀ w', Below w1.heap.size w1 w' → w'.cell? ⟨w.heap.size, 3, none⟩ = some (.int .i64 i2) := fun w' h => (cell_of_row _ _ 3 _ _ _ ((h.block _ z).trans k)).trans rfl; have m4 : ∀ w', Below w1.heap.size w1 w' → w'.cell? ⟨w.heap.size, 4, none⟩ = some (.string me) := fun w' h => (cell_of_row _ _ 4 _ _ _ ((h.block _ z).trans k)).trans rfl; have m5 : ∀ w', Below w1.heap.size w1 w' → w'.cell? ⟨w.heap.size, 5, none⟩ = some (.slice xa ar.length xc) := fun w' h => (cell_of_row _ _ 5 _ _ _ ((h.block _ z).trans k)).trans rfl; have r := Below.refl w1.heap.size w1; have HB1 := Lib.hid hb1; clear hb1 k z
              go_wp2_with (first | ((with_reducible refine (HI1.out _).mono ?_); rintro e w2 ⟨rfl, hb⟩; have r2 := r.trans (hb.mono r.size); clear hb) | ((with_reducible refine (HI2.out _).mono ?_); rintro e w3 ⟨rfl, hb⟩; have r3 := r2.trans (hb.mono r2.size); clear hb) | ((with_reducible refine (HV.out _ (HB1.out.trans (r3.mono HB1.out.size))).mono ?_); rintro e w4 ⟨rfl, rfl⟩))
              go_ret
              exact ⟨by rw [HQ.out]; rfl, HB1.out.trans (r3.mono HB1.out.size)⟩
            | false =>
              rw [hb] at HQ HV
              clear he hq ha hb
              go_enter Try.func38, Try.ntmps38; go_wp2_with fail; have hb1 := below1 w (.cells #[.int .i64 a1, .int .i64 a2, .int .i64 i1, .int .i64 i2, .string me, .slice xa ar.length xc] 76); have k := heap_alloc_new w (.cells #[.int .i64 a1, .int .i64 a2, .int .i64 i1, .int .i64 i2, .string me, .slice xa ar.length xc] 76); generalize w.alloc _ = w1 at *; have z := (Array.getElem?_eq_some_iff.1 k).1; have m0 : ∀ w', Below w1.heap.size w1 w' → w'.cell? ⟨w.heap.size, 0, none⟩ = some (.int .i64 a1) := fun w' h => (cell_of_row _ _ 0 _ _ _ ((h.block _ z).trans k)).trans rfl; have m1 : ∀ w', Below w1.heap.size w1 w' → w'.cell? ⟨w.heap.size, 1, none⟩ = some (.int .i64 a2) := fun w' h => (cell_of_row _ _ 1 _ _ _ ((h.block _ z).trans k)).trans rfl; have m2 : ∀ w', Below w1.heap.size w1 w' → w'.cell? ⟨w.heap.size, 2, none⟩ = some (.int .i64 i1) := fun w' h => (cell_of_row _ _ 2 _ _ _ ((h.block _ z).trans k)).trans rfl; have m3 : ∀ w', Below w1.heap.size w1 w' → w'.cell? ⟨w.heap.size, 3, none⟩ = some (.int .i64 i2) := fun w' h => (cell_of_row _ _ 3 _ _ _ ((h.block _ z).trans k)).trans rfl; have m4 : ∀ w', Below w1.heap.size w1 w' → w'.cell? ⟨w.heap.size, 4, none⟩ = some (.string me) := fun w' h => (cell_of_row _ _ 4 _ _ _ ((h.block _ z).trans k)).trans rfl; have m5 : ∀ w', Below w1.heap.size w1 w' → w'.cell? ⟨w.heap.size, 5, none⟩ = some (.slice xa ar.length xc) := fun w' h => (cell_of_row _ _ 5 _ _ _ ((h.block _ z).trans k)).trans rfl; have r := Below.refl w1.heap.size w1; have HB1 := Lib.hid hb1; clear hb1 k z
              go_wp2_with (first | ((with_reducible refine (HI1.out _).mono ?_); rintro e w2 ⟨rfl, hb⟩; have r2 := r.trans (hb.mono r.size); clear hb) | ((with_reducible refine (HI2.out _).mono ?_); rintro e w3 ⟨rfl, hb⟩; have r3 := r2.trans (hb.mono r2.size); clear hb) | ((with_reducible refine (HV.out _ (HB1.out.trans (r3.mono HB1.out.size))).mono ?_); rintro e w4 ⟨rfl, rfl⟩))
              go_ret
              exact ⟨by rw [HQ.out]; rfl, HB1.out.trans (r3.mono HB1.out.size)⟩
          · rw [decide_eq_true (p := 1 ≤ me.size ∧ me.size ≤ 31) (by omega), decide_eq_false ha] at HQ
            simp only [Bool.and_false, Bool.false_and] at HQ
            have q1 : (me.size : Int) ≤ 31 := by omega
            have q2 : ¬ (ar.length : Int) ≤ 9 := by omega
            have q3 : decide ((ar.length : Int) ≤ 9) = false := decide_eq_false q2
            clear he hq ha HV
            go_enter Try.func38, Try.ntmps38; go_wp2_with fail; have hb1 := below1 w (.cells #[.int .i64 a1, .int .i64 a2, .int .i64 i1, .int .i64 i2, .string me, .slice xa ar.length xc] 76); have k := heap_alloc_new w (.cells #[.int .i64 a1, .int .i64 a2, .int .i64 i1, .int .i64 i2, .string me, .slice xa ar.length xc] 76); generalize w.alloc _ = w1 at *; have z := (Array.getElem?_eq_some_iff.1 k).1; have m0 : ∀ w', Below w1.heap.size w1 w' → w'.cell? ⟨w.heap.size, 0, none⟩ = some (.int .i64 a1) := fun w' h => (cell_of_row _ _ 0 _ _ _ ((h.block _ z).trans k)).trans rfl; have m1 : ∀ w', Below w1.heap.size w1 w' → w'.cell? ⟨w.heap.size, 1, none⟩ = some (.int .i64 a2) := fun w' h => (cell_of_row _ _ 1 _ _ _ ((h.block _ z).trans k)).trans rfl; have m2 : ∀ w', Below w1.heap.size w1 w' → w'.cell? ⟨w.heap.size, 2, none⟩ = some (.int .i64 i1) := fun w' h => (cell_of_row _ _ 2 _ _ _ ((h.block _ z).trans k)).trans rfl; have m3 : ∀ w', Below w1.heap.size w1 w' → w'.cell? ⟨w.heap.size, 3, none⟩ = some (.int .i64 i2) := fun w' h => (cell_of_row _ _ 3 _ _ _ ((h.block _ z).trans k)).trans rfl; have m4 : ∀ w', Below w1.heap.size w1 w' → w'.cell? ⟨w.heap.size, 4, none⟩ = some (.string me) := fun w' h => (cell_of_row _ _ 4 _ _ _ ((h.block _ z).trans k)).trans rfl; have m5 : ∀ w', Below w1.heap.size w1 w' → w'.cell? ⟨w.heap.size, 5, none⟩ = some (.slice xa ar.length xc) := fun w' h => (cell_of_row _ _ 5 _ _ _ ((h.block _ z).trans k)).trans rfl; have r := Below.refl w1.heap.size w1; have HB1 := Lib.hid hb1; clear hb1 k z
            go_wp2_with (first | ((with_reducible refine (HI1.out _).mono ?_); rintro e w2 ⟨rfl, hb⟩; have r2 := r.trans (hb.mono r.size); clear hb) | ((with_reducible refine (HI2.out _).mono ?_); rintro e w3 ⟨rfl, hb⟩; have r3 := r2.trans (hb.mono r2.size); clear hb))
            go_ret
            exact ⟨by rw [HQ.out]; rfl, HB1.out.trans (r3.mono HB1.out.size)⟩
        · rw [decide_eq_false (by omega)] at HQ
          simp only [Bool.and_false, Bool.false_and] at HQ
          have q1 : ¬ (me.size : Int) ≤ 31 := by omega
          have q3 : decide ((me.size : Int) ≤ 31) = false := decide_eq_false q1
          clear he hq HV
          go_enter Try.func38, Try.ntmps38; go_wp2_with fail; have hb1 := below1 w (.cells #[.int .i64 a1, .int .i64 a2, .int .i64 i1, .int .i64 i2, .string me, .slice xa ar.length xc] 76); have k := heap_alloc_new w (.cells #[.int .i64 a1, .int .i64 a2, .int .i64 i1, .int .i64 i2, .string me, .slice xa ar.length xc] 76); generalize w.alloc _ = w1 at *; have z := (Array.getElem?_eq_some_iff.1 k).1; have m0 : ∀ w', Below w1.heap.size w1 w' → w'.cell? ⟨w.heap.size, 0, none⟩ = some (.int .i64 a1) := fun w' h => (cell_of_row _ _ 0 _ _ _ ((h.block _ z).trans k)).trans rfl; have m1 : ∀ w', Below w1.heap.size w1 w' → w'.cell? ⟨w.heap.size, 1, none⟩ = some (.int .i64 a2) := fun w' h => (cell_of_row _ _ 1 _ _ _ ((h.block _ z).trans k)).trans rfl; have m2 : ∀ w', Below w1.heap.size w1 w' → w'.cell? ⟨w.heap.size, 2, none⟩ = some (.int .i64 i1) := fun w' h => (cell_of_row _ _ 2 _ _ _ ((h.block _ z).trans k)).trans rfl; have m3 : ∀ w', Below w1.heap.size w1 w' → w'.cell? ⟨w.heap.size, 3, none⟩ = some (.int .i64 i2) := fun w' h => (cell_of_row _ _ 3 _ _ _ ((h.block _ z).trans k)).trans rfl; have m4 : ∀ w', Below w1.heap.size w1 w' → w'.cell? ⟨w.heap.size, 4, none⟩ = some (.string me) := fun w' h => (cell_of_row _ _ 4 _ _ _ ((h.block _ z).trans k)).trans rfl; have m5 : ∀ w', Below w1.heap.size w1 w' → w'.cell? ⟨w.heap.size, 5, none⟩ = some (.slice xa ar.length xc) := fun w' h => (cell_of_row _ _ 5 _ _ _ ((h.block _ z).trans k)).trans rfl; have r := Below.refl w1.heap.size w1; have HB1 := Lib.hid hb1; clear hb1 k z
          go_wp2_with (first | ((with_reducible refine (HI1.out _).mono ?_); rintro e w2 ⟨rfl, hb⟩; have r2 := r.trans (hb.mono r.size); clear hb) | ((with_reducible refine (HI2.out _).mono ?_); rintro e w3 ⟨rfl, hb⟩; have r3 := r2.trans (hb.mono r2.size); clear hb))
          go_ret
          exact ⟨by rw [HQ.out]; rfl, HB1.out.trans (r3.mono HB1.out.size)⟩
end Mb
end Go.Proofs.Ytddoepaplbnlcaa
