/- The walks of the laws LeaseCalls and LeaseOverdue. -/
import Derived.Test.YtmdconcbelmdpaaLsH
namespace Go.Proofs.Ytmdconcbelmdpaa
open Go.RowKit
namespace Ls
open In (vi conB)

def Yes (w : World) (e : Ending) (w' : World) : Prop := e = .returned (.bool true) ∧ Below w.heap.size w w'
def Yes2 (w : World) (e : Ending) (w' : World) : Prop := e = .returned (.bool true) ∧ Below w.heap.size w w'

set_option maxRecDepth 100000 in
set_option maxHeartbeats 1000000 in
theorem calls_law (m : Int) (C : Option Addr) (n cap : Nat) (cs : List Cl) (w : World) (hn : cs.length = n) (hnc : n ≤ cap) (hcm : cap ≤ maxLen) (hr : RdC w C cs) (hf : ∀ c ∈ cs, c.fits) :
    Calls Try.prog 3 #[.int .i64 m, .slice C n cap] w (Yes w) := by
  unfold maxLen at hcm
  have HN := Lib.hid hn
  have HR := Lib.hid hr
  have HF := Lib.hid hf
  clear hn hr hf
  by_cases h40 : n ≤ 40
  · go_enter Try.func3, Try.ntmps3
    go_wp2_with fail
    refine (awake_calls w).mono ?_
    rintro e w1 ⟨rfl, hb⟩
    have HB := Lib.hid hb
    clear hb
    go_wp2_with fail
    refine (run_calls m C n cap cs w1 HN.out h40 (HR.out.below HB.out) HF.out).mono ?_
    rintro e w2 ⟨g, v, rfl, hl, hr2, hb, _⟩
    have HL := Lib.hid hl
    have HR2 := Lib.hid hr2
    have HB2 := Lib.hid (HB.out.trans (hb.mono HB.out.size))
    obtain ⟨_, A, ca, B, cb, rfl, _, _⟩ := hr2
    clear hl hb
    generalize runs (fresh m) cs = L at *
    go_wp2_with fail
    refine (same_calls g _ L _ (HL.out.below (below1 _ _)) (HR2.out.below (below1 _ _))).mono ?_
    rintro e w3 ⟨rfl, hb⟩
    have HB3 := Lib.hid (HB2.out.trans (((below1 w2 _).trans (hb.mono (by simp))).mono HB2.out.size))
    clear hb
    go_wp2_with fail
    go_ret
    exact ⟨rfl, HB3.out⟩
  · go_enter Try.func3, Try.ntmps3
    go_wp2_with fail
    refine (awake_calls w).mono ?_
    rintro e w1 ⟨rfl, hb⟩
    have HB := Lib.hid hb
    clear hb
    go_wp2_with fail
    go_ret
    exact ⟨rfl, HB.out⟩

theorem ints_same (A B : Option Addr) (ca cb : Nat) (xs : List Int) (w : World) (hx : xs.length ≤ 9223372036854775807) (ra : Rd w A (xs.map vi)) (rb : Rd w B (xs.map vi)) :
    Calls Try.prog 13 #[.slice A xs.length ca, .slice B xs.length cb] w fun e w' => e = .returned (.bool true) ∧ Below w.heap.size w w' := by
  have h := In.ints_calls A B _ _ ca cb xs xs w rfl rfl hx hx ra rb
  rwa [show In.eqB xs xs = true by simp [In.eqB]] at h

set_option maxRecDepth 100000 in
set_option maxHeartbeats 2000000 in
theorem overdue_law (m : Int) (C : Option Addr) (n cap : Nat) (cs : List Cl) (tick : Int) (D : Option Addr) (n2 cap2 : Nat) (zs : List Int) (w : World) (hn : cs.length = n) (hnc : n ≤ cap) (hcm : cap ≤ maxLen) (hr : RdC w C cs) (hf : ∀ c ∈ cs, c.fits)
    (ht : tick ≤ 9223372036854775807) (hn2 : zs.length = n2) (_hnc2 : n2 ≤ cap2) (_hcm2 : cap2 ≤ maxLen) (hr2 : Rd w D (zs.map vi)) :
    Calls Try.prog 4 #[.int .i64 m, .slice C n cap, .int .i64 tick, .slice D n2 cap2] w (Yes w) := by
  unfold maxLen at hcm _hcm2
  have HN := Lib.hid hn
  have HR := Lib.hid hr
  have HF := Lib.hid hf
  have HN2 := Lib.hid hn2
  have HRD := Lib.hid hr2
  clear hn hr hf hn2 hr2
  by_cases h40 : n ≤ 40
  · by_cases h20 : n2 ≤ 20
    · go_enter Try.func4, Try.ntmps4
      go_wp2_with fail
      refine (awake_calls w).mono ?_
      rintro e w1 ⟨rfl, hb⟩
      have HB := Lib.hid hb
      clear hb
      go_wp2_with fail
      refine (run_calls m C n cap cs w1 HN.out h40 (HR.out.below HB.out) HF.out).mono ?_
      rintro e w2 ⟨g, v, rfl, hl, hr2, hb, _⟩
      have HL := Lib.hid hl
      have HR2 := Lib.hid hr2
      have HB2 := Lib.hid (HB.out.trans (hb.mono HB.out.size))
      obtain ⟨_, A, ca, B, cb, rfl, _, _⟩ := hr2
      clear hl hb
      generalize runs (fresh m) cs = L at *
      go_wp2_with fail
      have hmb := heap_alloc_new w2 (.cells #[.slice A L.m ca, .slice B L.m cb, .int .i64 L.c] 27)
      have hb3 := below1 w2 (.cells #[.slice A L.m ca, .slice B L.m cb, .int .i64 L.c] 27)
      generalize w2.alloc (.cells #[.slice A L.m ca, .slice B L.m cb, .int .i64 L.c] 27) = w3 at *
      have HL3 := Lib.hid (HL.out.below hb3)
      have HR3 := Lib.hid (HR2.out.below hb3)
      have HB3 := Lib.hid (HB2.out.trans (hb3.mono HB2.out.size))
      have HD3 := Lib.hid (HRD.out.below HB3.out)
      have hs : w2.heap.size < w3.heap.size := (Array.getElem?_eq_some_iff.1 hmb).1
      have m0 : ∀ w', Below w3.heap.size w3 w' → w'.cell? ⟨w2.heap.size, 0, none⟩ = some (.slice A L.m ca) := fun w' h => (cell_of_row _ _ 0 _ _ _ ((h.block _ hs).trans hmb)).trans rfl
      have m1 : ∀ w', Below w3.heap.size w3 w' → w'.cell? ⟨w2.heap.size, 1, none⟩ = some (.slice B L.m cb) := fun w' h => (cell_of_row _ _ 1 _ _ _ ((h.block _ hs).trans hmb)).trans rfl
      have m2 : ∀ w', Below w3.heap.size w3 w' → w'.cell? ⟨w2.heap.size, 2, none⟩ = some (.int .i64 L.c) := fun w' h => (cell_of_row _ _ 2 _ _ _ ((h.block _ hs).trans hmb)).trans rfl
      have H14 : ∀ w', Below w3.heap.size w3 w' → Hid (Calls Try.prog 14 #[.pointer (some ⟨g, 0, none⟩), .int .i64 tick, .slice D n2 cap2] w' fun e w'' => NewInts w' (od L tick zs L.m) e w'' ∧ Below w3.heap.size w3 w'') := fun w' h =>
        (overdue_calls g L tick D n2 cap2 zs w' (HL3.out.below h) HN2.out (by omega) (HD3.out.below h) ht).mono fun e w'' hh => ⟨hh, h.trans ((hh.choose_spec.choose_spec.2.2).mono h.size)⟩
      have H15 : ∀ w', Below w3.heap.size w3 w' → Hid (Calls Try.prog 15 #[.agg #[.slice A L.m ca, .slice B L.m cb, .int .i64 L.c], .int .i64 tick, .slice D n2 cap2] w' fun e w'' => NewInts w' (od L tick zs L.m) e w'' ∧ Below w3.heap.size w3 w'') := fun w' h =>
        (roverdue_calls _ L tick D n2 cap2 zs w' (HR3.out.below h) HN2.out (by omega) (HD3.out.below h) ht).mono fun e w'' hh => ⟨hh, h.trans ((hh.choose_spec.choose_spec.2.2).mono h.size)⟩
      have hlen := od_len L tick zs L.m
      have hm8 : L.m ≤ 8 := HL.out.2
      clear hmb hb3 HL HR2 HB2
      generalize od L tick zs L.m = xs at *
      go_region_held3 (fun w' => Below w3.heap.size w3 w') (first | exact (Below.refl _ _).drew | assumption) (first | (go_at_call 14; refine (H14 _ (by assumption)).out.mono ?_; rintro e wX ⟨⟨X, cX, rfl, hoX, hbX⟩, hsX⟩; obtain ⟨_, _, eX, _, _, _, rX⟩ := own_form hoX; cases eX; have RX := Lib.hid rX; have HBX := Lib.hid hbX; clear hoX hbX rX) | (go_at_call 15; refine (H15 _ (by assumption)).out.mono ?_; rintro e wY ⟨⟨Y, cY, rfl, hoY, hbY⟩, hsY⟩; obtain ⟨_, _, eY, _, _, _, rY⟩ := own_form hoY; cases eY; have RY := Lib.hid rY; have HBY := Lib.hid hbY; clear hoY hbY rY) | (go_at_call 13; refine (ints_same X Y cX cY xs _ (by omega) (by first | exact RX.out | exact RX.out.below HBY.out) (by first | exact RY.out | exact RY.out.below HBX.out)).mono ?_; rintro e wZ ⟨rfl, hbZ⟩; have hsZ : Below w3.heap.size w3 wZ := by first | exact hsY.trans (hbZ.mono hsY.size) | exact hsX.trans (hbZ.mono hsX.size)))
      all_goals
        have HBZ := Lib.hid (HB3.out.trans (hsZ.mono HB3.out.size))
        clear hsZ
        go_wp2_with fail
        go_ret
        exact ⟨rfl, HBZ.out⟩
    · go_enter Try.func4, Try.ntmps4
      go_wp2_with fail
      refine (awake_calls w).mono ?_
      rintro e w1 ⟨rfl, hb⟩
      have HB := Lib.hid hb
      clear hb
      go_wp2_with fail
      go_ret
      exact ⟨rfl, HB.out⟩
  · go_enter Try.func4, Try.ntmps4
    go_wp2_with fail
    refine (awake_calls w).mono ?_
    rintro e w1 ⟨rfl, hb⟩
    have HB := Lib.hid hb
    clear hb
    go_wp2_with fail
    go_ret
    exact ⟨rfl, HB.out⟩
end Ls
end Go.Proofs.Ytmdconcbelmdpaa
