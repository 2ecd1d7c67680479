/- The walks of package lease's plain methods. -/
import Derived.Test.YtmdconcbelmdpaaRows
import Derived.Test.YtmdconcbelmdpaaMem
import Derived.Outline
import Derived.WalkLawsBesides
import Derived.WalkSpells
import Derived.Deep.DeepFit
import Derived.Deep.WholeRow
import Derived.Deep.QuietTactic
import Derived.BigQuiet
import Derived.Deep.RegionHeld3
import Derived.Deep.RegionWith
import Derived.Lib.MinMax
namespace Go.Proofs.Ytmdconcbelmdpaa
open Go.RowKit
namespace Ls

/-- what leases hold: the machines, ticks, rounds, the counter -/
structure St where
  m : Nat
  t : Nat → Int
  r : Nat → Int
  c : Int

def cell (L : St) (j : Nat) : Value :=
  if j = 0 then .int .i64 L.m else if j = 17 then .int .i64 L.c else if (j - 1) % 2 = 0 then .int .i64 (L.t ((j - 1) / 2)) else .int .i64 (L.r ((j - 1) / 2))
def cellsL (L : St) : List Value := (List.range 18).map (cell L)
/-- block g holds leases -/
def IsL (w : World) (g : Nat) (L : St) : Prop := w.heap[g]? = some (.cells (cellsL L).toArray 63 (0, 0)) ∧ L.m ≤ 8

section
variable {w w' : World} {g : Nat} {L : St}
theorem IsL.at (h : IsL w g L) (j : Nat) (hj : j < 18) : w.cell? ⟨g, j, none⟩ = some (cell L j) := by
  rw [cell_of_row _ _ _ _ _ _ h.1]; simp [cellsL, hj]
theorem IsL.frozen (h : IsL w g L) (j : Nat) : w.frozen? ⟨g, j, none⟩ = false := frozen_of_row _ _ _ _ _ h.1
theorem IsL.machines (h : IsL w g L) : w.cell? ⟨g, 0, none⟩ = some (.int .i64 L.m) := h.at 0 (by omega)
theorem IsL.counter (h : IsL w g L) : w.cell? ⟨g, 17, none⟩ = some (.int .i64 L.c) := h.at 17 (by omega)
theorem IsL.tick (h : IsL w g L) (i : Nat) (hi : i < 8) : w.cell? ⟨g, 1 + i * 2, none⟩ = some (.int .i64 (L.t i)) := by
  rw [h.at _ (by omega)]; unfold cell
  rw [if_neg (by omega), if_neg (by omega), if_pos (by omega), show (1 + i * 2 - 1) / 2 = i by omega]
theorem IsL.round (h : IsL w g L) (i : Nat) (hi : i < 8) : w.cell? ⟨g, 1 + i * 2 + 1, none⟩ = some (.int .i64 (L.r i)) := by
  rw [h.at _ (by omega)]; unfold cell
  rw [if_neg (by omega), if_neg (by omega), if_neg (by omega), show (1 + i * 2 + 1 - 1) / 2 = i by omega]
end

/-- is a number one of the machines? -/
def hasB (L : St) (c : Int) : Bool := decide (1 ≤ c ∧ c ≤ L.m)

theorem has_calls (g : Nat) (L : St) (c : Int) (w : World) (h : IsL w g L) :
    Calls Try.prog 30 #[.pointer (some ⟨g, 0, none⟩), .int .i64 c] w fun e w' => e = .returned (.bool (hasB L c)) ∧ w = w' := by
  have hm := h.machines
  by_cases h1 : 1 ≤ c
  · by_cases h2 : c ≤ L.m
    · have hd : hasB L c = true := by simp [hasB, h1, h2]
      rw [hd]
      clear hd
      have d1 : decide (1 ≤ c) = true := by simpa using h1
      have d2 : decide (c ≤ (L.m : Int)) = true := by simpa using h2
      go_enter Try.func30, Try.ntmps30
      go_wp2
      go_ret
      exact ⟨rfl, rfl⟩
    · have hd : hasB L c = false := by simp [hasB, h2]
      rw [hd]
      clear hd
      have d1 : decide (1 ≤ c) = true := by simpa using h1
      have d2 : decide (c ≤ (L.m : Int)) = false := by simpa using h2
      go_enter Try.func30, Try.ntmps30
      go_wp2
      go_ret
      exact ⟨rfl, rfl⟩
  · have hd : hasB L c = false := by simp [hasB, h1]
    rw [hd]
    clear hd
    have d1 : decide (1 ≤ c) = false := by simpa using h1
    go_enter Try.func30, Try.ntmps30
    go_wp2
    go_ret
    exact ⟨rfl, rfl⟩

/-- the machines of a new value -/
def mach (n : Int) : Nat := (min (max n 0) 8).toNat
def fresh (n : Int) : St := { m := mach n, t := fun _ => 0, r := fun _ => 0, c := 0 }
theorem fresh_cells (n : Int) : (cellsL (fresh n)).toArray = #[.int .i64 (mach n), .int .i64 0, .int .i64 0, .int .i64 0, .int .i64 0, .int .i64 0, .int .i64 0, .int .i64 0, .int .i64 0, .int .i64 0, .int .i64 0, .int .i64 0, .int .i64 0, .int .i64 0, .int .i64 0, .int .i64 0, .int .i64 0, .int .i64 0] := rfl

theorem new_calls (n : Int) (w : World) :
    Calls Try.prog 18 #[.int .i64 n] w fun e w' => e = .returned (.pointer (some ⟨w.heap.size, 0, none⟩)) ∧ IsL w' w.heap.size (fresh n) ∧ Below w.heap.size w w' := by
  have hmm : min (max n 0) 8 = (mach n : Int) := by unfold mach; omega
  go_enter Try.func18, Try.ntmps18
  go_wp2
  go_ret
  refine ⟨rfl, ⟨?_, ?_⟩, (Below.refl _ _).alloc (Nat.le_refl _) _⟩
  · rw [fresh_cells]; exact heap_alloc_new _ _
  · show mach n ≤ 8; unfold mach; omega

/-- is a call of Heard valid? -/
def okB (L : St) (cl ro ti : Int) : Bool := hasB L cl && decide (1 ≤ ro) && decide (0 ≤ ti)
/-- the state after Heard -/
def hear (L : St) (cl ro ti : Int) : St :=
  if okB L cl ro ti then { L with t := fun i => if (i : Int) + 1 = cl then max (L.t i) ti else L.t i, r := fun i => if (i : Int) + 1 = cl then max (L.r i) ro else L.r i } else L
def hearE (L : St) (cl ro ti : Int) : Int := if okB L cl ro ti then 0 else 1

theorem set_cells (L : St) (i : Nat) (ro ti : Int) (hi : i < 8) :
    ((cellsL L).toArray.setIfInBounds (1 + i * 2) (.int .i64 (max (L.t i) ti))).setIfInBounds (1 + i * 2 + 1) (.int .i64 (max (L.r i) ro)) =
      (cellsL { L with t := fun k => if (k : Int) + 1 = (i : Int) + 1 then max (L.t k) ti else L.t k, r := fun k => if (k : Int) + 1 = (i : Int) + 1 then max (L.r k) ro else L.r k }).toArray := by
  apply Array.ext_getElem?
  intro j
  rw [Array.getElem?_setIfInBounds, Array.getElem?_setIfInBounds]
  by_cases hj : j < 18
  · simp only [cellsL, List.getElem?_toArray, List.getElem?_map, List.getElem?_range hj, Option.map_some, Array.size_setIfInBounds, List.size_toArray, List.length_map, List.length_range]
    by_cases h1 : 1 + i * 2 + 1 = j
    · subst h1
      rw [if_pos rfl, if_pos hj]
      unfold cell
      rw [if_neg (by omega), if_neg (by omega), if_neg (by omega), show (1 + i * 2 + 1 - 1) / 2 = i by omega]
      simp
    · rw [if_neg h1]
      by_cases h2 : 1 + i * 2 = j
      · subst h2
        rw [if_pos rfl, if_pos hj]
        unfold cell
        rw [if_neg (by omega), if_neg (by omega), if_pos (by omega), show (1 + i * 2 - 1) / 2 = i by omega]
        simp
      · rw [if_neg h2]
        unfold cell
        by_cases h0 : j = 0
        · rw [if_pos h0, if_pos h0]
        · by_cases h17 : j = 17
          · rw [if_neg h0, if_neg h0, if_pos h17, if_pos h17]
          · rw [if_neg h0, if_neg h0, if_neg h17, if_neg h17]
            have hne : ¬ (((j - 1) / 2 : Nat) : Int) + 1 = (i : Int) + 1 := by omega
            simp only [hne, if_false]
  · rw [if_neg (by omega), if_neg (by omega)]
    simp [cellsL, hj]

theorem hear_ok (L : St) (i : Nat) (ro ti : Int) (h : okB L ((i : Int) + 1) ro ti = true) :
    hear L ((i : Int) + 1) ro ti = { L with t := fun k => if (k : Int) + 1 = (i : Int) + 1 then max (L.t k) ti else L.t k, r := fun k => if (k : Int) + 1 = (i : Int) + 1 then max (L.r k) ro else L.r k } := by
  unfold hear; rw [h]; rfl

set_option maxRecDepth 100000 in
theorem heard_calls (g : Nat) (L : St) (cl ro ti : Int) (w : World) (h : IsL w g L) (_hb : cl ≤ 9223372036854775807) (_hb2 : -9223372036854775808 ≤ cl) :
    Calls Try.prog 16 #[.pointer (some ⟨g, 0, none⟩), .int .i64 cl, .int .i64 ro, .int .i64 ti] w fun e w' =>
      e = .returned (.int .i64 (hearE L cl ro ti)) ∧ IsL w' g (hear L cl ro ti) ∧ Chg [g] w w' := by
  have HH := Lib.hid (has_calls g L cl w h)
  cases hok : okB L cl ro ti
  · have HE : Hid (hearE L cl ro ti = 1 ∧ hear L cl ro ti = L) := by constructor <;> simp [hearE, hear, hok]
    rw [HE.out.1, HE.out.2]
    have HI := Lib.hid h
    have hc : hasB L cl = false ∨ (hasB L cl = true ∧ decide (ro < 1) = true) ∨ (hasB L cl = true ∧ decide (ro < 1) = false ∧ decide (ti < 0) = true) := by
      unfold okB at hok
      cases hh : hasB L cl
      · exact .inl rfl
      · rw [hh] at hok
        simp only [Bool.true_and, Bool.and_eq_false_iff, decide_eq_false_iff_not] at hok
        simp only [decide_eq_true_eq, decide_eq_false_iff_not]
        right
        by_cases hr : ro < 1
        · exact .inl ⟨trivial, hr⟩
        · exact .inr ⟨trivial, hr, by omega⟩
    clear HE hok h
    rcases hc with hh | ⟨hh, d1⟩ | ⟨hh, d1, d2⟩
    all_goals
      rw [hh] at HH
      clear hh
      go_enter Try.func16, Try.ntmps16
      go_wp2_with fail
      refine HH.out.mono ?_
      rintro e w' ⟨rfl, rfl⟩
      go_wp2_with fail
      go_ret
      exact ⟨rfl, HI.out, Chg.refl _ _⟩
  · have hok' := hok
    unfold okB at hok'
    simp only [Bool.and_eq_true, decide_eq_true_eq] at hok'
    obtain ⟨⟨hh, hro⟩, hti⟩ := hok'
    have hb := hh
    unfold hasB at hb
    simp only [decide_eq_true_eq] at hb
    rw [hh] at HH
    have hm8 := h.2
    obtain ⟨i, rfl⟩ : ∃ i : Nat, cl = (i : Int) + 1 := ⟨(cl - 1).toNat, by omega⟩
    have hi : i < 8 := by omega
    have HEq := Lib.hid (hear_ok L i ro ti hok)
    have HE : Hid (hearE L ((i : Int) + 1) ro ti = 0) := by simp [hearE, hok, Hid]
    rw [HE.out]
    have d1 : decide (ro < 1) = false := by simp; omega
    have d2 : decide (ti < 0) = false := by simp; omega
    have c1 := h.tick i hi
    have c2 := h.round i hi
    have f1 := h.frozen (1 + i * 2)
    have f2 := h.frozen (1 + i * 2 + 1)
    have HI := Lib.hid h
    clear h hh hok HE hb
    go_enter Try.func16, Try.ntmps16
    go_wp2_with fail
    refine HH.out.mono ?_
    rintro e w' ⟨rfl, rfl⟩
    go_wp2_with fail
    go_region
    go_wp2_with fail
    go_ret
    refine ⟨rfl, ⟨?_, ?_⟩, ((Chg.refl [g] w).setCell (p := ⟨g, 1 + i * 2, none⟩) (.inl (by simp)) _).setCell (p := ⟨g, 1 + i * 2 + 1, none⟩) (.inl (by simp)) _ |>.drew⟩
    · rw [HEq.out, ← set_cells L i ro ti hi]
      exact heap_setCell_same _ _ _ _ _ _ (heap_setCell_same _ _ _ _ _ _ HI.out.1)
    · rw [HEq.out]; exact hm8

/-- what Last and Round return -/
def lastI (L : St) (cl : Int) : Int := if hasB L cl then L.t (cl - 1).toNat else 0
def roundI (L : St) (cl : Int) : Int := if hasB L cl then L.r (cl - 1).toNat else 0

theorem last_calls (g : Nat) (L : St) (cl : Int) (w : World) (h : IsL w g L) :
    Calls Try.prog 17 #[.pointer (some ⟨g, 0, none⟩), .int .i64 cl] w fun e w' => e = .returned (.int .i64 (lastI L cl)) ∧ w = w' := by
  have HH := Lib.hid (has_calls g L cl w h)
  cases hh : hasB L cl
  · have HE : Hid (lastI L cl = 0) := by simp [lastI, hh, Hid]
    rw [HE.out]
    rw [hh] at HH
    clear hh HE h
    go_enter Try.func17, Try.ntmps17
    go_wp2_with fail
    refine HH.out.mono ?_
    rintro e w' ⟨rfl, rfl⟩
    go_wp2_with fail
    go_ret
    exact ⟨rfl, rfl⟩
  · have hb := hh
    unfold hasB at hb
    simp only [decide_eq_true_eq] at hb
    rw [hh] at HH
    have hm8 := h.2
    obtain ⟨i, rfl⟩ : ∃ i : Nat, cl = (i : Int) + 1 := ⟨(cl - 1).toNat, by omega⟩
    have hi : i < 8 := by omega
    have HE : Hid (lastI L ((i : Int) + 1) = L.t i) := by
      show _ = _; unfold lastI; rw [hh]; simp
    rw [HE.out]
    have c1 := h.tick i hi
    clear hh HE h hb
    go_enter Try.func17, Try.ntmps17
    go_wp2_with fail
    refine HH.out.mono ?_
    rintro e w' ⟨rfl, rfl⟩
    go_wp2_with fail
    go_ret
    exact ⟨rfl, rfl⟩

theorem round_calls (g : Nat) (L : St) (cl : Int) (w : World) (h : IsL w g L) :
    Calls Try.prog 20 #[.pointer (some ⟨g, 0, none⟩), .int .i64 cl] w fun e w' => e = .returned (.int .i64 (roundI L cl)) ∧ w = w' := by
  have HH := Lib.hid (has_calls g L cl w h)
  cases hh : hasB L cl
  · have HE : Hid (roundI L cl = 0) := by simp [roundI, hh, Hid]
    rw [HE.out]
    rw [hh] at HH
    clear hh HE h
    go_enter Try.func20, Try.ntmps20
    go_wp2_with fail
    refine HH.out.mono ?_
    rintro e w' ⟨rfl, rfl⟩
    go_wp2_with fail
    go_ret
    exact ⟨rfl, rfl⟩
  · have hb := hh
    unfold hasB at hb
    simp only [decide_eq_true_eq] at hb
    rw [hh] at HH
    have hm8 := h.2
    obtain ⟨i, rfl⟩ : ∃ i : Nat, cl = (i : Int) + 1 := ⟨(cl - 1).toNat, by omega⟩
    have hi : i < 8 := by omega
    have HE : Hid (roundI L ((i : Int) + 1) = L.r i) := by
      show _ = _; unfold roundI; rw [hh]; simp
    rw [HE.out]
    have c1 := h.round i hi
    clear hh HE h hb
    go_enter Try.func20, Try.ntmps20
    go_wp2_with fail
    refine HH.out.mono ?_
    rintro e w' ⟨rfl, rfl⟩
    go_wp2_with fail
    go_ret
    exact ⟨rfl, rfl⟩

theorem set_counter (L : St) (c : Int) : (cellsL L).toArray.setIfInBounds 17 (.int .i64 c) = (cellsL { L with c := c }).toArray := by
  apply Array.ext_getElem?
  intro j
  rw [Array.getElem?_setIfInBounds]
  by_cases hj : j < 18
  · simp only [cellsL, List.getElem?_toArray, List.getElem?_map, List.getElem?_range hj, Option.map_some, List.size_toArray, List.length_map, List.length_range]
    by_cases h1 : 17 = j
    · subst h1; simp [cell]
    · rw [if_neg h1]
      unfold cell
      rw [if_neg (show ¬ j = 17 by omega), if_neg (show ¬ j = 17 by omega)]
  · rw [if_neg (by omega)]
    simp [cellsL, hj]

theorem next_calls (g : Nat) (L : St) (w : World) (h : IsL w g L) (hc : -9223372036854775808 ≤ L.c) (hc2 : L.c < 9223372036854775807) :
    Calls Try.prog 21 #[.pointer (some ⟨g, 0, none⟩)] w fun e w' => e = .returned (.int .i64 (L.c + 1)) ∧ IsL w' g { L with c := L.c + 1 } ∧ Chg [g] w w' := by
  have c1 := h.counter
  have f1 := h.frozen 17
  have HI := Lib.hid h
  have HS := Lib.hid (set_counter L (L.c + 1))
  clear h
  go_enter Try.func21, Try.ntmps21
  go_wp2_with fail
  go_ret
  refine ⟨rfl, ⟨?_, HI.out.2⟩, (Chg.refl [g] w).setCell (p := ⟨g, 17, none⟩) (.inl (by simp)) _⟩
  rw [← HS.out]
  exact heap_setCell_same _ _ _ _ _ _ HI.out.1
end Ls
end Go.Proofs.Ytmdconcbelmdpaa
