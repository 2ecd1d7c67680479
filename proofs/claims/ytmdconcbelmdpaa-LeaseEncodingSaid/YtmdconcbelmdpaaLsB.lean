/- The walks of refmeshref26: New, Get. -/
import Derived.Test.YtmdconcbelmdpaaLsA
namespace Go.Proofs.Ytmdconcbelmdpaa
open Go.RowKit
namespace Ls

def ints (f : Nat → Int) (m : Nat) : List Value := (List.range m).map fun i => .int .i64 (f i)
theorem ints_length (f : Nat → Int) (m : Nat) : (ints f m).length = m := by simp [ints]
theorem ints_get (f : Nat → Int) (m i : Nat) (h : i < m) : (ints f m)[i]? = some (.int .i64 (f i)) := by simp [ints, h]
theorem ints_one (f : Nat → Int) (m : Nat) : ∀ u ∈ ints f m, u.oneCell' = true := by
  intro u hu
  simp only [ints, List.mem_map] at hu
  obtain ⟨i, _, rfl⟩ := hu
  rfl
theorem info_int : (Try.prog.info? 3).map (fun i => (i.zero, i.size, i.bytes)) = some (some (.int .i64 0), 1, 8) := by kernel_rfl

/-- the reference's value: two slices and the counter -/
def IsR (w : World) (v : Value) (L : St) : Prop :=
  L.m ≤ 8 ∧ ∃ A ca B cb, v = .agg #[.slice A L.m ca, .slice B L.m cb, .int .i64 L.c] ∧
    w.ownsRow 0 3 1 (.slice A L.m ca) L.m (ints L.t L.m) ∧ w.ownsRow 0 3 1 (.slice B L.m cb) L.m (ints L.r L.m)

theorem IsR.below {w w' : World} {v : Value} {L : St} (h : IsR w v L) (hb : Below w.heap.size w w') : IsR w' v L := by
  obtain ⟨hm, A, ca, B, cb, rfl, h1, h2⟩ := h
  exact ⟨hm, A, ca, B, cb, rfl, own_below h1 hb, own_below h2 hb⟩
theorem IsR.chg {w w' : World} {v : Value} {L M : St} {g : Nat} (h : IsR w v L) (hL : IsL w g M) (hc : Chg [g] w w') : IsR w' v L := by
  obtain ⟨hm, A, ca, B, cb, rfl, h1, h2⟩ := h
  exact ⟨hm, A, ca, B, cb, rfl, hc.own h1 (own_ne h1 hL.1 (by decide)), hc.own h2 (own_ne h2 hL.1 (by decide))⟩
theorem IsL.below {w w' : World} {g : Nat} {L : St} (h : IsL w g L) (hb : Below w.heap.size w w') : IsL w' g L :=
  ⟨(hb.block g (Array.getElem?_eq_some_iff.1 h.1).1).trans h.1, h.2⟩

theorem made_ints (n : Nat) : (madeCells #[.int .i64 0] n).toList = ints (fun _ => 0) n := by
  rw [toList_madeCells_one]
  apply List.ext_getElem?
  intro i
  by_cases h : i < n
  · simp [ints, h]
  · simp [ints, h]

set_option maxRecDepth 100000 in
theorem rnew_calls (n : Int) (w : World) :
    Calls Try.prog 19 #[.int .i64 n] w fun e w' => ∃ v, e = .returned v ∧ IsR w' v (fresh n) ∧ Below w.heap.size w w' := by
  obtain ⟨i0, hi, hz0, hz1, hz2⟩ := info_parts info_int
  have hmm : min (max n 0) 8 = (mach n : Int) := by unfold mach; omega
  have hm8 : mach n ≤ 8 := by unfold mach; omega
  have hmk : ∀ u : World, (Instr.makeSlice 25 (.int .i64 (mach n)) (.int .i64 (mach n))).run Try.prog u =
      .ok (.slice (some ⟨u.heap.size, 0, none⟩) (mach n) (mach n)) (u.alloc (.cells (madeCells #[.int .i64 0] (mach n)) 3)) := fun u => by
    have h := run_make (P := Try.prog) u 25 3 i0 (.int .i64 0) Try.underlying25 hi hz0 .i64 .i64 (mach n) (mach n) (by omega) (Int.le_refl _) (by rw [hz2]; omega) (by omega)
    simpa [hz1, Value.cells] using h
  have HF : Hid (fresh n = { m := mach n, t := fun _ => 0, r := fun _ => 0, c := 0 }) := rfl
  generalize mach n = m at *
  clear hi hz0 hz1 hz2
  go_enter Try.func19, Try.ntmps19
  go_wp2_with fail
  have hown : ∀ (u : World) (b : Nat), u.heap[b]? = some (.cells (madeCells #[.int .i64 0] m) 3 (0, 0)) → u.ownsRow 0 3 1 (.slice (some ⟨b, 0, none⟩) m m) m (ints (fun _ => 0) m) := fun u b hb =>
    ⟨by simp [ints_length], .inr ⟨b, m, _, rfl, Nat.zero_le _, hb, Nat.le_refl _, by simp only [maxLen]; omega, by simp [size_madeCells], by rw [made_ints, List.take_of_length_le (by simp [ints_length])]⟩⟩
  have HO := Lib.hid hown
  clear hown
  go_region
  all_goals
    go_wp2_with fail
    refine bodyPost_ret (results_cell_row rfl _ _ w.heap.size 27 _ (0, 0) _ rfl (heap3_a _ _ _ _) Try.underlying27 rfl (by kernel_rfl)) rfl ⟨_, rfl, ?_, below3 _ _ _ _⟩
    rw [HF.out]
  · exact ⟨hm8, _, _, _, _, rfl, HO.out _ _ (heap3_b _ _ _ _), HO.out _ _ (heap3_c _ _ _ _)⟩
  · exact ⟨hm8, _, _, _, _, rfl, HO.out _ _ (heap3_c _ _ _ _), HO.out _ _ (heap3_b _ _ _ _)⟩

/-- what Get returns -/
theorem getB_eq (L : St) (cl : Int) : hasB L cl = decide (¬ cl < 1 ∧ ¬ (L.m : Int) < cl) := by
  unfold hasB; congr 1; apply propext; omega

set_option maxRecDepth 100000 in
theorem get_calls (v : Value) (L : St) (cl : Int) (w : World) (h : IsR w v L) :
    Calls Try.prog 28 #[v, .int .i64 cl] w fun e w' => e = .returned (.tuple #[.int .i64 (lastI L cl), .int .i64 (roundI L cl)]) ∧ Below w.heap.size w w' := by
  obtain ⟨hm8, A, ca, B, cb, rfl, hA, hB⟩ := h
  cases hh : hasB L cl
  · have HE : Hid (lastI L cl = 0 ∧ roundI L cl = 0) := by constructor <;> simp [lastI, roundI, hh]
    rw [HE.out.1, HE.out.2]
    have hc : decide (cl < 1) = true ∨ (decide (cl < 1) = false ∧ decide ((L.m : Int) < cl) = true) := by
      unfold hasB at hh
      simp only [decide_eq_false_iff_not] at hh
      simp only [decide_eq_true_eq, decide_eq_false_iff_not]; omega
    clear HE hh hA hB
    rcases hc with d1 | ⟨d1, d2⟩
    all_goals
      go_enter Try.func28, Try.ntmps28
      go_wp2
      go_ret2
      exact ⟨rfl, (Below.refl _ _).alloc (Nat.le_refl _) _⟩
  · have hb := hh
    unfold hasB at hb
    simp only [decide_eq_true_eq] at hb
    obtain ⟨i, rfl⟩ : ∃ i : Nat, cl = (i : Int) + 1 := ⟨(cl - 1).toNat, by omega⟩
    have him : i < L.m := by omega
    have HE : Hid (lastI L ((i : Int) + 1) = L.t i ∧ roundI L ((i : Int) + 1) = L.r i) := by
      constructor
      · unfold lastI; rw [hh]; simp
      · unfold roundI; rw [hh]; simp
    rw [HE.out.1, HE.out.2]
    have d1 : decide ((i : Int) + 1 < 1) = false := by simp; omega
    have d2 : decide ((L.m : Int) < (i : Int) + 1) = false := by simp; omega
    obtain ⟨_, _, e1, _, _, _, rA⟩ := own_form hA
    cases e1
    obtain ⟨_, _, e2, _, _, _, rB⟩ := own_form hB
    cases e2
    obtain ⟨ba, oa, rfl, ha, cA⟩ := Rd.cells rA (by rw [ints_length]; omega)
    obtain ⟨bb, ob, rfl, hb', cB⟩ := Rd.cells rB (by rw [ints_length]; omega)
    have x1 := cA i _ (ints_get L.t L.m i him)
    have x2 := cB i _ (ints_get L.r L.m i him)
    have i0 : (0 : Int) ≤ (i : Int) := by omega
    have i1 : (i : Int) < (L.m : Int) := by omega
    clear HE hh hA hB rA rB cA cB hb
    generalize L.t i = tt at *
    generalize L.r i = rr at *
    generalize L.m = mm at *
    go_enter Try.func28, Try.ntmps28
    go_wp2
    go_quiet (fail)
    go_wp2
    go_ret2
    exact ⟨rfl, blw_drewN ((Below.refl _ _).alloc (Nat.le_refl _) _) _⟩
end Ls
end Go.Proofs.Ytmdconcbelmdpaa
