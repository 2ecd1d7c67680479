/- The walk of the law LeaseMonotone. -/
import Derived.Test.YtmdconcbelmdpaaLsJ
namespace Go.Proofs.Ytmdconcbelmdpaa
open Go.RowKit
namespace Ls
open In (vi conB)

theorem made_arr (n : Nat) : madeCells #[.int .i64 0] n = (ints (fun _ => 0) n).toArray := by
  rw [← made_ints]

def NewA (w : World) (m : Nat) (e : Ending) (w' : World) : Prop :=
  ∃ g1 g2 : Nat, e = .returned (.agg #[.slice (some ⟨g1, 0, none⟩) m m, .slice (some ⟨g2, 0, none⟩) m m, .int .i64 0]) ∧ g1 ≠ g2 ∧ w.heap.size ≤ g1 ∧ w.heap.size ≤ g2 ∧
    w'.heap[g1]? = some (.cells (ints (fun _ => 0) m).toArray 3 (0, 0)) ∧ w'.heap[g2]? = some (.cells (ints (fun _ => 0) m).toArray 3 (0, 0)) ∧ Below w.heap.size w w'

set_option maxRecDepth 100000 in
theorem rnewA_calls (n : Int) (w : World) : Calls Try.prog 19 #[.int .i64 n] w (NewA w (mach n)) := by
  obtain ⟨i0, hi, hz0, hz1, hz2⟩ := info_parts info_int
  have hmm : min (max n 0) 8 = (mach n : Int) := by unfold mach; omega
  have hm8 : mach n ≤ 8 := by unfold mach; omega
  have hmk : ∀ u : World, (Instr.makeSlice 25 (.int .i64 (mach n)) (.int .i64 (mach n))).run Try.prog u =
      .ok (.slice (some ⟨u.heap.size, 0, none⟩) (mach n) (mach n)) (u.alloc (.cells (madeCells #[.int .i64 0] (mach n)) 3)) := fun u => by
    have h := run_make (P := Try.prog) u 25 3 i0 (.int .i64 0) Try.underlying25 hi hz0 .i64 .i64 (mach n) (mach n) (by omega) (Int.le_refl _) (by rw [hz2]; omega) (by omega)
    simpa [hz1, Value.cells] using h
  have HA := Lib.hid (made_arr (mach n))
  generalize mach n = m at *
  generalize madeCells #[.int .i64 0] m = mc at *
  clear hi hz0 hz1 hz2
  go_enter Try.func19, Try.ntmps19
  go_wp2_with fail
  go_region
  all_goals
    go_wp2_with fail
    refine bodyPost_ret (results_cell_row rfl _ _ w.heap.size 27 _ (0, 0) _ rfl (heap3_a _ _ _ _) Try.underlying27 rfl (by kernel_rfl)) rfl ?_
    rw [HA.out]
  · exact ⟨_, _, rfl, by omega, by omega, by omega, heap3_b _ _ _ _, heap3_c _ _ _ _, below3 _ _ _ _⟩
  · exact ⟨_, _, rfl, by omega, by omega, by omega, heap3_c _ _ _ _, heap3_b _ _ _ _, below3 _ _ _ _⟩
theorem rnew8_calls (w : World) : Calls Try.prog 19 #[.int .i64 8] w (NewA w 8) := rnewA_calls 8 w

/-- the first j of eight numbers -/
def pre (f : Int → Int) (j : Nat) : Nat → Int := fun i => if i < j then f ((i : Int) + 1) else 0
theorem pre_set (f : Int → Int) (j : Nat) : (ints (pre f j) 8).toArray.setIfInBounds j (.int .i64 (f ((j : Int) + 1))) = (ints (pre f (j + 1)) 8).toArray := by
  apply Array.ext_getElem?
  intro k
  rw [Array.getElem?_setIfInBounds]
  simp only [List.getElem?_toArray, List.size_toArray, ints_length]
  by_cases hk : k < 8
  · rw [ints_get _ _ _ hk, ints_get _ _ _ hk]
    by_cases h : j = k
    · subst h; simp [hk, pre]
    · rw [if_neg h]
      unfold pre
      by_cases h2 : k < j
      · rw [if_pos h2, if_pos (by omega)]
      · rw [if_neg h2, if_neg (by omega)]
  · have h1 : ∀ f' : Nat → Int, (ints f' 8)[k]? = none := fun f' => List.getElem?_eq_none (by rw [ints_length]; omega)
    rw [h1, h1]
    by_cases h : j = k
    · rw [if_pos h, if_neg (by omega)]
    · rw [if_neg h]
theorem pre_zero (f : Int → Int) : (ints (pre f 0) 8).toArray = (ints (fun _ => 0) 8).toArray := rfl

/-- what the law keeps: the values before, and the state -/
def Mono (w : World) (g g1 g2 Bx : Nat) (L M : St) (j : Nat) (wr : World) : Prop :=
  At w g M wr ∧ wr.heap[g1]? = some (.cells (ints (pre (lastI L) j) 8).toArray 3 (0, 0)) ∧ wr.heap[g2]? = some (.cells (ints (pre (roundI L) j) 8).toArray 3 (0, 0)) ∧
    wr.heap[Bx]? = some (.cells #[.slice (some ⟨g1, 0, none⟩) 8 8, .slice (some ⟨g2, 0, none⟩) 8 8, .int .i64 0] 27 (0, 0))

def Later (L M : St) (cl : Int) : Prop := ∀ c, (c ≠ cl → lastI M c = lastI L c ∧ roundI M c = roundI L c) ∧ lastI L c ≤ lastI M c ∧ roundI L c ≤ roundI M c
theorem later_hear (L : St) (cl ro ti : Int) : Later L (hear L cl ro ti) cl := fun c => ⟨fun h => ⟨hear_last_ne L cl ro ti c h, hear_round_ne L cl ro ti c h⟩, hear_last_le L cl ro ti c, hear_round_le L cl ro ti c⟩
theorem later_refl (L : St) (cl : Int) : Later L L cl := fun _ => ⟨fun _ => ⟨rfl, rfl⟩, Int.le_refl _, Int.le_refl _⟩

set_option maxRecDepth 100000 in
set_option maxHeartbeats 4000000 in
theorem monotone_law (m : Int) (C : Option Addr) (n cap : Nat) (cs : List Cl) (w : World) (hn : cs.length = n) (hnc : n ≤ cap) (hcm : cap ≤ maxLen) (hr : RdC w C cs) (hf : ∀ c ∈ cs, c.fits) :
    Calls Try.prog 6 #[.int .i64 m, .slice C n cap] w (Yes w) := by
  unfold maxLen at hcm
  have HN := Lib.hid hn
  have HR := Lib.hid hr
  have HF := Lib.hid hf
  clear hn hr hf
  by_cases h40 : n ≤ 40
  · have d40 : decide ((40 : Int) < (n : Int)) = false := by simp; omega
    go_enter Try.func6, Try.ntmps6
    go_wp2_with fail
    refine (awake_calls w).mono ?_
    rintro e w1 ⟨rfl, hb⟩
    have HB := Lib.hid hb
    clear hb
    go_wp2_with fail
    refine (new_calls m w1).mono ?_
    rintro e w2 ⟨rfl, hl, hb⟩
    have H2 : Hid (At w w1.heap.size (fresh m) w2) := ⟨hl, HB.out.trans (hb.mono HB.out.size)⟩
    have hgw : w.heap.size ≤ w1.heap.size := HB.out.size
    clear hl hb HB
    generalize w1.heap.size = g at *
    go_wp2_with fail
    go_loopw [6] (fun i wr => ∃ k : Nat, k ≤ n ∧ i = .int .i64 k ∧ ∃ L : St, At w g L wr) (fun i _ => n - (intOf i).toNat)
    case atStart => exact ⟨0, Nat.zero_le _, rfl, _, H2.out⟩
    case round =>
      obtain ⟨k, hk, rfl, L, hat⟩ := hrel
      have HAt := Lib.hid hat
      clear hat
      obtain ⟨wo, rfl⟩ : ∃ wo : World, wo = wr := ⟨_, rfl⟩
      by_cases hlt : k < n
      · have hkl : k < cs.length := by have := HN.out; omega
        have hfk := HF.out cs[k] (List.getElem_mem hkl)
        obtain ⟨hf1, hf2⟩ := hfk
        have i0 : (0 : Int) ≤ (k : Int) := by omega
        have i1 : (k : Int) < (n : Int) := by omega
        obtain ⟨b, off, rfl, _⟩ := HR.out.cells (by omega)
        have hcells := fun w' (h : Below w.heap.size w w') => RdC.at' (HR.out.below h) k hkl
        have HX0 : Hid (∀ w', Below w.heap.size w w' → w'.cell? ⟨b, off + k * 4, none⟩ = some (vb cs[k].kind)) := fun w' h => (hcells w' h).1
        have HX1 : Hid (∀ w', Below w.heap.size w w' → w'.cell? ⟨b, off + k * 4 + 1, none⟩ = some (.int .i64 cs[k].cl)) := fun w' h => (hcells w' h).2.1
        have HX2 : Hid (∀ w', Below w.heap.size w w' → w'.cell? ⟨b, off + k * 4 + 2, none⟩ = some (.int .i64 cs[k].ro)) := fun w' h => (hcells w' h).2.2.1
        have HX3 : Hid (∀ w', Below w.heap.size w w' → w'.cell? ⟨b, off + k * 4 + 3, none⟩ = some (.int .i64 cs[k].ti)) := fun w' h => (hcells w' h).2.2.2
        clear hcells
        generalize cs[k] = c at *
        obtain ⟨kd, cl, ro, ti⟩ := c
        simp only at HX0 HX1 HX2 HX3 hf1 hf2
        go_wp2_with fail
        refine (rnew8_calls wo).mono ?_
        rintro e w3 ⟨g1, g2, rfl, hne, hg1, hg2, hh1, hh2, hb⟩
        have h1s := (Array.getElem?_eq_some_iff.1 hh1).1
        have h2s := (Array.getElem?_eq_some_iff.1 hh2).1
        have hgs : g < wo.heap.size := (Array.getElem?_eq_some_iff.1 HAt.out.1.1).1
        have H3 := Lib.hid (HAt.out.below hb)
        have Hh1 := Lib.hid hh1
        have Hh2 := Lib.hid hh2
        have hws : w.heap.size ≤ wo.heap.size := HAt.out.2.size
        clear hb hh1 hh2
        go_wp2_with fail
        have hbx := heap_alloc_new w3 (.cells #[.slice (some ⟨g1, 0, none⟩) 8 8, .slice (some ⟨g2, 0, none⟩) 8 8, .int .i64 0] 27)
        have hb4 := below1 w3 (.cells #[.slice (some ⟨g1, 0, none⟩) 8 8, .slice (some ⟨g2, 0, none⟩) 8 8, .int .i64 0] 27)
        generalize w3.alloc (.cells #[.slice (some ⟨g1, 0, none⟩) 8 8, .slice (some ⟨g2, 0, none⟩) 8 8, .int .i64 0] 27) = w4 at *
        have H4 : Hid (Mono w g g1 g2 w3.heap.size L L 0 w4) := ⟨H3.out.below hb4, (hb4.block _ h1s).trans Hh1.out, (hb4.block _ h2s).trans Hh2.out, hbx⟩
        clear hbx hb4 H3 Hh1 Hh2
        generalize w3.heap.size = Bx at *
        go_loopw [8] (fun i wr => ∃ j : Nat, j ≤ 8 ∧ i = .int .i64 ((j : Int) + 1) ∧ Mono w g g1 g2 Bx L L j wr) (fun i _ => 9 - (intOf i).toNat)
        case atStart => exact ⟨0, Nat.zero_le _, rfl, H4.out⟩
        case round =>
          obtain ⟨j, hj, rfl, hat, hh1, hh2, hbx⟩ := hrel
          have HM1 : Hid (Mono w g g1 g2 Bx L L j wr) := ⟨hat, hh1, hh2, hbx⟩
          by_cases hj8 : j < 8
          · have d0 : decide ((j : Int) + 1 ≤ 8) = true := by simp; omega
            have j0 : (0 : Int) ≤ (j : Int) := by omega
            have j1 : (j : Int) < 8 := by omega
            have m0 : ∀ w', Chg [g1, g2] wr w' → w'.cell? ⟨Bx, 0, none⟩ = some (.slice (some ⟨g1, 0, none⟩) 8 8) := fun w' h => (h.cellAt hbx (by simp; omega)).trans rfl
            have m1 : ∀ w', Chg [g1, g2] wr w' → w'.cell? ⟨Bx, 1, none⟩ = some (.slice (some ⟨g2, 0, none⟩) 8 8) := fun w' h => (h.cellAt hbx (by simp; omega)).trans rfl
            have p0 : wr.cell? ⟨g1, j, none⟩ = some (.int .i64 (pre (lastI L) j j)) := (cell_of_row _ _ j _ _ _ hh1).trans (by simp only [List.getElem?_toArray]; exact ints_get _ _ _ hj8)
            have p1 : wr.cell? ⟨g2, j, none⟩ = some (.int .i64 (pre (roundI L) j j)) := (cell_of_row _ _ j _ _ _ hh2).trans (by simp only [List.getElem?_toArray]; exact ints_get _ _ _ hj8)
            have q0 : wr.frozen? ⟨g1, j, none⟩ = false := frozen_of_row _ _ _ _ _ hh1
            have q1 : wr.frozen? ⟨g2, j, none⟩ = false := frozen_of_row _ _ _ _ _ hh2
            have HLs := fun w' (h : IsL w' g L) => Lib.hid (last_calls g L ((j : Int) + 1) w' h)
            have HRs := fun w' (h : IsL w' g L) => Lib.hid (round_calls g L ((j : Int) + 1) w' h)
            have HS1 := Lib.hid (pre_set (lastI L) j)
            have HS2 := Lib.hid (pre_set (roundI L) j)
            have hw1 : IntKind.i64.wrap ((j : Int) + 1 - 1) = (j : Int) := by rw [IntKind.wrap_i64]; omega
            have hw2 : IntKind.i64.wrap (j : Int) = (j : Int) := by rw [IntKind.wrap_i64]; omega
            clear hat hh1 hh2 hbx
            generalize pre (lastI L) j j = pl at *
            generalize pre (roundI L) j j = pr at *
            generalize lastI L ((j : Int) + 1) = la at *
            generalize roundI L ((j : Int) + 1) = rd at *
            go_wp2_with fail
            go_region_held3 (fun w' => Chg [g1, g2] wr w') (first | exact (Chg.refl _ _).drew | assumption | exact ((Chg.refl _ _).setCell (p := ⟨g1, j, none⟩) (.inl (by simp)) _).drew | exact (((Chg.refl _ _).setCell (p := ⟨g1, j, none⟩) (.inl (by simp)) _).setCell (p := ⟨g2, j, none⟩) (.inl (by simp)) _).drew | exact ((Chg.refl _ _).setCell (p := ⟨g2, j, none⟩) (.inl (by simp)) _).drew | exact (((Chg.refl _ _).setCell (p := ⟨g2, j, none⟩) (.inl (by simp)) _).setCell (p := ⟨g1, j, none⟩) (.inl (by simp)) _).drew) (first | (go_at_call 17; refine (HLs wr.drew HM1.out.1.1).out.mono ?_; rintro e w' ⟨rfl, rfl⟩) | (go_at_call 20; refine (HRs wr.drew HM1.out.1.1).out.mono ?_; rintro e w' ⟨rfl, rfl⟩))
            have H6 : Hid (Mono w g g1 g2 Bx L L (j + 1) ((wr.setCell ⟨g1, j, none⟩ (.int .i64 la)).setCell ⟨g2, j, none⟩ (.int .i64 rd)).drew) := by
              obtain ⟨hat, hh1, hh2, hbx⟩ := HM1.out
              have hc : Chg [g1, g2] wr ((wr.setCell ⟨g1, j, none⟩ (.int .i64 la)).setCell ⟨g2, j, none⟩ (.int .i64 rd)).drew := (((Chg.refl _ _).setCell (p := ⟨g1, j, none⟩) (.inl (by simp)) _).setCell (p := ⟨g2, j, none⟩) (.inl (by simp)) _).drew
              refine ⟨⟨⟨hc.blk hat.1.1 (by simp; omega), hat.1.2⟩, hat.2.trans (hc.below hat.2.size (by simp; omega))⟩, ?_, ?_, hc.blk hbx (by simp; omega)⟩
              · rw [← HS1.out]
                exact (heap_setCell_other _ ⟨g2, j, none⟩ g1 _ (by simpa using hne)).trans (heap_setCell_same _ _ _ _ _ _ hh1)
              · rw [← HS2.out]
                exact heap_setCell_same _ _ _ _ _ _ ((heap_setCell_other _ ⟨g1, j, none⟩ g2 _ (by show g2 ≠ g1; omega)).trans hh2)
            clear m0 m1 p0 p1 q0 q1 hw1 hw2
            go_wp2_with fail
            go_roundw
            case rel => exact ⟨j + 1, by omega, by go_num, H6.out⟩
            case measure => simp [intOf]; omega
          · have HJ : Hid (j = 8) := by show _ = _; omega
            have d8 : decide ((j : Int) + 1 ≤ 8) = false := by simp; omega
            rw [HJ.out] at HM1
            clear hat hh1 hh2 hbx
            have hB5 := HM1.out.1.2
            have x0 := HX0.out wr hB5
            have hk255 : kd.toNat ≤ 255 := by have := kd.toNat_lt; omega
            by_cases hkd : kd.toNat ≤ 1
            · have x1 := HX1.out
              have x2 := HX2.out
              have x3 := HX3.out
              go_wp2_with fail
              go_region_held3 (fun w' => Below w.heap.size w w') (first | exact hB5.drew | assumption)                 (first | (go_at_call 16; refine (heard_calls g L cl ro ti wr.drew HM1.out.1.1 hf2 hf1).mono ?_; rintro e w5 ⟨rfl, hl5, hc5⟩; have H5 : Hid (Mono w g g1 g2 Bx L (hear L cl ro ti) 8 w5) := ⟨At.chg (w1 := wr.drew) ⟨HM1.out.1.1, HM1.out.1.2.drew⟩ hgw hl5 hc5, hc5.blk HM1.out.2.1 (by simp; omega), hc5.blk HM1.out.2.2.1 (by simp; omega), hc5.blk HM1.out.2.2.2 (by simp; omega)⟩; have hs5 := H5.out.1.2; clear hl5 hc5))
              have HLt := Lib.hid (later_hear L cl ro ti)
              clear hs5 x0 x1 x2 x3 hB5
              generalize hear L cl ro ti = M at *
              go_wp2_with fail
              go_loop [9] (fun i => ∃ j : Nat, j ≤ 8 ∧ i = .int .i64 ((j : Int) + 1)) (fun i => 9 - (intOf i).toNat)
              case atStart => exact ⟨0, Nat.zero_le _, rfl⟩
              case round =>
                obtain ⟨j, hj, rfl⟩ := hrel
                by_cases hj8 : j < 8
                · have d0 : decide ((j : Int) + 1 ≤ 8) = true := by simp; omega
                  have j0 : (0 : Int) ≤ (j : Int) := by omega
                  have j1 : (j : Int) < 8 := by omega
                  have m0 : w5.cell? ⟨Bx, 0, none⟩ = some (.slice (some ⟨g1, 0, none⟩) 8 8) := (cell_of_row _ _ 0 _ _ _ H5.out.2.2.2).trans rfl
                  have m1 : w5.cell? ⟨Bx, 1, none⟩ = some (.slice (some ⟨g2, 0, none⟩) 8 8) := (cell_of_row _ _ 1 _ _ _ H5.out.2.2.2).trans rfl
                  have p0 : w5.cell? ⟨g1, j, none⟩ = some (.int .i64 (lastI L ((j : Int) + 1))) := (cell_of_row _ _ j _ _ _ H5.out.2.1).trans (by simp only [List.getElem?_toArray]; rw [ints_get _ _ _ hj8]; simp [pre, hj8])
                  have p1 : w5.cell? ⟨g2, j, none⟩ = some (.int .i64 (roundI L ((j : Int) + 1))) := (cell_of_row _ _ j _ _ _ H5.out.2.2.1).trans (by simp only [List.getElem?_toArray]; rw [ints_get _ _ _ hj8]; simp [pre, hj8])
                  have x1 := HX1.out w5 H5.out.1.2
                  obtain ⟨hl1, hl2, hl3⟩ := HLt.out ((j : Int) + 1)
                  have HLs := Lib.hid (last_calls g M ((j : Int) + 1) w5 H5.out.1.1)
                  have HRs := Lib.hid (round_calls g M ((j : Int) + 1) w5 H5.out.1.1)
                  by_cases hcl : (j : Int) + 1 = cl
                  · have d3 : ((j : Int) + 1 != cl) = false := by simpa using hcl
                    clear hl1 hcl
                    generalize lastI L ((j : Int) + 1) = la at *
                    generalize roundI L ((j : Int) + 1) = rd at *
                    generalize lastI M ((j : Int) + 1) = la' at *
                    generalize roundI M ((j : Int) + 1) = rd' at *
                    have d1 : decide (la' < la) = false := by simp; omega
                    have d2 : decide (rd' < rd) = false := by simp; omega
                    go_wp2_with (first | (go_at_call 17; refine HLs.out.mono ?_; rintro e w' ⟨rfl, rfl⟩) | (go_at_call 20; refine HRs.out.mono ?_; rintro e w' ⟨rfl, rfl⟩))
                    go_round
                    case rel => exact ⟨j + 1, by omega, by go_num⟩
                    case measure => simp [intOf]; omega
                  · have d3 : ((j : Int) + 1 != cl) = true := by simpa using hcl
                    obtain ⟨e1, e2⟩ := hl1 hcl
                    rw [e1] at HLs
                    rw [e2] at HRs
                    clear hl1 hcl e1 e2 hl2 hl3
                    generalize lastI L ((j : Int) + 1) = la at *
                    generalize roundI L ((j : Int) + 1) = rd at *
                    have d1 : decide (la < la) = false := by simp
                    have d2 : decide (rd < rd) = false := by simp
                    have d4 : (la != la) = false := by simp
                    have d5 : (rd != rd) = false := by simp
                    go_wp2_with (first | (go_at_call 17; refine HLs.out.mono ?_; rintro e w' ⟨rfl, rfl⟩) | (go_at_call 20; refine HRs.out.mono ?_; rintro e w' ⟨rfl, rfl⟩))
                    go_round
                    case rel => exact ⟨j + 1, by omega, by go_num⟩
                    case measure => simp [intOf]; omega
                · have d0 : decide ((j : Int) + 1 ≤ 8) = false := by simp; omega
                  go_wp2_with fail
                  go_roundw
                  case rel => exact ⟨k + 1, by omega, by go_num, M, H5.out.1⟩
                  case measure => simp [intOf]; omega
            · have d9 : decide ((kd.toNat : Int) ≤ 1) = false := by simp; omega
              have H5 := HM1
              have HLt := Lib.hid (later_refl L cl)
              go_wp2_with fail
              clear x0 hB5
              obtain ⟨w5, rfl⟩ : ∃ w5 : World, w5 = wr := ⟨_, rfl⟩
              obtain ⟨M, HMM⟩ : ∃ M, Hid (M = L) := ⟨_, rfl⟩
              have H5' : Hid (Mono w g g1 g2 Bx L M 8 w5) := by rw [HMM.out]; exact H5.out
              have HLt' : Hid (Later L M cl) := by rw [HMM.out]; exact HLt.out
              clear H5 HLt HM1
              have H5 := H5'
              have HLt := HLt'
              clear H5' HLt'
              go_wp2_with fail
              go_loop [9] (fun i => ∃ j : Nat, j ≤ 8 ∧ i = .int .i64 ((j : Int) + 1)) (fun i => 9 - (intOf i).toNat)
              case atStart => exact ⟨0, Nat.zero_le _, rfl⟩
              case round =>
                obtain ⟨j, hj, rfl⟩ := hrel
                by_cases hj8 : j < 8
                · have d0 : decide ((j : Int) + 1 ≤ 8) = true := by simp; omega
                  have j0 : (0 : Int) ≤ (j : Int) := by omega
                  have j1 : (j : Int) < 8 := by omega
                  have m0 : w5.cell? ⟨Bx, 0, none⟩ = some (.slice (some ⟨g1, 0, none⟩) 8 8) := (cell_of_row _ _ 0 _ _ _ H5.out.2.2.2).trans rfl
                  have m1 : w5.cell? ⟨Bx, 1, none⟩ = some (.slice (some ⟨g2, 0, none⟩) 8 8) := (cell_of_row _ _ 1 _ _ _ H5.out.2.2.2).trans rfl
                  have p0 : w5.cell? ⟨g1, j, none⟩ = some (.int .i64 (lastI L ((j : Int) + 1))) := (cell_of_row _ _ j _ _ _ H5.out.2.1).trans (by simp only [List.getElem?_toArray]; rw [ints_get _ _ _ hj8]; simp [pre, hj8])
                  have p1 : w5.cell? ⟨g2, j, none⟩ = some (.int .i64 (roundI L ((j : Int) + 1))) := (cell_of_row _ _ j _ _ _ H5.out.2.2.1).trans (by simp only [List.getElem?_toArray]; rw [ints_get _ _ _ hj8]; simp [pre, hj8])
                  have x1 := HX1.out w5 H5.out.1.2
                  obtain ⟨hl1, hl2, hl3⟩ := HLt.out ((j : Int) + 1)
                  have HLs := Lib.hid (last_calls g M ((j : Int) + 1) w5 H5.out.1.1)
                  have HRs := Lib.hid (round_calls g M ((j : Int) + 1) w5 H5.out.1.1)
                  by_cases hcl : (j : Int) + 1 = cl
                  · have d3 : ((j : Int) + 1 != cl) = false := by simpa using hcl
                    clear hl1 hcl
                    generalize lastI L ((j : Int) + 1) = la at *
                    generalize roundI L ((j : Int) + 1) = rd at *
                    generalize lastI M ((j : Int) + 1) = la' at *
                    generalize roundI M ((j : Int) + 1) = rd' at *
                    have d1 : decide (la' < la) = false := by simp; omega
                    have d2 : decide (rd' < rd) = false := by simp; omega
                    go_wp2_with (first | (go_at_call 17; refine HLs.out.mono ?_; rintro e w' ⟨rfl, rfl⟩) | (go_at_call 20; refine HRs.out.mono ?_; rintro e w' ⟨rfl, rfl⟩))
                    go_round
                    case rel => exact ⟨j + 1, by omega, by go_num⟩
                    case measure => simp [intOf]; omega
                  · have d3 : ((j : Int) + 1 != cl) = true := by simpa using hcl
                    obtain ⟨e1, e2⟩ := hl1 hcl
                    rw [e1] at HLs
                    rw [e2] at HRs
                    clear hl1 hcl e1 e2 hl2 hl3
                    generalize lastI L ((j : Int) + 1) = la at *
                    generalize roundI L ((j : Int) + 1) = rd at *
                    have d1 : decide (la < la) = false := by simp
                    have d2 : decide (rd < rd) = false := by simp
                    have d4 : (la != la) = false := by simp
                    have d5 : (rd != rd) = false := by simp
                    go_wp2_with (first | (go_at_call 17; refine HLs.out.mono ?_; rintro e w' ⟨rfl, rfl⟩) | (go_at_call 20; refine HRs.out.mono ?_; rintro e w' ⟨rfl, rfl⟩))
                    go_round
                    case rel => exact ⟨j + 1, by omega, by go_num⟩
                    case measure => simp [intOf]; omega
                · have d0 : decide ((j : Int) + 1 ≤ 8) = false := by simp; omega
                  go_wp2_with fail
                  go_roundw
                  case rel => exact ⟨k + 1, by omega, by go_num, M, H5.out.1⟩
                  case measure => simp [intOf]; omega
      · go_wp2_with fail
        go_ret
        exact ⟨rfl, HAt.out.2⟩
  · go_enter Try.func6, Try.ntmps6
    go_wp2_with fail
    refine (awake_calls w).mono ?_
    rintro e w1 ⟨rfl, hb⟩
    have HB := Lib.hid hb
    clear hb
    go_wp2_with fail
    go_ret
    exact ⟨rfl, HB.out⟩
end Ls
end Go.Proofs.Ytmdconcbelmdpaa
