/- The walk of refmeshref26.Heard. -/
import Derived.Test.YtmdconcbelmdpaaLsB
import Derived.Deep.DeepCutAuto
import Derived.Deep.CutRange
import Derived.Deep.DeepMust
namespace Go.Proofs.Ytmdconcbelmdpaa
open Go.RowKit
namespace Ls

theorem ints_set (f : Nat → Int) (m i : Nat) (x : Int) : (ints f m).set i (.int .i64 x) = ints (fun k => if (k : Int) + 1 = (i : Int) + 1 then x else f k) m := by
  apply List.ext_getElem?
  intro j
  rw [List.getElem?_set]
  by_cases hj : j < m
  · rw [ints_get _ _ _ hj, ints_get _ _ _ hj, ints_length]
    by_cases h : i = j
    · subst h; simp [hj]
    · have : ¬ (j : Int) + 1 = (i : Int) + 1 := by omega
      simp [h, this]
  · have h1 : (ints f m)[j]? = none := List.getElem?_eq_none (by rw [ints_length]; omega)
    have h2 : ∀ f' : Nat → Int, (ints f' m)[j]? = none := fun f' => List.getElem?_eq_none (by rw [ints_length]; omega)
    rw [h2, ints_length]
    by_cases h : i = j
    · subst h; rw [if_pos rfl, if_neg hj]; exact (h2 _).symm
    · rw [if_neg h]; exact (h2 _).symm

/-- what the reference's Heard leaves -/
def RHeard (w : World) (L : St) (cl ro ti : Int) (e : Ending) (w' : World) : Prop :=
  ∃ v, e = .returned (.tuple #[v, .int .i64 (hearE L cl ro ti)]) ∧ IsR w' v (hear L cl ro ti) ∧ Below w.heap.size w w'

theorem size_leases : (Try.prog.info? 27).map (·.size) = some 3 := by kernel_rfl

set_option maxRecDepth 100000 in
set_option maxHeartbeats 1000000 in
theorem rheard_calls (v : Value) (L : St) (cl ro ti : Int) (w : World) (h : IsR w v L) (hb1 : -9223372036854775808 ≤ cl) (hb2 : cl ≤ 9223372036854775807) :
    Calls Try.prog 38 #[v, .int .i64 cl, .int .i64 ro, .int .i64 ti] w (RHeard w L cl ro ti) := by
  have HI := Lib.hid h
  obtain ⟨hm8, A, ca, B, cb, rfl, hA, hB⟩ := h
  cases hok : okB L cl ro ti
  · have HE : Hid (hearE L cl ro ti = 1 ∧ hear L cl ro ti = L) := by constructor <;> simp [hearE, hear, hok]
    have hc : decide (cl < 1) = true ∨ (decide (cl < 1) = false ∧ decide ((L.m : Int) < cl) = true) ∨ (decide (cl < 1) = false ∧ decide ((L.m : Int) < cl) = false ∧ decide (ro < 1) = true) ∨
        (decide (cl < 1) = false ∧ decide ((L.m : Int) < cl) = false ∧ decide (ro < 1) = false ∧ decide (ti < 0) = true) := by
      unfold okB hasB at hok
      simp only [Bool.and_eq_false_iff, decide_eq_false_iff_not] at hok
      simp only [decide_eq_true_eq, decide_eq_false_iff_not]; omega
    clear hok hA hB
    rcases hc with d1 | ⟨d1, d2⟩ | ⟨d1, d2, d3⟩ | ⟨d1, d2, d3, d4⟩
    all_goals
      go_enter Try.func38, Try.ntmps38
      go_wp2
      refine bodyPost_ret (v := .tuple #[.agg #[.slice A L.m ca, .slice B L.m cb, .int .i64 L.c], .int .i64 1]) (by simp [results, Try.results38, go_sem]) rfl ⟨_, by rw [HE.out.1], ?_, ((Below.refl _ _).alloc (Nat.le_refl _) _).alloc (by simp) _⟩
      rw [HE.out.2]
      exact HI.out.below (((Below.refl _ _).alloc (Nat.le_refl _) _).alloc (by simp) _)
  · have hok' := hok
    unfold okB hasB at hok'
    simp only [Bool.and_eq_true, decide_eq_true_eq] at hok'
    obtain ⟨⟨⟨hc1, hc2⟩, hro⟩, hti⟩ := hok'
    obtain ⟨i, rfl⟩ : ∃ i : Nat, cl = (i : Int) + 1 := ⟨(cl - 1).toNat, by omega⟩
    have him : i < L.m := by omega
    have HEq := Lib.hid (hear_ok L i ro ti hok)
    have HE : Hid (hearE L ((i : Int) + 1) ro ti = 0) := by simp [hearE, hok, Hid]
    have d1 : decide ((i : Int) + 1 < 1) = false := by simp; omega
    have d2 : decide ((L.m : Int) < (i : Int) + 1) = false := by simp; omega
    have d3 : decide (ro < 1) = false := by simp; omega
    have d4 : decide (ti < 0) = false := by simp; omega
    obtain ⟨_, _, e1, _, _, _, rA⟩ := own_form hA
    cases e1
    have RA := Lib.hid rA
    have OB := Lib.hid hB
    have IT := Lib.hid (ints_set L.t L.m i (max (L.t i) ti))
    have IR := Lib.hid (ints_set L.r L.m i (max (L.r i) ro))
    clear hok hA hB rA HI hc1 hc2 hb1 hb2
    go_enter Try.func38, Try.ntmps38
    go_upto_region 4 with (at_builtin; refine wpList_apps _ rfl (.tmp 28) (.tmp 30) 25 rfl (w.heap.size + 2) 3 (.int .i64 0) 8 Try.underlying25 info_int rfl (.slice (some ⟨w.heap.size + 1 + 1, 0, none⟩) 0 0) 0 [] rfl (own_empty _ _ _ _ (by simp) (by omega)) A L.m ca (ints L.t L.m) rfl (ints_length _ _) (((RA.out.alloc _).alloc _).alloc _) (ints_one _ _) (by simp only [maxLen]; omega) (by omega) (by simp only [World.size_alloc]; omega) ?_; intro X1 c1 w3 hown3 happ3; have hbx := happ3.old (heap3_a _ _ _ _) (by simp [Value.ownBlock]; try omega); have k0 : w3.cell? ⟨w.heap.size, 0, none⟩ = some (.slice A L.m ca) := (cell_of_row _ _ 0 _ _ _ hbx).trans rfl; have k1 : w3.frozen? ⟨w.heap.size, 0, none⟩ = false := frozen_of_row _ _ _ _ _ hbx; have hrb := happ3.old (heap3_b _ _ _ _) (by simp [Value.ownBlock]; try omega); have HBX := Lib.hid hbx; have HRB := Lib.hid hrb; have HOX := Lib.hid hown3; have HAP := Lib.hid happ3; clear hbx hrb hown3 happ3)
    have hbw : Below w.heap.size w w3 := ((((Below.refl _ _).alloc (Nat.le_refl _) _).alloc (by simp) _).alloc (by simp; omega) _).trans (HAP.out.below (own_base (own_empty (w.heap.size + 2) _ _ _ (by simp) (by omega)) (by omega)) (by simp; omega))
    have hox : (w3.setCell ⟨w.heap.size, 0, none⟩ (.slice X1 L.m c1)).ownsRow (w.heap.size + 2) 3 1 (.slice X1 L.m c1) L.m (ints L.t L.m) := by
      have h0 : w3.ownsRow (w.heap.size + 2) 3 1 (.slice X1 L.m c1) L.m (ints L.t L.m) := by simpa using HOX.out
      exact ownsRow_setCell_below h0 (by show w.heap.size < _; omega) _
    have hbx4 := heap_setCell_same w3 w.heap.size 0 _ _ (.slice X1 L.m c1) HBX.out
    have hrb4 : (w3.setCell ⟨w.heap.size, 0, none⟩ (.slice X1 L.m c1)).heap[w.heap.size + 1]? = _ := (heap_setCell_other w3 ⟨w.heap.size, 0, none⟩ (w.heap.size + 1) (.slice X1 L.m c1) (by show _ ≠ w.heap.size; omega)).trans HRB.out
    have hbw4 := hbw.setCell (p := ⟨w.heap.size, 0, none⟩) (Nat.le_refl _) (.slice X1 L.m c1)
    have hob4 := own_below OB.out hbw4
    clear HBX HRB HOX HAP hbw k0 k1
    generalize w3.setCell ⟨w.heap.size, 0, none⟩ (.slice X1 L.m c1) = w4 at *
    have hs4 : w.heap.size + 2 ≤ w4.heap.size := by have := (Array.getElem?_eq_some_iff.1 hrb4).1; omega
    obtain ⟨_, _, e2, _, _, _, rB⟩ := own_form hob4
    cases e2
    have RB4 := Lib.hid rB
    have BX4 := Lib.hid hbx4
    have HRB4 := Lib.hid hrb4
    have k0 : w4.cell? ⟨w.heap.size, 1, none⟩ = some (.slice B L.m cb) := (cell_of_row _ _ 1 _ _ _ hbx4).trans rfl
    have k0' : ∀ o : Obj, (w4.alloc o).cell? ⟨w.heap.size, 1, none⟩ = some (.slice B L.m cb) := fun o => (World.cell?_alloc_lt w4 o ⟨w.heap.size, 1, none⟩ (by show w.heap.size < _; omega)).trans k0
    have HOX4 := Lib.hid hox
    have HBW4 := Lib.hid hbw4
    clear rB hbx4 hrb4 hox hbw4 hob4 OB RA
    go_upto_region 5 with (at_builtin; refine wpList_apps _ rfl (.tmp 33) (.tmp 35) 25 rfl w4.heap.size 3 (.int .i64 0) 8 Try.underlying25 info_int rfl (.slice (some ⟨w4.heap.size, 0, none⟩) 0 0) 0 [] rfl (own_empty _ _ _ _ rfl (Nat.le_refl _)) B L.m cb (ints L.r L.m) rfl (ints_length _ _) (RB4.out.alloc _) (ints_one _ _) (by simp only [maxLen]; omega) (by omega) (by simp only [World.size_alloc]; omega) ?_; intro Y1 c2 w5 hown5 happ5; have hbx := happ5.old ((Below.heap_alloc _ _ _ (by omega)).trans BX4.out) (by simp [Value.ownBlock]; try omega); have j0 : w5.cell? ⟨w.heap.size, 1, none⟩ = some (.slice B L.m cb) := (cell_of_row _ _ 1 _ _ _ hbx).trans rfl; have j1 : w5.frozen? ⟨w.heap.size, 1, none⟩ = false := frozen_of_row _ _ _ _ _ hbx; have hrb := happ5.old ((Below.heap_alloc _ _ _ (by omega)).trans HRB4.out) (by simp [Value.ownBlock]; try omega); have HBX := Lib.hid hbx; have HRB := Lib.hid hrb; have HOY := Lib.hid hown5; have HAP := Lib.hid happ5; clear hbx hrb hown5 happ5)
    have hb5 : Below w4.heap.size w4 w5 := ((Below.refl _ _).alloc (Nat.le_refl _) _).trans (HAP.out.below (own_empty w4.heap.size _ _ _ rfl (Nat.le_refl _)) (by simp))
    have hoy : w5.ownsRow w4.heap.size 3 1 (.slice Y1 L.m c2) L.m (ints L.r L.m) := by simpa using HOY.out
    obtain ⟨gx, cgx, ex, hgx1, hgx2, fx, cx, sx⟩ := own_set0 (own_below HOX4.out hb5) i him
    have hgx4 : gx < w4.heap.size := by
      rcases HOX4.out.2 with ⟨e, _⟩ | ⟨g', _, _, e, _, hh, _⟩
      · rw [ex] at e; cases e
      · rw [ex] at e; cases e; exact (Array.getElem?_eq_some_iff.1 hh).1
    have hox5 := own_below HOX4.out hb5
    clear cx fx sx
    cases ex
    have hox6 := ownsRow_setCell_below (a := ⟨w.heap.size, 1, none⟩) hox5 (by show w.heap.size < _; omega) (.slice Y1 L.m c2)
    have hoy6 := ownsRow_setCell_below (a := ⟨w.heap.size, 1, none⟩) hoy (by show w.heap.size < _; omega) (.slice Y1 L.m c2)
    have hbx6 := heap_setCell_same w5 w.heap.size 1 _ _ (.slice Y1 L.m c2) HBX.out
    have hrb6 := (heap_setCell_other w5 ⟨w.heap.size, 1, none⟩ (w.heap.size + 1) (.slice Y1 L.m c2) (by show _ ≠ w.heap.size; omega)).trans HRB.out
    have hbw6 := (HBW4.out.trans (hb5.mono HBW4.out.size)).setCell (p := ⟨w.heap.size, 1, none⟩) (Nat.le_refl _) (.slice Y1 L.m c2)
    clear HBX HRB HOY HAP j0 j1 BX4 HRB4 RB4 HOX4 HBW4 k0 k0' hb5 hoy hox5 hgx2
    generalize w5.setCell ⟨w.heap.size, 1, none⟩ (.slice Y1 L.m c2) = w6 at *
    obtain ⟨gx', cgx', ex, _, _, fx, cx, sx⟩ := own_set0 hox6 i him
    cases ex
    obtain ⟨gy, cgy, ey, hgy1, _, fy, cy, sy⟩ := own_set0 hoy6 i him
    cases ey
    rw [ints_get _ _ _ him] at cx cy
    have hgxy : gx ≠ gy := by omega
    have b0 : w6.cell? ⟨w.heap.size, 0, none⟩ = some (.slice (some ⟨gx, 0, none⟩) L.m c1) := (cell_of_row _ _ 0 _ _ _ hbx6).trans rfl
    have HB6 := Lib.hid hbw6
    have HX6 := Lib.hid hbx6
    have HR6 := Lib.hid hrb6
    have SX := Lib.hid (sx (.int .i64 (max (L.t i) ti)))
    have OY := Lib.hid hoy6
    have i0 : (0 : Int) ≤ (i : Int) := by omega
    have i1 : (i : Int) < (L.m : Int) := by omega
    clear hbw6 hbx6 hrb6 sx sy hox6 hoy6 cy fy
    go_region
    have hb7 : Below w.heap.size w (w6.setCell ⟨gx, i, none⟩ (.int .i64 (max (L.t i) ti))).drew := (HB6.out.setCell (p := ⟨gx, i, none⟩) (by show w.heap.size ≤ gx; omega) _).drew
    have hx7 : (w6.setCell ⟨gx, i, none⟩ (.int .i64 (max (L.t i) ti))).drew.heap[w.heap.size]? = _ := (heap_setCell_other w6 ⟨gx, i, none⟩ w.heap.size _ (by show _ ≠ gx; omega)).trans HX6.out
    have hr7 : (w6.setCell ⟨gx, i, none⟩ (.int .i64 (max (L.t i) ti))).drew.heap[w.heap.size + 1]? = _ := (heap_setCell_other w6 ⟨gx, i, none⟩ (w.heap.size + 1) _ (by show _ ≠ gx; omega)).trans HR6.out
    have ox7 : (w6.setCell ⟨gx, i, none⟩ (.int .i64 (max (L.t i) ti))).drew.ownsRow (w.heap.size + 2) 3 1 (.slice (some ⟨gx, 0, none⟩) L.m c1) L.m (ints (fun k => if (k : Int) + 1 = (i : Int) + 1 then max (L.t k) ti else L.t k) L.m) := by
      have := SX.out
      rw [IT.out] at this
      have e : (fun k : Nat => if (k : Int) + 1 = (i : Int) + 1 then max (L.t i) ti else L.t k) = fun k : Nat => if (k : Int) + 1 = (i : Int) + 1 then max (L.t k) ti else L.t k := by
        funext k; split
        · rename_i hk; rw [show k = i by omega]
        · rfl
      rw [e] at this
      exact this.drew
    have oy7 : (w6.setCell ⟨gx, i, none⟩ (.int .i64 (max (L.t i) ti))).drew.ownsRow w4.heap.size 3 1 (.slice (some ⟨gy, 0, none⟩) L.m c2) L.m (ints L.r L.m) := (ownsRow_setCell_below OY.out (a := ⟨gx, i, none⟩) hgx4 _).drew
    clear HB6 HX6 HR6 SX OY b0 cx fx
    generalize (w6.setCell ⟨gx, i, none⟩ (.int .i64 (max (L.t i) ti))).drew = w7 at *
    obtain ⟨gy', cgy', ey, _, _, fy, cy, sy⟩ := own_set0 oy7 i him
    cases ey
    rw [ints_get _ _ _ him] at cy
    have b1 : w7.cell? ⟨w.heap.size, 1, none⟩ = some (.slice (some ⟨gy, 0, none⟩) L.m c2) := (cell_of_row _ _ 1 _ _ _ hx7).trans rfl
    have HB7 := Lib.hid hb7
    have HX7 := Lib.hid hx7
    have HR7 := Lib.hid hr7
    have SY := Lib.hid (sy (.int .i64 (max (L.r i) ro)))
    have OX := Lib.hid ox7
    clear hb7 hx7 hr7 ox7 oy7 sy
    go_wp2_with fail
    go_region
    have hb8 : Below w.heap.size w (w7.setCell ⟨gy, i, none⟩ (.int .i64 (max (L.r i) ro))).drew := (HB7.out.setCell (p := ⟨gy, i, none⟩) (by show w.heap.size ≤ gy; omega) _).drew
    have hx8 : (w7.setCell ⟨gy, i, none⟩ (.int .i64 (max (L.r i) ro))).drew.heap[w.heap.size]? = _ := (heap_setCell_other w7 ⟨gy, i, none⟩ w.heap.size _ (by show _ ≠ gy; omega)).trans HX7.out
    have hr8 : (w7.setCell ⟨gy, i, none⟩ (.int .i64 (max (L.r i) ro))).drew.heap[w.heap.size + 1]? = _ := (heap_setCell_other w7 ⟨gy, i, none⟩ (w.heap.size + 1) _ (by show _ ≠ gy; omega)).trans HR7.out
    have oy8 : (w7.setCell ⟨gy, i, none⟩ (.int .i64 (max (L.r i) ro))).drew.ownsRow w4.heap.size 3 1 (.slice (some ⟨gy, 0, none⟩) L.m c2) L.m (ints (fun k => if (k : Int) + 1 = (i : Int) + 1 then max (L.r k) ro else L.r k) L.m) := by
      have := SY.out
      rw [IR.out] at this
      have e : (fun k : Nat => if (k : Int) + 1 = (i : Int) + 1 then max (L.r i) ro else L.r k) = fun k : Nat => if (k : Int) + 1 = (i : Int) + 1 then max (L.r k) ro else L.r k := by
        funext k; split
        · rename_i hk; rw [show k = i by omega]
        · rfl
      rw [e] at this
      exact this.drew
    have ox8 := (Chg.drew ((Chg.refl [gy] w7).setCell (p := ⟨gy, i, none⟩) (.inl (by simp)) (.int .i64 (max (L.r i) ro)))).own OX.out (fun b hb => by
      have : gx = b := by simpa [Value.ownBlock] using hb
      subst this; simpa using hgxy)
    clear HB7 HX7 HR7 SY OX b1 cy fy
    generalize (w7.setCell ⟨gy, i, none⟩ (.int .i64 (max (L.r i) ro))).drew = w8 at *
    have m0 : w8.cell? ⟨w.heap.size, 0, none⟩ = some (.slice (some ⟨gx, 0, none⟩) L.m c1) := (cell_of_row _ _ 0 _ _ _ hx8).trans rfl
    have m1 : w8.cell? ⟨w.heap.size, 1, none⟩ = some (.slice (some ⟨gy, 0, none⟩) L.m c2) := (cell_of_row _ _ 1 _ _ _ hx8).trans rfl
    have m2 : w8.cell? ⟨w.heap.size, 2, none⟩ = some (.int .i64 L.c) := (cell_of_row _ _ 2 _ _ _ hx8).trans rfl
    have HB8 := Lib.hid hb8
    have HR8 := Lib.hid hr8
    have HX8 := Lib.hid hx8
    have OX8 := Lib.hid ox8
    have OY8 := Lib.hid oy8
    clear hb8 hr8 hx8 ox8 oy8
    go_wp2_with (refine wpList_store_row rfl 27 _ _ rfl (w.heap.size + 1) #[.slice (some ⟨gx, 0, none⟩) L.m c1, .slice (some ⟨gy, 0, none⟩) L.m c2, .int .i64 L.c] rfl rfl 27 _ HR8.out size_leases rfl (by simp [Value.oneCell']) ?_)
    have hfin : Below w.heap.size w (w8.setRow (w.heap.size + 1) #[.slice (some ⟨gx, 0, none⟩) L.m c1, .slice (some ⟨gy, 0, none⟩) L.m c2, .int .i64 L.c]) := below_setRow HB8.out (by omega) _
    have hch : Chg [w.heap.size + 1] w8 (w8.setRow (w.heap.size + 1) #[.slice (some ⟨gx, 0, none⟩) L.m c1, .slice (some ⟨gy, 0, none⟩) L.m c2, .int .i64 L.c]) := (Chg.refl _ _).setRow (.inl (by simp)) _
    refine bodyPost_ret (results_cell_tmp rfl _ _ (w.heap.size + 1) 27 #[.slice (some ⟨gx, 0, none⟩) L.m c1, .slice (some ⟨gy, 0, none⟩) L.m c2, .int .i64 L.c] (0, 0) _ rfl (setRow_heap _ _ _ _ _ _ HR8.out) Try.underlying27 rfl size_leases) rfl ⟨_, by rw [HE.out]; rfl, ?_, hfin⟩
    rw [HEq.out]
    refine ⟨hm8, _, _, _, _, rfl, own_base (hch.own OX8.out ?_) (Nat.zero_le _), own_base (hch.own OY8.out ?_) (Nat.zero_le _)⟩
    · intro b hb
      have : gx = b := by simpa [Value.ownBlock] using hb
      subst this; simp; omega
    · intro b hb
      have : gy = b := by simpa [Value.ownBlock] using hb
      subst this; simp; omega
end Ls
end Go.Proofs.Ytmdconcbelmdpaa
