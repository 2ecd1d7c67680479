/- The walk of the law LeaseEncoding. -/
import Derived.Test.YtmdconcbelmdpaaLsT
namespace Go.Proofs.Ytmdconcbelmdpaa
open Go.RowKit
namespace Ls
open Wr Wi

/-- the head of the second loop -/
def EncM (w : World) (gx gy M K : Nat) (A0 : Option Addr) (ca0 : Nat) (B0 : Option Addr) (cb0 : Nat) (L0 L : St) (wr : World) : Prop :=
  IsR wr (.agg #[.slice A0 L0.m ca0, .slice B0 L0.m cb0, .int .i64 L0.c]) L0 ∧ IsL wr gx L0 ∧ wr.heap[M]? = some (.cells #[.slice A0 L0.m ca0, .slice B0 L0.m cb0, .int .i64 L0.c] 27 (0, 0)) ∧ IsL wr gy L ∧ Below w.heap.size w wr ∧
  ∃ A ca B cb, IsR wr (.agg #[.slice A L.m ca, .slice B L.m cb, .int .i64 L.c]) L ∧ wr.heap[K]? = some (.cells #[.slice A L.m ca, .slice B L.m cb, .int .i64 L.c] 27 (0, 0))

theorem EncM.below {w wr w' : World} {gx gy M K : Nat} {A0 B0 : Option Addr} {ca0 cb0 : Nat} {L0 L : St} (h : EncM w gx gy M K A0 ca0 B0 cb0 L0 L wr) (hb : Below wr.heap.size wr w') : EncM w gx gy M K A0 ca0 B0 cb0 L0 L w' := by
  obtain ⟨h1, h2, h3, h4, h5, A, ca, B, cb, h6, h7⟩ := h
  have hk : ∀ {k : Nat} {o : Obj}, wr.heap[k]? = some o → w'.heap[k]? = some o := fun h => (hb.block _ (Array.getElem?_eq_some_iff.1 h).1).trans h
  exact ⟨h1.below hb, h2.below hb, hk h3, h4.below hb, h5.trans (hb.mono h5.size), A, ca, B, cb, h6.below hb, hk h7⟩

set_option maxRecDepth 100000 in
set_option maxHeartbeats 4000000 in
theorem encoding_law (w : World) (m : Int) (C : Option Addr) (n cap : Nat) (cs : List Cl) (D : Option Addr) (n2 cap2 : Nat) (ds : List Cl) (hn : cs.length = n) (hr : RdC w C cs) (hf : ∀ c ∈ cs, c.fits) (hn2 : ds.length = n2) (hr2 : RdC w D ds) (hf2 : ∀ c ∈ ds, c.fits)
    (hnm : n ≤ 9223372036854775807) (hnm2 : n2 ≤ 9223372036854775807) :
    Calls Try.prog 8 #[.int .i64 m, .slice C n cap, .slice D n2 cap2] w (Yes w) := by
  have HN := Lib.hid hn
  have HR := Lib.hid hr
  have HF := Lib.hid hf
  have HN2 := Lib.hid hn2
  have HR2 := Lib.hid hr2
  have HF2 := Lib.hid hf2
  clear hn hr hf hn2 hr2 hf2
  by_cases h40 : n ≤ 40
  · have d1 : decide ((40 : Int) < (n : Int)) = false := by simp; omega
    by_cases h41 : n2 ≤ 40
    · have d2 : decide ((40 : Int) < (n2 : Int)) = false := by simp; omega
      go_enter Try.func8, Try.ntmps8
      go_wp2_with fail
      refine (awake_calls w).mono ?_
      rintro e w1 ⟨rfl, hb⟩
      have HB := Lib.hid hb
      clear hb
      go_wp2_with fail
      refine (run_calls m C n cap cs w1 HN.out h40 (HR.out.below HB.out) HF.out).mono ?_
      rintro e w2 ⟨gx, v, rfl, hl, hr2, hb, hgg⟩
      have HL := Lib.hid hl
      have HRR := Lib.hid hr2
      have HB2 := Lib.hid (HB.out.trans (hb.mono HB.out.size))
      have hgx : w.heap.size ≤ gx := by have := HB.out.size; omega
      have HNE := Lib.hid (neat_runs _ cs (neat_fresh m))
      have hc1 := (runs_c (fresh m) cs).1
      have hc2 := (runs_c (fresh m) cs).2
      have hfr : (fresh m).c = 0 := rfl
      have hcl := HN.out
      rw [hfr] at hc1 hc2
      have hcb : (runs (fresh m) cs).c ≤ 40 := by omega
      have hm8 := hl.2
      obtain ⟨_, A0, ca0, B0, cb0, rfl, hA0, hB0⟩ := hr2
      clear hl hb hgg hc2 hfr hcl HB
      generalize runs (fresh m) cs = L0 at *
      obtain ⟨_, _, e1, hca, hcam, _, hrA⟩ := own_form hA0
      cases e1
      obtain ⟨_, _, e1, hcb', hcbm, _, hrB⟩ := own_form hB0
      cases e1
      unfold maxLen at hcam hcbm
      have HRA := Lib.hid hrA
      have HRB := Lib.hid hrB
      clear hA0 hB0 hrA hrB
      go_wp2_with fail
      have hmb := heap_alloc_new w2 (.cells #[.slice A0 L0.m ca0, .slice B0 L0.m cb0, .int .i64 L0.c] 27 (0, 0))
      have hb3 := below1 w2 (.cells #[.slice A0 L0.m ca0, .slice B0 L0.m cb0, .int .i64 L0.c] 27 (0, 0))
      generalize w2.alloc (.cells #[.slice A0 L0.m ca0, .slice B0 L0.m cb0, .int .i64 L0.c] 27 (0, 0)) = w3 at *
      have hMs : w2.heap.size < w3.heap.size := (Array.getElem?_eq_some_iff.1 hmb).1
      have HL3 := Lib.hid (HL.out.below hb3)
      have HR3 := Lib.hid (HRR.out.below hb3)
      have HB3 := Lib.hid (HB2.out.trans (hb3.mono HB2.out.size))
      have HRA3 := Lib.hid (Rd.below HRA.out hb3)
      have HRB3 := Lib.hid (Rd.below HRB.out hb3)
      have HMB := Lib.hid hmb
      have hwM : w.heap.size ≤ w2.heap.size := HB2.out.size
      have hxM : gx < w2.heap.size := (Array.getElem?_eq_some_iff.1 HL.out.1).1
      clear hmb hb3 HL HRR HB2 HRA HRB
      generalize w2.heap.size = M at *
      have c0 : w3.cell? ⟨M, 0, none⟩ = some (.slice A0 L0.m ca0) := (cell_of_row _ _ 0 _ _ _ HMB.out).trans rfl
      have c1 : w3.cell? ⟨M, 1, none⟩ = some (.slice B0 L0.m cb0) := (cell_of_row _ _ 1 _ _ _ HMB.out).trans rfl
      have c2 : w3.cell? ⟨M, 2, none⟩ = some (.int .i64 L0.c) := (cell_of_row _ _ 2 _ _ _ HMB.out).trans rfl
      go_loop [10] (fun i => ∃ k : Nat, k ≤ L0.m ∧ i = .int .i64 k ∧ ∀ j, j < k → L0.t j ≤ 1099511627776 ∧ L0.r j ≤ 1099511627776) (fun i => L0.m - (intOf i).toNat)
      case atStart => exact ⟨0, Nat.zero_le _, rfl, fun j hj => absurd hj (by omega)⟩
      case round =>
        obtain ⟨k, hk, rfl, hs⟩ := hrel
        have HS := Lib.hid hs
        clear hs
        have j0 : (0 : Int) ≤ (k : Int) := by omega
        by_cases hlt : k < L0.m
        · have j1 : (k : Int) < (L0.m : Int) := by omega
          have hmp : 0 < (ints L0.t L0.m).length := by rw [ints_length]; omega
          have hmp2 : 0 < (ints L0.r L0.m).length := by rw [ints_length]; omega
          obtain ⟨ba, oa, rfl, _, hca'⟩ := Rd.cells HRA3.out hmp
          obtain ⟨bb, ob, rfl, _, hcb''⟩ := Rd.cells HRB3.out hmp2
          have ta := hca' k _ (ints_get L0.t L0.m k hlt)
          have ra := hcb'' k _ (ints_get L0.r L0.m k hlt)
          clear hca' hcb'' hmp hmp2
          obtain ⟨tk, HT⟩ : ∃ x, Hid (x = L0.t k) := ⟨_, rfl⟩
          obtain ⟨rk, HRK⟩ : ∃ x, Hid (x = L0.r k) := ⟨_, rfl⟩
          rw [← HT.out] at ta
          rw [← HRK.out] at ra
          by_cases ht : 1099511627776 < tk
          · have q1 : decide (1099511627776 < tk) = true := by simp; omega
            go_wp2_with fail
            go_ret
            exact ⟨rfl, HB3.out⟩
          · have q1 : decide (1099511627776 < tk) = false := by simp; omega
            by_cases hrk : 1099511627776 < rk
            · have q2 : decide (1099511627776 < rk) = true := by simp; omega
              go_wp2_with fail
              go_ret
              exact ⟨rfl, HB3.out⟩
            · have q2 : decide (1099511627776 < rk) = false := by simp; omega
              have HS2 : Hid (∀ j, j < k + 1 → L0.t j ≤ 1099511627776 ∧ L0.r j ≤ 1099511627776) := by
                intro j hj
                by_cases h : j < k
                · exact HS.out j h
                · obtain rfl : j = k := by omega
                  rw [← HT.out, ← HRK.out]; exact ⟨by omega, by omega⟩
              go_wp2_with fail
              go_round
              case rel => exact ⟨k + 1, by omega, by go_num, HS2.out⟩
              case measure => simp [intOf]; omega
        · have HKM : Hid (k = L0.m) := by show _ = _; omega
          have HD : Hid (decD (encL L0) = ⟨L0, false, ⟨[], 0⟩⟩) := decD_fwd L0 hm8 HNE.out (fun i hi => HS.out i (by rw [HKM.out]; exact hi)) hc1 (by omega)
          have hel := encL_len L0 hm8
          go_wp2_with fail
          refine (encode_calls gx L0 w3 HL3.out).mono ?_
          rintro e w4 ⟨X4, c4, k4, rfl, hk4, ho4, hb4⟩
          have HK4 := Lib.hid hk4
          have HX4 := Lib.hid ho4
          have HB4 := Lib.hid hb4
          have hk4l : k4 ≤ 200 := by omega
          clear hk4 ho4 hb4 c0 c1 c2
          go_wp2_with fail
          refine (decode_calls X4 k4 c4 (encL L0) w4 HK4.out.symm HX4.out.rb.1 (by omega)).mono ?_
          have hdn : ¬ doneR (decD (encL L0)).r ≠ 0 := by rw [HD.out]; simp [doneR]
          rintro e w5 (⟨h1, _⟩ | ⟨_, h2, _⟩ | ⟨_, _, gy, rfl, hgy, hwg, hb5⟩)
          · exact absurd h1 hdn
          · rw [HD.out] at h2; cases h2
          · rw [show (decD (encL L0)).L = L0 by rw [HD.out]] at hgy
            have hb35 := HB4.out.trans (hb5.mono HB4.out.size)
            have HL5 := Lib.hid (HL3.out.below hb35)
            have HR5 := Lib.hid (HR3.out.below hb35)
            have HB5 := Lib.hid (HB3.out.trans (hb35.mono HB3.out.size))
            have HM5 := Lib.hid ((hb35.block _ hMs).trans HMB.out)
            have HY5 := Lib.hid hgy
            have HX5 := Lib.hid (own_below HX4.out hb5)
            have hgxy : gx < gy := by have := HB4.out.size; omega
            have hMgy : M < gy := by have := HB4.out.size; omega
            have hgyw : w.heap.size ≤ gy := by have := HB3.out.size; have := HB4.out.size; omega
            clear hdn hgy hb5 hb35 HL3 HR3 HB3 HMB HX4
            have m0 : w5.cell? ⟨M, 0, none⟩ = some (.slice A0 L0.m ca0) := (cell_of_row _ _ 0 _ _ _ HM5.out).trans rfl
            have m1 : w5.cell? ⟨M, 1, none⟩ = some (.slice B0 L0.m cb0) := (cell_of_row _ _ 1 _ _ _ HM5.out).trans rfl
            have m2 : w5.cell? ⟨M, 2, none⟩ = some (.int .i64 L0.c) := (cell_of_row _ _ 2 _ _ _ HM5.out).trans rfl
            go_wp2_with fail
            refine (rencode_calls _ L0 w5 HR5.out).mono ?_
            rintro e w6 ⟨X6, c6, k6, rfl, hk6, ho6, hb6⟩
            have HS6 := Lib.hid (Wi.same_calls X4 X6 k4 k6 c4 c6 _ _ w6 HK4.out.symm hk6.symm (RB.below (OB.rb HX5.out).1 hb6) ho6.rb.1)
            rw [show sameB (encL L0) (encL L0) = true by simp [sameB]] at HS6
            have n0 : w6.cell? ⟨M, 0, none⟩ = some (.slice A0 L0.m ca0) := (hb6.cell (p := ⟨M, 0, none⟩) (block_lt_of_cell m0)).trans m0
            have n1 : w6.cell? ⟨M, 1, none⟩ = some (.slice B0 L0.m cb0) := (hb6.cell (p := ⟨M, 1, none⟩) (block_lt_of_cell m1)).trans m1
            have n2 : w6.cell? ⟨M, 2, none⟩ = some (.int .i64 L0.c) := (hb6.cell (p := ⟨M, 2, none⟩) (block_lt_of_cell m2)).trans m2
            have HM6 := Lib.hid ((hb6.block M (block_lt_of_cell m0)).trans HM5.out)
            have HL6 := Lib.hid (HL5.out.below hb6)
            have HR6 := Lib.hid (HR5.out.below hb6)
            have HB6 := Lib.hid (HB5.out.trans (hb6.mono HB5.out.size))
            have HY6 := Lib.hid (HY5.out.below hb6)
            have hy6 : gy < w6.heap.size := (Array.getElem?_eq_some_iff.1 HY6.out.1).1
            clear hk6 ho6 hb6 HL5 HR5 HB5 HY5 HX5 HM5 m0 m1 m2 HK4
            go_wp2_with fail
            refine HS6.out.mono ?_
            rintro e w' ⟨rfl, rfl⟩
            clear HS6
            go_wp2_with fail
            refine (same_calls gy _ L0 w6 HY6.out HR6.out).mono ?_
            rintro e w7 ⟨rfl, hb7⟩
            have HM7 := Lib.hid ((hb7.block M (block_lt_of_cell n0)).trans HM6.out)
            have HL7 := Lib.hid (HL6.out.below hb7)
            have HR7 := Lib.hid (HR6.out.below hb7)
            have HB7 := Lib.hid (HB6.out.trans (hb7.mono HB6.out.size))
            have HY7 := Lib.hid (HY6.out.below hb7)
            have p0 : w7.cell? ⟨M, 0, none⟩ = some (.slice A0 L0.m ca0) := (cell_of_row _ _ 0 _ _ _ HM7.out).trans rfl
            have p1 : w7.cell? ⟨M, 1, none⟩ = some (.slice B0 L0.m cb0) := (cell_of_row _ _ 1 _ _ _ HM7.out).trans rfl
            have p2 : w7.cell? ⟨M, 2, none⟩ = some (.int .i64 L0.c) := (cell_of_row _ _ 2 _ _ _ HM7.out).trans rfl
            have hy7 : gy < w7.heap.size := (Array.getElem?_eq_some_iff.1 HY7.out.1).1
            have hw7 : w.heap.size ≤ w7.heap.size := HB7.out.size
            have hM7 : M < w7.heap.size := block_lt_of_cell p0
            clear hb7 HM6 HL6 HR6 HB6 HY6 n0 n1 n2
            go_wp2_with fail
            have hkb := heap_alloc_new w7 (.cells #[.slice A0 L0.m ca0, .slice B0 L0.m cb0, .int .i64 L0.c] 27 (0, 0))
            have hb8 := below1 w7 (.cells #[.slice A0 L0.m ca0, .slice B0 L0.m cb0, .int .i64 L0.c] 27 (0, 0))
            generalize w7.alloc (.cells #[.slice A0 L0.m ca0, .slice B0 L0.m cb0, .int .i64 L0.c] 27 (0, 0)) = w8 at *
            have HE8 : Hid (EncM w gx gy M w7.heap.size A0 ca0 B0 cb0 L0 (runs L0 (ds.take 0)) w8) :=
              ⟨HR7.out.below hb8, HL7.out.below hb8, (hb8.block _ hM7).trans HM7.out, HY7.out.below hb8, HB7.out.trans (hb8.mono HB7.out.size), A0, ca0, B0, cb0, HR7.out.below hb8, hkb⟩
            clear hkb hb8 HM7 HL7 HR7 HB7 HY7 p0 p1 p2 hy6
            generalize w7.heap.size = K at *
            go_loopw [15] (fun i wr => ∃ k : Nat, k ≤ n2 ∧ i = .int .i64 k ∧ EncM w gx gy M K A0 ca0 B0 cb0 L0 (runs L0 (ds.take k)) wr) (fun i _ => n2 - (intOf i).toNat)
            case atStart => exact ⟨0, Nat.zero_le _, rfl, HE8.out⟩
            case round =>
              obtain ⟨k, hk2, rfl, hrm⟩ := hrel
              obtain ⟨hq1, hq2, hq3, hq4, hq5, A, ca, B, cb, hq6, hq7⟩ := hrm
              have HM := Lib.hid hq3
              have HX := Lib.hid hq2
              have HR0 := Lib.hid hq1
              have HY := Lib.hid hq4
              have HB := Lib.hid hq5
              have HRL := Lib.hid hq6
              have HK := Lib.hid hq7
              have hKl : K < wr.heap.size := (Array.getElem?_eq_some_iff.1 hq7).1
              have hgyl : gy < wr.heap.size := (Array.getElem?_eq_some_iff.1 hq4.1).1
              clear hq1 hq2 hq3 hq4 hq5 hq6 hq7
              have j0 : (0 : Int) ≤ (k : Int) := by omega
              by_cases hlt : k < n2
              · have hkl : k < ds.length := by have := HN2.out; omega
                have j1 : (k : Int) < (n2 : Int) := by omega
                obtain ⟨b, off, rfl, hcc⟩ := (HR2.out.below HB.out).cells (by omega)
                obtain ⟨y0, y1, y2, y3⟩ := hcc k hkl
                have hbw : b < w.heap.size := by obtain ⟨b', o', e', hcw⟩ := HR2.out.cells (by omega); cases e'; exact block_lt_of_cell (hcw k hkl).1
                have HE := Lib.hid (runs_snoc L0 ds k hkl)
                have hz1 := (runs_c L0 (ds.take k)).1
                have hz2 := (runs_c L0 (ds.take k)).2
                have htl : (ds.take k).length ≤ 40 := by simp; omega
                have hfk := HF2.out ds[k] (List.getElem_mem hkl)
                generalize runs L0 (ds.take k) = L at *
                have hL0 : 0 ≤ L.c := by omega
                have hL1 : L.c ≤ 1000 := by omega
                have HS : ∀ wx, Chg [gy] wr wx → IsL wx gy L → IsR wx (.agg #[.slice A L.m ca, .slice B L.m cb, .int .i64 L.c]) L → Hid (Calls Try.prog 26 #[.pointer (some ⟨gy, 0, none⟩), .agg #[.slice A L.m ca, .slice B L.m cb, .int .i64 L.c], ds[k].val] wx (fun e w' => StepPost wx gy L ds[k] e w' ∧ Chg [gy] wr w')) :=
                  fun wx hx h1 h2 => (step_calls gy _ L ds[k] wx h1 h2 hfk hL0 hL1).mono fun e w' h => ⟨h, hx.trans' h.choose_spec.2.2.2⟩
                have z0 : ∀ w', Chg [gy] wr w' → w'.cell? ⟨K, 0, none⟩ = some (.slice A L.m ca) := fun w' h => (h.cellAt HK.out (by simp; omega)).trans rfl
                have z1 : ∀ w', Chg [gy] wr w' → w'.cell? ⟨K, 1, none⟩ = some (.slice B L.m cb) := fun w' h => (h.cellAt HK.out (by simp; omega)).trans rfl
                have z2 : ∀ w', Chg [gy] wr w' → w'.cell? ⟨K, 2, none⟩ = some (.int .i64 L.c) := fun w' h => (h.cellAt HK.out (by simp; omega)).trans rfl
                have hcell : ∀ o v w', Chg [gy] wr w' → wr.cell? ⟨b, o, none⟩ = some v → w'.cell? ⟨b, o, none⟩ = some v := fun o v w' h hv =>
                  (World.cell?_of_block (a := ⟨b, o, none⟩) (h.block b (block_lt_of_cell hv) (by simp; omega))).trans hv
                have x0 : ∀ w', Chg [gy] wr w' → w'.cell? ⟨b, off + k * 4, none⟩ = some (vb ds[k].kind) := fun w' h => hcell _ _ w' h y0
                have x1 : ∀ w', Chg [gy] wr w' → w'.cell? ⟨b, off + k * 4 + 1, none⟩ = some (.int .i64 ds[k].cl) := fun w' h => hcell _ _ w' h y1
                have x2 : ∀ w', Chg [gy] wr w' → w'.cell? ⟨b, off + k * 4 + 2, none⟩ = some (.int .i64 ds[k].ro) := fun w' h => hcell _ _ w' h y2
                have x3 : ∀ w', Chg [gy] wr w' → w'.cell? ⟨b, off + k * 4 + 3, none⟩ = some (.int .i64 ds[k].ti) := fun w' h => hcell _ _ w' h y3
                have HV : Hid (ds[k].val = .agg #[vb ds[k].kind, .int .i64 ds[k].cl, .int .i64 ds[k].ro, .int .i64 ds[k].ti]) := rfl
                clear hcc hcell y0 y1 y2 y3 htl hz1 hz2 hfk hL0 hL1
                generalize ds[k] = c at *
                have HS2 : ∀ wx, Chg [gy] wr wx → IsL wx gy L → IsR wx (.agg #[.slice A L.m ca, .slice B L.m cb, .int .i64 L.c]) L → Hid (Calls Try.prog 26 #[.pointer (some ⟨gy, 0, none⟩), .agg #[.slice A L.m ca, .slice B L.m cb, .int .i64 L.c], .agg #[vb c.kind, .int .i64 c.cl, .int .i64 c.ro, .int .i64 c.ti]] wx (fun e w' => StepPost wx gy L c e w' ∧ Chg [gy] wr w')) := HS
                clear HS
                go_wp2_with fail
                have HZ : Hid (∀ w', Chg [gy] (wr.alloc (.cells #[.slice none 0 0, .slice none 0 0, .int .i64 0] 27)).drew w' → w'.heap[wr.heap.size]? = some (.cells #[.slice none 0 0, .slice none 0 0, .int .i64 0] 27)) := fun w' h => h.blk (heap_alloc_new wr _) (by simp; omega)
                go_region_held3 (fun w' => Chg [gy] wr w') (first | exact (Chg.refl _ _).drew | assumption | exact Chg.alloc (by assumption) _ | exact ((Chg.refl _ _).alloc _).drew | exact Chg.setCell (Chg.setCell (Chg.setCell (by assumption) (.inr (Nat.le_refl _)) _) (.inr (Nat.le_refl _)) _) (.inr (Nat.le_refl _)) _) (first | (go_at_call 26; refine (HS2 wr.drew (Chg.refl _ _).drew (HY.out.below (below_drew _)) (HRL.out.below (below_drew _))).out.mono ?_; rintro e w9 ⟨⟨v9, rfl, hl9, hr9, hc9⟩, hs9⟩; have HL9 := Lib.hid hl9; have HR9 := Lib.hid hr9; obtain ⟨_, A9, ca9, B9, cb9, rfl, _, _⟩ := hr9; clear hl9 hc9) | (go_at_call 26; refine (HS2 (wr.alloc (.cells #[.slice none 0 0, .slice none 0 0, .int .i64 0] 27)).drew ((Chg.refl _ _).alloc _).drew (HY.out.below ((below1 wr _).trans ((below_drew _).mono (by simp)))) (HRL.out.below ((below1 wr _).trans ((below_drew _).mono (by simp))))).out.mono ?_; rintro e w9 ⟨⟨v9, rfl, hl9, hr9, hc9⟩, hs9⟩; have HL9 := Lib.hid hl9; have HR9 := Lib.hid hr9; obtain ⟨_, A9, ca9, B9, cb9, rfl, _, _⟩ := hr9; have HZ9 := Lib.hid (HZ.out w9 hc9); have na0 : w9.cell? ⟨wr.heap.size, 0, none⟩ = some (.slice none 0 0) := (cell_of_row _ _ 0 _ _ _ HZ9.out).trans rfl; have na1 : w9.cell? ⟨wr.heap.size, 1, none⟩ = some (.slice none 0 0) := (cell_of_row _ _ 1 _ _ _ HZ9.out).trans rfl; have na2 : w9.cell? ⟨wr.heap.size, 2, none⟩ = some (.int .i64 0) := (cell_of_row _ _ 2 _ _ _ HZ9.out).trans rfl; have f0 : w9.frozen? ⟨wr.heap.size, 0, none⟩ = false := frozen_of_row _ _ _ _ _ HZ9.out; have f1 : w9.frozen? ⟨wr.heap.size, 1, none⟩ = false := frozen_of_row _ _ _ _ _ HZ9.out; have f2 : w9.frozen? ⟨wr.heap.size, 2, none⟩ = false := frozen_of_row _ _ _ _ _ HZ9.out; clear hl9 hc9))
                all_goals (first | (have _h := na0; have hnb := heap_set3 HZ9.out (.slice A9 (next L c).m ca9) (.slice B9 (next L c).m cb9) (.int .i64 (next L c).c); have hbn := chg_set3 w9 wr.heap.size (.slice A9 (next L c).m ca9) (.slice B9 (next L c).m cb9) (.int .i64 (next L c).c); have HRn := Lib.hid (HR9.out.chg' hbn HZ9.out (Chg.refl [gy] w9) (by simp; omega)); have HLn := Lib.hid (HL9.out.chg hbn (by simp; omega)); have hcn : Chg [gy] wr (((w9.setCell ⟨wr.heap.size, 0, none⟩ (.slice A9 (next L c).m ca9)).setCell ⟨wr.heap.size, 1, none⟩ (.slice B9 (next L c).m cb9)).setCell ⟨wr.heap.size, 2, none⟩ (.int .i64 (next L c).c)) := hs9.trans hbn (by simp); have hKn : K < wr.heap.size := hKl; clear na0 na1 na2 f0 f1 f2 hbn HZ9; generalize ((w9.setCell ⟨wr.heap.size, 0, none⟩ (.slice A9 (next L c).m ca9)).setCell ⟨wr.heap.size, 1, none⟩ (.slice B9 (next L c).m cb9)).setCell ⟨wr.heap.size, 2, none⟩ (.int .i64 (next L c).c) = wn at *; generalize wr.heap.size = nb at *) | (have hnb := heap_alloc_new w9 (.cells #[.slice A9 (next L c).m ca9, .slice B9 (next L c).m cb9, .int .i64 (next L c).c] 27); have hbn := below1 w9 (.cells #[.slice A9 (next L c).m ca9, .slice B9 (next L c).m cb9, .int .i64 (next L c).c] 27); have HRn := Lib.hid (HR9.out.below hbn); have HLn := Lib.hid (HL9.out.below hbn); have hcn : Chg [gy] wr (w9.alloc (.cells #[.slice A9 (next L c).m ca9, .slice B9 (next L c).m cb9, .int .i64 (next L c).c] 27)) := hs9.alloc _; have hKn : K < w9.heap.size := Nat.lt_of_lt_of_le hKl hs9.size; clear hbn; generalize w9.alloc (.cells #[.slice A9 (next L c).m ca9, .slice B9 (next L c).m cb9, .int .i64 (next L c).c] 27) = wn at *; generalize w9.heap.size = nb at *))
                all_goals
                  have HNB := Lib.hid hnb
                  have HKn := Lib.hid (hcn.blk HK.out (by simp; omega))
                  have HCN := Lib.hid hcn
                  have HE2 : Hid (runs L0 (ds.take (k + 1)) = next L c) := HE.out
                  clear hnb hcn z0 z1 z2 x0 x1 x2 x3 HS2 HZ hs9
                  generalize next L c = L9 at *
                  have na0 : wn.cell? ⟨nb, 0, none⟩ = some (.slice A9 L9.m ca9) := (cell_of_row _ _ 0 _ _ _ HNB.out).trans rfl
                  have na1 : wn.cell? ⟨nb, 1, none⟩ = some (.slice B9 L9.m cb9) := (cell_of_row _ _ 1 _ _ _ HNB.out).trans rfl
                  have na2 : wn.cell? ⟨nb, 2, none⟩ = some (.int .i64 L9.c) := (cell_of_row _ _ 2 _ _ _ HNB.out).trans rfl
                  have ka0 : wn.cell? ⟨K, 0, none⟩ = some (.slice A L.m ca) := (cell_of_row _ _ 0 _ _ _ HKn.out).trans rfl
                  have ka1 : wn.cell? ⟨K, 1, none⟩ = some (.slice B L.m cb) := (cell_of_row _ _ 1 _ _ _ HKn.out).trans rfl
                  have ka2 : wn.cell? ⟨K, 2, none⟩ = some (.int .i64 L.c) := (cell_of_row _ _ 2 _ _ _ HKn.out).trans rfl
                  have kf0 : wn.frozen? ⟨K, 0, none⟩ = false := frozen_of_row _ _ _ _ _ HKn.out
                  have kf1 : wn.frozen? ⟨K, 1, none⟩ = false := frozen_of_row _ _ _ _ _ HKn.out
                  have kf2 : wn.frozen? ⟨K, 2, none⟩ = false := frozen_of_row _ _ _ _ _ HKn.out
                  go_wp2_with fail
                  have hz := heap_set3 HKn.out (.slice A9 L9.m ca9) (.slice B9 L9.m cb9) (.int .i64 L9.c)
                  have hcz := chg_set3 wn K (.slice A9 L9.m ca9) (.slice B9 L9.m cb9) (.int .i64 L9.c)
                  generalize ((wn.setCell ⟨K, 0, none⟩ (.slice A9 L9.m ca9)).setCell ⟨K, 1, none⟩ (.slice B9 L9.m cb9)).setCell ⟨K, 2, none⟩ (.int .i64 L9.c) = wz at *
                  have hbz : Below w.heap.size w wz := (HB.out.trans (HCN.out.below HB.out.size (by simp; omega))).trans (hcz.below (Nat.le_trans HB.out.size HCN.out.size) (by simp; omega))
                  have HRM : Hid (EncM w gx gy M K A0 ca0 B0 cb0 L0 (runs L0 (ds.take (k + 1))) wz) := by
                    rw [HE2.out]
                    exact ⟨(HR0.out.chg HY.out HCN.out).chg' hcz HKn.out (Chg.refl [gy] wn) (by simp; omega), (HX.out.chg HCN.out (by simp; omega)).chg hcz (by simp; omega), hcz.blk (HCN.out.blk HM.out (by simp; omega)) (by simp; omega), HLn.out.chg hcz (by simp; omega), hbz, A9, ca9, B9, cb9, HRn.out.chg' hcz HKn.out (Chg.refl [gy] wn) (by simp; omega), hz⟩
                  clear hz hcz hbz na0 na1 na2 ka0 ka1 ka2 kf0 kf1 kf2
                  go_roundw
                  case rel => exact ⟨k + 1, by omega, by go_num, HRM.out⟩
                  case measure => simp [intOf]; omega
              · have HKN : Hid (k = n2) := by show _ = _; omega
                have ka0 : wr.cell? ⟨K, 0, none⟩ = some (.slice A (runs L0 (ds.take k)).m ca) := (cell_of_row _ _ 0 _ _ _ HK.out).trans rfl
                have ka1 : wr.cell? ⟨K, 1, none⟩ = some (.slice B (runs L0 (ds.take k)).m cb) := (cell_of_row _ _ 1 _ _ _ HK.out).trans rfl
                have ka2 : wr.cell? ⟨K, 2, none⟩ = some (.int .i64 (runs L0 (ds.take k)).c) := (cell_of_row _ _ 2 _ _ _ HK.out).trans rfl
                generalize runs L0 (ds.take k) = L at *
                go_wp2_with fail
                refine (same_calls gy _ L wr HY.out HRL.out).mono ?_
                rintro e w9 ⟨rfl, hb9⟩
                have HB9 := Lib.hid (HB.out.trans (hb9.mono HB.out.size))
                have HX9 := Lib.hid (HX.out.below hb9)
                have HR9 := Lib.hid (HR0.out.below hb9)
                have HM9 := Lib.hid ((hb9.block M (Array.getElem?_eq_some_iff.1 HM.out).1).trans HM.out)
                have m0 : w9.cell? ⟨M, 0, none⟩ = some (.slice A0 L0.m ca0) := (cell_of_row _ _ 0 _ _ _ HM9.out).trans rfl
                have m1 : w9.cell? ⟨M, 1, none⟩ = some (.slice B0 L0.m cb0) := (cell_of_row _ _ 1 _ _ _ HM9.out).trans rfl
                have m2 : w9.cell? ⟨M, 2, none⟩ = some (.int .i64 L0.c) := (cell_of_row _ _ 2 _ _ _ HM9.out).trans rfl
                clear hb9 ka0 ka1 ka2
                go_wp2_with fail
                refine (same_calls gx _ L0 w9 HX9.out HR9.out).mono ?_
                rintro e w10 ⟨rfl, hb10⟩
                have HB10 := Lib.hid (HB9.out.trans (hb10.mono HB9.out.size))
                clear hb10
                go_wp2_with fail
                go_ret
                exact ⟨rfl, HB10.out⟩
    · have d2 : decide ((40 : Int) < (n2 : Int)) = true := by simp; omega
      go_enter Try.func8, Try.ntmps8
      go_wp2_with fail
      refine (awake_calls w).mono ?_
      rintro e w1 ⟨rfl, hb⟩
      have HB := Lib.hid hb
      clear hb
      go_wp2_with fail
      go_ret
      exact ⟨rfl, HB.out⟩
  · have d1 : decide ((40 : Int) < (n : Int)) = true := by simp; omega
    go_enter Try.func8, Try.ntmps8
    go_wp2_with fail
    refine (awake_calls w).mono ?_
    rintro e w1 ⟨rfl, hb⟩
    have HB := Lib.hid hb
    clear hb
    go_wp2_with fail
    go_ret
    exact ⟨rfl, HB.out⟩
end Ls
end Go.Proofs.Ytmdconcbelmdpaa
