/- The walk of the law DiskDurable. -/
import Derived.Test.YtoallpinpeolfaaDkN
namespace Go.Proofs.Ytoallpinpeolfaa
open Go.RowKit
namespace Dk

def wcells (wl : List Bool) : List Value := wl.map Value.bool
theorem wcells_get (wl : List Bool) (i : Nat) (h : i < wl.length) : (wcells wl)[i]? = some (.bool wl[i]) := by simp [wcells, List.getElem?_eq_getElem h]
theorem wcells_set (wl : List Bool) (i : Nat) (b : Bool) : (wcells wl).toArray.setIfInBounds i (.bool b) = (wcells (wl.set i b)).toArray := by
  simp [wcells, List.map_set]
/-- what the second loop has at hand -/
def DurR (w : World) (g W xb : Nat) (B0 : List UInt8) (D : St) (wl : List Bool) (wr : World) : Prop :=
  OwnF w [W, xb] g D wr ∧ wr.heap[W]? = some (.cells (wcells wl).toArray 4 (0, 0)) ∧ RB wr (some ⟨xb, 0, none⟩) B0 ∧ wl.length = 6 ∧ D.n = 6 ∧ D.b = B0 ∧ Cov D wl

set_option maxRecDepth 100000 in
set_option maxHeartbeats 4000000 in
theorem durable_law (w : World) (A : Option Addr) (n ca : Nat) (ms : List Cm) (hn : ms.length = n) (hr : RdM w A ms) (hnm : n ≤ 9223372036854775807)
    (A2 : Option Addr) (n2 ca2 : Nat) (ms2 : List Cm) (hn2 : ms2.length = n2) (hr2 : RdM w A2 ms2) (hnm2 : n2 ≤ 9223372036854775807)
    (Z : Option Addr) (zn zc : Nat) (sv : List Int) (hz : sv.length = zn) (hrz : Rd w Z (sv.map (Value.int .i64))) (hzm : zn ≤ 9223372036854775807) :
    Calls Try.prog 4 #[.slice A n ca, .slice A2 n2 ca2, .slice Z zn zc] w (Yes w) := by
  have HN := Lib.hid hn
  have HR := Lib.hid hr
  have HN2 := Lib.hid hn2
  have HR2 := Lib.hid hr2
  have HZ := Lib.hid hz
  have HRZ := Lib.hid hrz
  clear hn hr hn2 hr2 hz hrz
  go_enter Try.func4, Try.ntmps4
  go_wp2_with fail
  refine (awake_calls w).mono ?_
  rintro e w1 ⟨rfl, hb1⟩
  have HB1 := Lib.hid hb1
  clear hb1
  go_wp2_with fail
  refine (few_calls A n ca 12 ms w1 HN.out (HR.out.below HB1.out) hnm).mono ?_
  rintro e w2 ⟨rfl, rfl⟩
  cases hf : fewB ms 12 with
  | false =>
    go_wp2_with fail
    go_ret
    exact ⟨rfl, HB1.out⟩
  | true =>
    obtain ⟨_, hn16⟩ := fewB_of hf
    rw [HN.out] at hn16
    clear hf
    go_wp2_with fail
    refine (few_calls A2 n2 ca2 12 ms2 w1 HN2.out (HR2.out.below HB1.out) hnm2).mono ?_
    rintro e w2 ⟨rfl, rfl⟩
    cases hf : fewB ms2 12 with
    | false =>
      go_wp2_with fail
      go_ret
      exact ⟨rfl, HB1.out⟩
    | true =>
      obtain ⟨_, hn17⟩ := fewB_of hf
      rw [HN2.out] at hn17
      clear hf
      by_cases hz20 : zn ≤ 20
      · have dz : decide ((20 : Int) < (zn : Int)) = false := by simp; omega
        go_wp2_with fail
        refine (own_new 6 (by omega) (by omega) HB1.out).mono ?_
        rintro e w2 ⟨g, rfl, h2⟩
        have H2 : Hid (Own w g (runs (newD 6) (ms.take 0)) w2) := h2
        clear h2 HB1
        go_wp2_with fail
        go_loopw [9] (fun i wr => ∃ k : Nat, k ≤ n ∧ i = .int .i64 k ∧ Own w g (runs (newD 6) (ms.take k)) wr) (fun i _ => n - (intOf i).toNat)
        case atStart => exact ⟨0, by omega, rfl, H2.out⟩
        case round =>
          obtain ⟨k, hk, rfl, ho⟩ := hrel
          have HO := Lib.hid ho
          clear ho
          have j0 : (0 : Int) ≤ (k : Int) := by omega
          by_cases hlt : k < n
          · have j1 : (k : Int) < (n : Int) := by omega
            have hkl : k < ms.length := by have := HN.out; omega
            obtain ⟨b, off, rfl, _, x0, x1, x2, x3, x4⟩ := (HR.out.below HO.out.b).cells k hkl
            have HE := Lib.hid (runs_snoc (newD 6) ms k hkl)
            have hpl := runs_p (newD 6) (ms.take k)
            have hp1 : (runs (newD 6) (ms.take k)).p.length ≤ 1000 := by
              have : (ms.take k).length ≤ k := List.length_take_le _ _
              have h0 : (newD 6).p.length = 0 := rfl
              omega
            have HS := Lib.hid (own_step HO.out ms[k] (HR.out.ok _ (List.getElem_mem hkl)) hp1)
            unfold Cm.val at HS
            obtain ⟨m, HM⟩ : ∃ x, Hid (ms[k] = x) := ⟨ms[k], rfl⟩
            rw [HM.out] at HE HS x0 x1 x2 x3 x4
            clear hpl hp1
            generalize runs (newD 6) (ms.take k) = D at *
            generalize hD1 : stD D m.c = D1 at *
            clear hD1
            generalize m.c.sv.length = sl at *
            go_wp2_with fail
            refine HS.out.mono ?_
            rintro e w3 ⟨X, nn, cx, rfl, _, _, _, h3⟩
            have H3 : Hid (Own w g (runs (newD 6) (ms.take (k + 1))) w3) := by rw [HE.out]; exact h3
            clear h3 x0 x1 x2 x3 x4
            go_wp2_with fail
            go_roundw
            case rel => exact ⟨k + 1, by omega, by go_num, H3.out⟩
            case measure => simp [intOf]; omega
          · have hn6 : Hid ((runs (newD 6) (ms.take k)).n = 6) := runs_n _ _
            generalize runs (newD 6) (ms.take k) = D at *
            go_wp2_with fail
            refine (own_sync HO.out).mono ?_
            rintro e w3 ⟨rfl, h3⟩
            have H3 := Lib.hid h3
            clear h3
            by_cases hse : syncE D = 0
            · have hok := HO.out.ok
              have HD1 : Hid ((syncD D).n = 6 ∧ (syncD D).p = [] ∧ (syncD D).x = false) := by
                by_cases hx : D.x = true
                · rw [(sync_x hx).2] at hse; cases hse
                · have hx' : D.x = false := by simpa using hx
                  by_cases h0 : D.f = 0
                  · rw [(sync_0 hx' h0).2] at hse; cases hse
                  · rw [(sync_ok hx' h0).1]; exact ⟨hn6.out, rfl, hx'⟩
              rw [hse]
              clear hse hok HO
              generalize syncD D = D1 at *
              go_wp2_with fail
              refine (ownF_read H3.out.ownF 0 6 (by omega) (by omega)).mono ?_
              rintro e w4 ⟨X4, n4, c4, rfl, hn4, o4, hb4, h4⟩
              have hok1 := h4.ok
              rw [readL_full D1 hok1 HD1.out.1 HD1.out.2.2, all_nil D1 HD1.out.2.1] at hn4 o4
              rw [readE_full D1 HD1.out.1, HD1.out.2.2]
              have hbl : D1.b.length = 384 := by rw [hok1.b, HD1.out.1]
              rw [hbl] at hn4
              subst hn4
              rcases o4.2 with ⟨_, h0⟩ | ⟨xb, _, _, e4, hxb1, hxb2, _⟩
              · cases h0
              · cases e4
                have HR4 := Lib.hid (RB.of_own o4)
                have hc4 : 384 ≤ c4 := by obtain ⟨_, _, e9, h9, _⟩ := own_form o4; cases e9; exact h9
                have hxl := (Array.getElem?_eq_some_iff.1 hxb2).1
                have H4 : Hid (OwnF w [xb] g D1 w4) := by
                  have := h4
                  have := H3.out.ownF.add hb4 [xb] (by simp; omega)
                  exact this
                clear o4 h4 hok1 hbl hxb2 hb4
                have d384 : ((384 : Int) != 384) = false := rfl
                simp only [Bool.false_eq_true, if_false]
                go_wp2_with fail
                have hwb := below1 w4 (.cells #[.bool false, .bool false, .bool false, .bool false, .bool false, .bool false] 4)
                have hwk := heap_alloc_new w4 (.cells #[.bool false, .bool false, .bool false, .bool false, .bool false, .bool false] 4)
                generalize w4.alloc (.cells #[.bool false, .bool false, .bool false, .bool false, .bool false, .bool false] 4) = w5 at *
                have hxW : xb < w4.heap.size := hxl
                have HDU : Hid (DurR w g w4.heap.size xb D1.b D1 (List.replicate 6 false) w5) := by
                  refine ⟨H4.out.add hwb [w4.heap.size] (by simp; exact (Array.getElem?_eq_some_iff.1 hwk).1), hwk, RB.below HR4.out hwb, rfl, HD1.out.1, rfl, ?_⟩
                  intro q hq; rw [HD1.out.2.1] at hq; cases hq
                have hwW : w.heap.size ≤ w4.heap.size := H4.out.b.size
                have hwX : w.heap.size ≤ xb := by have := H3.out.b.size; omega
                clear hwb hwk
                obtain ⟨B0, HB0⟩ : ∃ x, Hid (D1.b = x) := ⟨_, rfl⟩
                rw [HB0.out] at HDU
                generalize w4.heap.size = W at *
                clear H4 HR4
                have HPL : Hid (D1.p.length ≤ 0) := by rw [HD1.out.2.1]; exact Nat.le_refl _
                clear H3 H2
                go_loopw [13] (fun i wr => ∃ (j : Nat) (D : St) (wl : List Bool), j ≤ n2 ∧ i = .int .i64 j ∧ D.p.length ≤ j ∧ DurR w g W xb B0 D wl wr) (fun i _ => n2 - (intOf i).toNat)
                case atStart => exact ⟨0, D1, _, by omega, rfl, HPL.out, HDU.out⟩
                case round =>
                  obtain ⟨j, D2, wl, hj, rfl, hpl, ⟨q1, q2, q3, q4, q5, q6, q7⟩⟩ := hrel
                  have HO := Lib.hid q1
                  have HW := Lib.hid q2
                  have HX := Lib.hid q3
                  have HWL := Lib.hid q4
                  have HN6 := Lib.hid q5
                  have HBB := Lib.hid q6
                  have HCV := Lib.hid q7
                  have hWl : W < wr.heap.size := (Array.getElem?_eq_some_iff.1 q2).1
                  clear q1 q2 q3 q4 q5 q6 q7
                  have i0 : (0 : Int) ≤ (j : Int) := by omega
                  by_cases hlt2 : j < n2
                  · have i1 : (j : Int) < (n2 : Int) := by omega
                    have hkl : j < ms2.length := by have := HN2.out; omega
                    obtain ⟨b, off, rfl, hbw, x0, x1, x2, x3, x4⟩ := HR2.out.cells j hkl
                    have hok := HR2.out.ok _ (List.getElem_mem hkl)
                    obtain ⟨m, HM⟩ : ∃ x, Hid (ms2[j] = x) := ⟨ms2[j], rfl⟩
                    rw [HM.out] at x0 x1 x2 x3 x4 hok
                    have hs1 := hok.s1
                    have hs2 := hok.s2
                    have hat : ∀ o v (w' : World), w'.heap[b]? = w.heap[b]? → w.cell? ⟨b, o, none⟩ = some v → w'.cell? ⟨b, o, none⟩ = some v := fun o v w' h hv => (World.cell?_of_block (a := ⟨b, o, none⟩) h).trans hv
                    have z0 : ∀ w' : World, w'.heap[b]? = w.heap[b]? → w'.cell? ⟨b, off + j * 5, none⟩ = some (.int .i64 m.c.kind) := fun w' h => hat _ _ w' h x0
                    have z1 : ∀ w' : World, w'.heap[b]? = w.heap[b]? → w'.cell? ⟨b, off + j * 5 + 1, none⟩ = some (.int .i64 m.c.sec) := fun w' h => hat _ _ w' h x1
                    have z2 : ∀ w' : World, w'.heap[b]? = w.heap[b]? → w'.cell? ⟨b, off + j * 5 + 2, none⟩ = some (.int .i64 m.c.n) := fun w' h => hat _ _ w' h x2
                    have z3 : ∀ w' : World, w'.heap[b]? = w.heap[b]? → w'.cell? ⟨b, off + j * 5 + 3, none⟩ = some (vb m.c.seed) := fun w' h => hat _ _ w' h x3
                    have z4 : ∀ w' : World, w'.heap[b]? = w.heap[b]? → w'.cell? ⟨b, off + j * 5 + 4, none⟩ = some (.slice m.a m.c.sv.length m.cap) := fun w' h => hat _ _ w' h x4
                    have hbr : wr.heap[b]? = w.heap[b]? := HO.out.b.block b hbw
                    have HDA : ∀ w', Hid (Calls Try.prog 13 #[.agg #[.int .i64 m.c.kind, .int .i64 m.c.sec, .int .i64 m.c.n, vb m.c.seed, .slice m.a m.c.sv.length m.cap]] w' (NewL w' (dataB m.c))) := fun w' => data_calls m w'
                    have hdl := dataB_len m.c
                    clear hat x0 x1 x2 x3 x4 hok
                    have y0 := z0 wr hbr
                    have HDR : Hid (DurR w g W xb B0 D2 wl wr) := ⟨HO.out, HW.out, HX.out, HWL.out, HN6.out, HBB.out, HCV.out⟩
                    have HCW := Lib.hid (fun he => cov_write D2 wl m.c.sec (dataB m.c) HN6.out HWL.out HCV.out he)
                    have HCN := Lib.hid (fun he => cov_nowrite D2 wl m.c.sec (dataB m.c) HCV.out he)
                    have HWN : Hid ((writeD D2 m.c.sec (dataB m.c)).n = 6) := by show _ = _; rw [writeD_n]; exact HN6.out
                    have hwp := writeD_p D2 m.c.sec (dataB m.c)
                    generalize dataB m.c = dl at *
                    generalize m.c.kind = kd at *
                    generalize m.c.sec = sc at *
                    generalize m.c.n = mn at *
                    generalize vb m.c.seed = sd at *
                    generalize m.c.sv.length = sl at *
                    by_cases hk01 : 0 ≤ kd ∧ kd ≤ 1
                    · have e1 : decide (1 < kd) = false := by simp; omega
                      have e2 : decide (kd < 0) = false := by simp; omega
                      have y1 := z1 wr hbr
                      have y2 := z2 wr hbr
                      have y3 := z3 wr hbr
                      have y4 := z4 wr hbr
                      go_wp2_with fail
                      refine (HDA wr).out.mono ?_
                      rintro e w6 ⟨X6, c6, rfl, _, hb6⟩
                      have HO6 := Lib.hid (HO.out.below hb6)
                      have HK6 := Lib.hid (Kept.of_below HO.out.lt hb6)
                      have hb6' : w6.drew.heap[b]? = w.heap[b]? := HO6.out.b.block b hbw
                      obtain ⟨nk, HNK⟩ : ∃ x, Hid (dl.length / 64 = x) := ⟨_, rfl⟩
                      have he64 : (dl.length : Int) / 64 = (nk : Int) := by have := HNK.out; omega
                      rw [HNK.out] at HCW
                      clear hb6 y0 y1 y2 y3 y4
                      go_wp2_with fail
                      go_region_held3 (fun w' => w'.heap[b]? = w.heap[b]?) (first | exact hb6' | assumption) (first | (go_at_call 13; refine (HDA w6.drew).out.mono ?_; rintro e w7 ⟨X7, c7, rfl, o7, hb7⟩; have HR7 := Lib.hid (RB.of_own o7); have HO7 := Lib.hid ((HO6.out.below (below_drew _)).below hb7); have HK7 := Lib.hid (Kept.of_below (fun x hx => HO6.out.lt x hx) ((below_drew w6).trans hb7)); have hs7 : w7.heap[b]? = w.heap[b]? := HO7.out.b.block b hbw; clear o7 hb7) | (go_at_call 14; refine (ownF_write HO7.out sc X7 dl.length c7 dl rfl HR7.out (by omega) hs1 hs2 (by omega)).mono ?_; rintro e w8 ⟨rfl, h8, k8⟩; have HO8 := Lib.hid h8; have HK8 := Lib.hid (HK6.out.trans (HK7.out.trans k8)); have hs8 : w8.heap[b]? = w.heap[b]? := h8.b.block b hbw; clear h8 k8))
                      have HK := HK8
                      have HW8 : Hid (w8.heap[W]? = some (.cells (wcells wl).toArray 4 (0, 0))) := (HK8.out W (by simp)).trans HW.out
                      have HX8 : Hid (RB w8 (some ⟨xb, 0, none⟩) B0) := HK8.out.rd HX.out (fun _ b off e => by cases e; simp)
                      clear hb6' hs7 hs8 z0 z2 z3 z4 HDA
                      by_cases hwe : writeE D2 sc dl = 0
                      · obtain ⟨si, hsi, hs6, hcv, hb2⟩ := HCW.out hwe
                        subst hsi
                        have HC2 := Lib.hid hcv
                        have HBB2 := Lib.hid hb2
                        rw [hwe]
                        clear hcv hb2 hwe HCW HCN
                        generalize writeD D2 (si : Int) dl = D3 at *
                        go_wp2_with fail
                        have HST : Hid (OwnF w [W, xb] g D3 w8 ∧ w8.heap[W]? = some (.cells (wcells (marks wl si 0)).toArray 4 (0, 0)) ∧ RB w8 (some ⟨xb, 0, none⟩) B0) := ⟨HO8.out, HW8.out, HX8.out⟩
                        go_loopw [15] (fun i wr => ∃ q : Nat, q ≤ nk ∧ i = .int .i64 q ∧ OwnF w [W, xb] g D3 wr ∧ wr.heap[W]? = some (.cells (wcells (marks wl si q)).toArray 4 (0, 0)) ∧ RB wr (some ⟨xb, 0, none⟩) B0) (fun i _ => nk - (intOf i).toNat)
                        case atStart => exact ⟨0, by omega, rfl, HST.out⟩
                        case round =>
                          obtain ⟨q, hq, rfl, r1, r2, r3⟩ := hrel
                          have HR1 := Lib.hid r1
                          have HR2' := Lib.hid r2
                          have HR3 := Lib.hid r3
                          clear r1 r2 r3
                          have k0 : (0 : Int) ≤ (q : Int) := by omega
                          by_cases hqn : q < nk
                          · have k1 : (q : Int) < (nk : Int) := by omega
                            have y1 := z1 _ (HR1.out.b.block b hbw)
                            have hml : (marks wl si q).length = 6 := by rw [marks_len, HWL.out]
                            have htn : ((si : Int) + (q : Int)).toNat = si + q := by omega
                            have b0 : (0 : Int) ≤ (si : Int) + (q : Int) := by omega
                            have b1 : (si : Int) + (q : Int) < 6 := by omega
                            have c0 := cell_of_row _ _ (si + q) _ _ _ HR2'.out
                            rw [List.getElem?_toArray, wcells_get _ _ (by omega)] at c0
                            have f0 := frozen_of_row _ _ (si + q) _ _ HR2'.out
                            go_wp2_with fail
                            have hcs : Chg [W] wr (wr.setCell ⟨W, si + q, none⟩ (.bool true)) := (Chg.refl [W] wr).setCell (p := ⟨W, si + q, none⟩) (.inl (by simp)) _
                            have HG1 : Hid (OwnF w [W, xb] g D3 (wr.setCell ⟨W, si + q, none⟩ (.bool true))) := HR1.out.wr hcs (by simp; omega)
                            have HG2 : Hid ((wr.setCell ⟨W, si + q, none⟩ (.bool true)).heap[W]? = some (.cells (wcells (marks wl si (q + 1))).toArray 4 (0, 0))) := by
                              show (World.heap _)[W]? = some (Obj.cells (wcells ((marks wl si q).set (si + q) true)).toArray 4 (0, 0))
                              rw [← wcells_set]; exact heap_setCell_same _ _ _ _ _ _ HR2'.out
                            have HG3 : Hid (RB (wr.setCell ⟨W, si + q, none⟩ (.bool true)) (some ⟨xb, 0, none⟩) B0) := hcs.rd HR3.out (fun b off e => by cases e; simp; omega)
                            clear hcs c0 f0 y1 htn b0 b1
                            go_roundw
                            case rel => exact ⟨q + 1, by omega, by go_num, HG1.out, HG2.out, HG3.out⟩
                            case measure => simp [intOf]; omega
                          · have HQ : Hid (q = nk) := by show _ = _; omega
                            rw [HQ.out] at HR2'
                            have HFD : Hid (DurR w g W xb B0 D3 (marks wl si nk) wr) := ⟨HR1.out, HR2'.out, HR3.out, by rw [marks_len]; exact HWL.out, HWN.out, HBB2.out.trans HBB.out, HC2.out⟩
                            go_wp2_with fail
                            go_roundw
                            case rel => exact ⟨j + 1, D3, _, by omega, by go_num, by omega, HFD.out⟩
                            case measure => simp [intOf]; omega
                      · have hwe' : (writeE D2 sc dl == 0) = false := by simpa using hwe
                        obtain ⟨hcv, hb2, hpe⟩ := HCN.out hwe
                        have HFD : Hid (DurR w g W xb B0 (writeD D2 sc dl) wl w8) := ⟨HO8.out, HW8.out, HX8.out, HWL.out, HWN.out, hb2.trans HBB.out, hcv⟩
                        clear hwe hcv hb2 hpe HCW HCN
                        generalize writeD D2 sc dl = D3 at *
                        generalize writeE D2 sc dl = er at *
                        go_wp2_with fail
                        go_roundw
                        case rel => exact ⟨j + 1, D3, wl, by omega, by go_num, by omega, HFD.out⟩
                        case measure => simp [intOf]; omega
                    · clear HDA z1 z2 z3 z4 HCW HCN hwp HWN
                      by_cases hk1 : 1 < kd
                      · have e1 : decide (1 < kd) = true := by simpa using hk1
                        go_wp2_with fail
                        go_roundw
                        case rel => exact ⟨j + 1, D2, wl, by omega, by go_num, by omega, HDR.out⟩
                        case measure => simp [intOf]; omega
                      · have e1 : decide (1 < kd) = false := by simpa using hk1
                        have e2 : decide (kd < 0) = true := by simp; omega
                        go_wp2_with fail
                        go_roundw
                        case rel => exact ⟨j + 1, D2, wl, by omega, by go_num, by omega, HDR.out⟩
                        case measure => simp [intOf]; omega
                  · have HSC : Hid (∀ k, wl[k]? = some false → sec (crashD D2 sv).all k = sec B0 k) := fun k hk => (cov_crash D2 wl sv HO.out.ok HCV.out k hk).trans (by rw [HBB.out])
                    have HB0L : Hid (B0.length = 384) := by show _ = _; rw [← HBB.out, HO.out.ok.b, HN6.out]
                    go_wp2_with fail
                    refine (ownF_crash HO.out Z zn zc sv HZ.out HRZ.out).mono ?_
                    rintro e w6 ⟨rfl, h6, k6⟩
                    have HO6 := Lib.hid h6
                    have HW6 : Hid (w6.heap[W]? = some (.cells (wcells wl).toArray 4 (0, 0))) := (k6 W (by simp)).trans HW.out
                    have HX6 : Hid (RB w6 (some ⟨xb, 0, none⟩) B0) := k6.rd HX.out (fun _ b off e => by cases e; simp)
                    have HCD : Hid ((crashD D2 sv).n = 6 ∧ (crashD D2 sv).x = false) := ⟨HN6.out, rfl⟩
                    clear h6 k6 HO HW HX
                    generalize crashD D2 sv = D3 at *
                    go_wp2_with fail
                    refine (ownF_read HO6.out 0 6 (by omega) (by omega)).mono ?_
                    rintro e w7 ⟨X7, n7, c7, rfl, hn7, o7, hb7, h7⟩
                    have hok3 := HO6.out.ok
                    rw [readL_full D3 hok3 HCD.out.1 HCD.out.2] at hn7 o7
                    rw [readE_full D3 HCD.out.1, HCD.out.2]
                    simp only [Bool.false_eq_true, if_false]
                    have HAL : Hid (D3.all.length = 384) := by show _ = _; rw [hok3.all, HCD.out.1]
                    rw [HAL.out] at hn7
                    subst hn7
                    have HR7 := Lib.hid (RB.of_own o7)
                    have HO7 := Lib.hid h7
                    have HW7 : Hid (w7.heap[W]? = some (.cells (wcells wl).toArray 4 (0, 0))) := (hb7.block W (Array.getElem?_eq_some_iff.1 HW6.out).1).trans HW6.out
                    have HX7 := Lib.hid (RB.below HX6.out hb7)
                    obtain ⟨_, _, e7, hc7, _⟩ := own_form o7
                    cases e7
                    clear o7 hb7 h7 hok3
                    go_wp2_with fail
                    have HB7 := Lib.hid HO7.out.b
                    go_loopw [18] (fun i wr => ∃ q : Nat, q ≤ 6 ∧ i = .int .i64 q ∧ Below w7.heap.size w7 wr) (fun i _ => 6 - (intOf i).toNat)
                    case atStart => exact ⟨0, by omega, rfl, Below.refl _ _⟩
                    case round =>
                      obtain ⟨q, hq, rfl, hbq⟩ := hrel
                      have HBQ := Lib.hid hbq
                      have HWQ : Hid (wr.heap[W]? = some (.cells (wcells wl).toArray 4 (0, 0))) := (hbq.block W (Array.getElem?_eq_some_iff.1 HW7.out).1).trans HW7.out
                      have HXQ := Lib.hid (RB.below HX7.out hbq)
                      have HRQ := Lib.hid (RB.below HR7.out hbq)
                      clear hbq
                      have k0 : (0 : Int) ≤ (q : Int) := by omega
                      by_cases hq6 : q < 6
                      · have k1 : (q : Int) < 6 := by omega
                        have hql : q < wl.length := by have := HWL.out; omega
                        have c0 := cell_of_row _ _ q _ _ _ HWQ.out
                        rw [List.getElem?_toArray, wcells_get _ _ hql] at c0
                        have HSQ := Lib.hid (HSC.out q)
                        obtain ⟨lo, hlo⟩ : ∃ lo : Nat, lo = 64 * q := ⟨_, rfl⟩
                        obtain ⟨hi, hhi⟩ : ∃ hi : Nat, hi = 64 * q + 64 := ⟨_, rfl⟩
                        have u1 : IntKind.i64.wrap (64 * (q : Int)) = (lo : Int) := by rw [IntKind.wrap_i64]; omega
                        have u2 : IntKind.i64.wrap ((lo : Int) + 64) = (hi : Int) := by rw [IntKind.wrap_i64]; omega
                        cases hb : wl[q] with
                        | true =>
                          rw [hb] at c0
                          go_wp2_with fail
                          go_quiet (fail)
                          go_wp2_with fail
                          have HBX := Lib.hid (blw_drewN HBQ.out nq)
                          go_roundw
                          case rel => exact ⟨q + 1, by omega, by go_num, HBX.out⟩
                          case measure => simp [intOf]; omega
                        | false =>
                          rw [hb] at c0
                          have HEQ : Hid (sec D3.all q = sec B0 q) := HSQ.out (by rw [List.getElem?_eq_getElem hql, hb])
                          have l1 : (sec B0 q).length = 64 := sec_len B0 6 q HB0L.out hq6
                          have l2 : (sec D3.all q).length = 64 := sec_len D3.all 6 q HAL.out hq6
                          have HSM : Hid (∀ z, Calls Try.prog 17 #[.slice (cutA (some ⟨xb, 0, none⟩) lo c4) (hi - lo) (c4 - lo), .slice (cutA X7 lo c7) (hi - lo) (c7 - lo)] (wr.drewN z) fun e w' => e = .returned (.bool true) ∧ w' = wr.drewN z) := by
                            intro z
                            have h1 : hi - lo = 64 := by omega
                            rw [h1]
                            have hsec : ∀ l : List UInt8, (l.drop lo).take 64 = sec l q := fun l => by rw [hlo]; rfl
                            have r1 : RB (wr.drewN z) (cutA (some ⟨xb, 0, none⟩) lo c4) (sec B0 q) := by
                              rw [← hsec]; exact RB.take (RB.cut (w := wr.drewN z) HXQ.out lo c4 (by rw [HB0L.out]; exact hc4)) 64
                            have r2 : RB (wr.drewN z) (cutA X7 lo c7) (sec D3.all q) := by
                              rw [← hsec]; exact RB.take (RB.cut (w := wr.drewN z) HRQ.out lo c7 (by rw [HAL.out]; exact hc7)) 64
                            have := same_calls _ _ 64 64 (c4 - lo) (c7 - lo) _ _ (wr.drewN z) l1 l2 r1 r2
                            rw [HEQ.out, show sameB (sec B0 q) (sec B0 q) = true by simp [sameB]] at this
                            exact this.mono fun e w' ⟨a, b⟩ => ⟨a, b.symm⟩
                          have hcut1 : ∀ w', (Instr.slice 30 (.slice (some ⟨xb, 0, none⟩) 384 c4) (some (.int .i64 (lo : Int))) (some (.int .i64 (hi : Int))) none).run Try.prog w' = .ok (.slice (cutA (some ⟨xb, 0, none⟩) lo c4) (hi - lo) (c4 - lo)) w' := fun w' => run_cut_lh Try.underlying30 (by kernel_rfl) size_u8 (some ⟨xb, 0, none⟩) 384 c4 lo hi (by omega) (by omega) w'
                          have hcut2 : ∀ w', (Instr.slice 30 (.slice X7 384 c7) (some (.int .i64 (lo : Int))) (some (.int .i64 (hi : Int))) none).run Try.prog w' = .ok (.slice (cutA X7 lo c7) (hi - lo) (c7 - lo)) w' := fun w' => run_cut_lh Try.underlying30 (by kernel_rfl) size_u8 X7 384 c7 lo hi (by omega) (by omega) w'
                          clear hlo hhi l1 l2 HSQ hb
                          generalize hi - lo = len at *
                          generalize cutA (some ⟨xb, 0, none⟩) lo c4 = Xa at *
                          generalize cutA X7 lo c7 = Xb at *
                          generalize c4 - lo = ca' at *
                          generalize c7 - lo = cb' at *
                          go_wp2_with fail
                          go_quiet ((go_at_call 17; exact Calls.quiet_of_same (HSM.out _)))
                          go_wp2_with fail
                          have HBX := Lib.hid (blw_drewN HBQ.out nq)
                          go_roundw
                          case rel => exact ⟨q + 1, by omega, by go_num, HBX.out⟩
                          case measure => simp [intOf]; omega
                      · go_wp2_with fail
                        go_ret
                        exact ⟨rfl, HB7.out.trans (HBQ.out.mono HB7.out.size)⟩
            · have hse' : (syncE D != 0) = true := by simpa using hse
              clear hse
              go_wp2_with fail
              go_ret
              exact ⟨rfl, H3.out.b⟩
      · have dz : decide ((20 : Int) < (zn : Int)) = true := by simp; omega
        go_wp2_with fail
        go_ret
        exact ⟨rfl, HB1.out⟩
end Dk
end Go.Proofs.Ytoallpinpeolfaa
