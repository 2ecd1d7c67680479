/- The walks of refmeshref19: Crash. -/
import Derived.Test.YtoallpinpeolfaaDkX
namespace Go.Proofs.Ytoallpinpeolfaa
open Go.RowKit
namespace Dk

set_option maxRecDepth 100000 in
set_option maxHeartbeats 4000000 in
theorem rcrash_calls (v : Value) (N0 : List Nat) (D : St) (Z : Option Addr) (zn zc : Nat) (sv : List Int) (w : World) (h : IsK w N0 v D) (hz : sv.length = zn) (hzr : Rd w Z (sv.map (Value.int .i64))) : Calls Try.prog 44 #[v, .slice Z zn zc] w (KP w N0 (crashD D sv) id) := by
  obtain ⟨A, ca, X, cx, P, rfl, h⟩ := h
  have HI := Lib.hid h
  have hok := h.ok
  have hn := hok.n2
  have hc1 := h.c1
  have hc2 := h.c2
  have hc3 := h.c3
  have hc4 := h.c4
  have HC1 := Lib.hid hc1
  have HC2 := Lib.hid hc2
  unfold maxLen at hc2 hc4
  have HPP : Hid (setB D.b D.p (cSv sv) D.p.length = setB D.b (P.map (·.q)) (cSv sv) P.length) := by show _ = _; rw [h.pd]; simp
  have HPO := Lib.hid hok.p
  have HPD := Lib.hid h.pd
  have HZ := Lib.hid hz
  have HZR := Lib.hid hzr
  have HSL : Hid (∀ k, (setB D.b (P.map (·.q)) (cSv sv) k).length = 64 * D.n) := by
    intro k
    rw [← HPD.out]
    exact setB_len _ _ _ _ _ hok.b hok.p
  have H0 : Hid (setB D.b (P.map (·.q)) (cSv sv) 0 = D.b) := rfl
  have HFF : Hid (∀ N Y cy w', 64 * D.n = N → RB w' Y (setB D.b (P.map (·.q)) (cSv sv) P.length) → N ≤ cy → cy ≤ maxLen → (∀ b off, Y = some ⟨b, off, none⟩ → (b ∈ N0 ∨ w.heap.size ≤ b) ∧ b < w'.heap.size) → Below w.heap.size w w' →
      KP w N0 (crashD D sv) id (.returned (.agg #[.slice Y N cy, .slice none 0 0, .bool false, .int .i64 (-1)])) w') := by
    rintro _ Y cy w' rfl hr h1 h2 hy hb
    have hcl : (setB D.b D.p (cSv sv) D.p.length).length = 64 * D.n := by rw [HPP.out]; exact HSL.out _
    refine ⟨kval (crashD D sv) Y cy none 0 [], (Value.slice Y 0 0).ownBlock.toList, rfl, ⟨Y, cy, none, 0, [], rfl, ?_⟩, hb, ?_⟩
    · exact (HI.out.below hb).fresh (by rw [HPP.out]; exact hr) hcl h1 h2 (fun c off e => (hy c off e).2) ⟨by omega, by omega⟩
    · have h0 : 0 < (setB D.b (P.map (·.q)) (cSv sv) P.length).length := by rw [HSL.out]; have := HI.out.ok.n1; omega
      obtain ⟨b', off', e, _⟩ := RB.cells hr h0
      intro x hx
      rw [e] at hx
      simp [Value.ownBlock] at hx
      subst hx
      exact (hy _ _ e).1
  clear h hok hz hzr
  unfold kval
  obtain ⟨pl, HPL⟩ : ∃ x, Hid (P.length = x) := ⟨_, rfl⟩
  obtain ⟨N, HNN⟩ : ∃ x, Hid (64 * D.n = x) := ⟨_, rfl⟩
  rw [HPL.out] at hc3
  rw [HPL.out, HNN.out]
  go_enter Try.func44, Try.ntmps44
  go_upto_region 1 with (fail)
  have hk1 : ((w.alloc (.cells #[.slice A N ca, .slice X pl cx, .bool D.x, .int .i64 D.f] 33)).alloc (.cells #[.slice none 0 0, .slice none 0 0, .bool false, .int .i64 0] 33)).heap[w.heap.size]? = some (.cells #[.slice A N ca, .slice X pl cx, .bool D.x, .int .i64 D.f] 33) := (Below.heap_alloc _ _ _ (by simp)).trans (heap_alloc_new _ _)
  have hk2 : ((w.alloc (.cells #[.slice A N ca, .slice X pl cx, .bool D.x, .int .i64 D.f] 33)).alloc (.cells #[.slice none 0 0, .slice none 0 0, .bool false, .int .i64 0] 33)).heap[w.heap.size + 1]? = some (.cells #[.slice none 0 0, .slice none 0 0, .bool false, .int .i64 0] 33) := heap_alloc2_new _ _ _
  have hb2 := below2 w (.cells #[.slice A N ca, .slice X pl cx, .bool D.x, .int .i64 D.f] 33) (.cells #[.slice none 0 0, .slice none 0 0, .bool false, .int .i64 0] 33)
  generalize (w.alloc (.cells #[.slice A N ca, .slice X pl cx, .bool D.x, .int .i64 D.f] 33)).alloc (.cells #[.slice none 0 0, .slice none 0 0, .bool false, .int .i64 0] 33) = w2 at *
  have HK1 := Lib.hid hk1
  have HK2 := Lib.hid hk2
  have HB2 := Lib.hid hb2
  have hs2 : w.heap.size + 1 < w2.heap.size := (Array.getElem?_eq_some_iff.1 hk2).1
  clear hk1 hk2 hb2
  go_wp2_with fail
  go_loopw [5] (fun i wr => ∃ (k : Nat) (Y : Option Addr) (cy : Nat), k ≤ pl ∧ i = .int .i64 k ∧ wr.heap[w.heap.size]? = some (.cells #[.slice Y N cy, .slice X pl cx, .bool D.x, .int .i64 D.f] 33) ∧ RB wr Y (setB D.b (P.map (·.q)) (cSv sv) k) ∧ N ≤ cy ∧ cy ≤ maxLen ∧ Chg [w.heap.size] w2 wr ∧ ∀ b off, Y = some ⟨b, off, none⟩ → (b ∈ N0 ∨ w.heap.size + 2 ≤ b) ∧ b < wr.heap.size) (fun i _ => pl - (intOf i).toNat)
  case atStart => exact ⟨0, A, ca, by omega, rfl, HK1.out, by rw [H0.out]; exact RB.below HI.out.du HB2.out, by rw [← HNN.out]; exact HC1.out, HC2.out, Chg.refl _ _, fun b off e => ⟨.inl (HI.out.na b off e), by have := HI.out.nl b (HI.out.na b off e); omega⟩⟩
  case round =>
    obtain ⟨k, Y, cy, hk, rfl, hkr, hrb, hcy, hcm, hc, hY⟩ := hrel
    have HRB := Lib.hid hrb
    have HCY := Lib.hid hcy
    have HCM := Lib.hid hcm
    have HC := Lib.hid hc
    have HY := Lib.hid hY
    have HKR := Lib.hid hkr
    have HK2R := Lib.hid (hc.blk HK2.out (by simp))
    have hsr : w.heap.size + 1 < wr.heap.size := (Array.getElem?_eq_some_iff.1 HK2R.out).1
    have HWR := Lib.hid (HB2.out.trans (hc.below HB2.out.size (by simp)))
    have p1 : wr.cell? ⟨w.heap.size, 1, none⟩ = some (.slice X pl cx) := (cell_of_row _ _ 1 _ _ _ hkr).trans rfl
    clear hkr hrb hc hY hcy hcm
    have j0 : (0 : Int) ≤ (k : Int) := by omega
    by_cases hlt : k < pl
    · have j1 : (k : Int) < (pl : Int) := by omega
      have hkP : k < P.length := by have := HPL.out; omega
      have HST := Lib.hid (setB_stepP D.b P (cSv sv) k hkP)
      have hRd := HI.out.pe
      obtain ⟨b2, o2, rfl, x0⟩ := hRd (k * 2) _ (pcells_get P k 0 hkP (by omega))
      obtain ⟨b2', o2', e', x1⟩ := hRd (k * 2 + 1) _ (pcells_get P k 1 hkP (by omega))
      cases e'
      rw [← Nat.add_assoc] at x1
      obtain ⟨hm1, hm2, _⟩ := HI.out.pr P[k] (List.getElem_mem hkP)
      have hqo : P[k].q.ok D.n := HPO.out _ (by rw [HPD.out]; exact List.mem_map.2 ⟨_, List.getElem_mem hkP, rfl⟩)
      obtain ⟨m, HM⟩ : ∃ x, Hid (P[k] = x) := ⟨P[k], rfl⟩
      rw [HM.out] at HST x0 x1 hm1 hm2 hqo
      have hb2l : b2 < w.heap.size := block_lt_of_cell x0
      have p2 : wr.cell? ⟨b2, o2 + k * 2 + 1, none⟩ = some (.slice m.a m.q.d.length m.c) := (HWR.out.cell (p := ⟨b2, o2 + k * 2 + 1, none⟩) hb2l).trans x1
      have z0 : ∀ w', Below wr.heap.size wr w' → w'.cell? ⟨b2, o2 + k * 2, none⟩ = some (.int .i64 (m.q.s : Int)) := fun w' h => ((HWR.out.trans (h.mono HWR.out.size)).cell (p := ⟨b2, o2 + k * 2, none⟩) hb2l).trans x0
      have z1 : ∀ w', Below wr.heap.size wr w' → w'.cell? ⟨b2, o2 + k * 2 + 1, none⟩ = some (.slice m.a m.q.d.length m.c) := fun w' h => ((HWR.out.trans (h.mono HWR.out.size)).cell (p := ⟨b2, o2 + k * 2 + 1, none⟩) hb2l).trans x1
      have z2 : ∀ w', Below wr.heap.size wr w' → w'.cell? ⟨w.heap.size, 1, none⟩ = some (.slice (some ⟨b2, o2, none⟩) pl cx) := fun w' h => (h.cell (p := ⟨w.heap.size, 1, none⟩) (by show w.heap.size < _; omega)).trans p1
      have z3 : ∀ w', Below wr.heap.size wr w' → w'.cell? ⟨w.heap.size, 0, none⟩ = some (.slice Y N cy) := fun w' h => (h.cell (p := ⟨w.heap.size, 0, none⟩) (by show w.heap.size < _; omega)).trans ((cell_of_row _ _ 0 _ _ _ HKR.out).trans rfl)
      have z4 : ∀ w', Below wr.heap.size wr w' → w'.frozen? ⟨w.heap.size, 0, none⟩ = false := fun w' h => frozen_of_row _ _ _ _ _ ((h.block _ (by omega)).trans HKR.out)
      have hqk : m.q.k ≤ 65536 := by have := hqo.2; omega
      have HAP : ∀ w', Below wr.heap.size wr w' → Hid (Calls Try.prog 46 #[.slice Y N cy, .agg #[.int .i64 (m.q.s : Int), .slice m.a m.q.d.length m.c], .int .i64 (cSv sv k m.q : Int)] w' fun e w'' => NewL w' (setB D.b (P.map (·.q)) (cSv sv) (k + 1)) e w'' ∧ Below wr.heap.size wr w'') := fun w' hb' => by
        have h1 := rapply_calls D.n Y cy _ m (cSv sv k m.q) w' (RB.below HRB.out hb') (HSL.out k) hn hqo (RB.below hm1 (HWR.out.trans (hb'.mono HWR.out.size))) (by have := clamp_le (zSv sv k) m.q.k; unfold cSv; omega)
        rw [show ap (setB D.b (P.map (·.q)) (cSv sv) k) m.q (cSv sv k m.q) = setB D.b (P.map (·.q)) (cSv sv) (k + 1) from HST.out.symm] at h1
        rw [HNN.out] at h1
        refine h1.mono fun e w'' h => ⟨h, ?_⟩
        obtain ⟨_, _, _, _, hb⟩ := h
        exact hb'.trans (hb.mono hb'.size)
      have HHY := HY.out
      have HDO : Hid (∀ w5 (Y5 : Option Addr) c5, w5.ownsRow wr.heap.size 5 1 (.slice Y5 N c5) N ((setB D.b (P.map (·.q)) (cSv sv) (k + 1)).map vb) → Below wr.heap.size wr w5 →
          ∃ (k' : Nat) (Y' : Option Addr) (cy' : Nat), k' ≤ pl ∧ Value.int .i64 ((k : Int) + 1) = .int .i64 k' ∧ (w5.setCell ⟨w.heap.size, 0, none⟩ (.slice Y5 N c5)).heap[w.heap.size]? = some (.cells #[.slice Y' N cy', .slice (some ⟨b2, o2, none⟩) pl cx, .bool D.x, .int .i64 D.f] 33) ∧ RB (w5.setCell ⟨w.heap.size, 0, none⟩ (.slice Y5 N c5)) Y' (setB D.b (P.map (·.q)) (cSv sv) k') ∧ N ≤ cy' ∧ cy' ≤ maxLen ∧ Chg [w.heap.size] w2 (w5.setCell ⟨w.heap.size, 0, none⟩ (.slice Y5 N c5)) ∧ ∀ b off, Y' = some ⟨b, off, none⟩ → (b ∈ N0 ∨ w.heap.size + 2 ≤ b) ∧ b < (w5.setCell ⟨w.heap.size, 0, none⟩ (.slice Y5 N c5)).heap.size) := by
        intro w5 Y5 c5 ho hb
        obtain ⟨_, _, e5, hn5, hm5, _, hr5⟩ := own_form ho
        cases e5
        have hcs : Chg [w.heap.size] w5 (w5.setCell ⟨w.heap.size, 0, none⟩ (.slice Y5 N c5)) := (Chg.refl [w.heap.size] w5).setCell (p := ⟨w.heap.size, 0, none⟩) (.inl (by simp)) _
        have hlt5 := fun b off (e : Y5 = some ⟨b, off, none⟩) => ho.lt b (by rw [e]; rfl)
        refine ⟨k + 1, Y5, c5, by omega, by go_num, heap_setCell_same _ _ _ _ _ _ ((hb.block _ (by omega)).trans HKR.out), hcs.rd hr5 (fun b off e => by have := (hlt5 b off e).1; simp; omega), hn5, hm5, (HC.out.trans' (Chg.of_below hb _)).trans' hcs, fun b off e => ?_⟩
        have := hlt5 b off e
        have := hcs.size
        exact ⟨.inr (by omega), by omega⟩
      have HL5 := Lib.hid (HSL.out (k + 1))
      have hq : (m.q.d.length : Int) / 64 = (m.q.k : Int) := by have := hqo.1; omega
      have hqt : Int.tdiv (m.q.d.length : Int) 64 = (m.q.k : Int) := by rw [Int.tdiv_eq_ediv_of_nonneg (by omega)]; exact hq
      have hqw : IntKind.i64.wrap (m.q.k : Int) = (m.q.k : Int) := by rw [IntKind.wrap_i64]; omega
      have hql : m.q.d.length ≤ 4194304 := by have := hqo.1; omega
      have HC0 : Hid (¬ k < zn → cSv sv k m.q = 0) := by show _ → _; intro h; unfold cSv; rw [zSv_ge sv k (by have := HZ.out; omega)]; unfold clamp; omega
      have HC9 : Hid (∀ z, sv[k]? = some z → (cSv sv k m.q : Int) = max 0 (min z (m.q.k : Int))) := by show ∀ _, _; intro z h; unfold cSv zSv; rw [h]; exact clamp_cast' z m.q.k
      clear hm1 hm2 hqo x0 hRd HST
      generalize cSv sv k m.q = cc at *
      generalize m.q.d.length = dl at *
      generalize m.q.k = kk at *
      generalize m.q.s = ms at *
      generalize m.a = ma at *
      generalize m.c = mc at *
      by_cases hz : k < zn
      · have d1 : decide ((k : Int) < (zn : Int)) = true := by simpa using hz
        have jz : (k : Int) < (zn : Int) := by omega
        obtain ⟨b3, o3, rfl, hb3, hc3⟩ := Rd.cells HZR.out (by have := HZ.out; simp; omega)
        have hks : k < sv.length := by have := HZ.out; omega
        have hx := hc3 k (.int .i64 sv[k]) (by simp [List.getElem?_eq_getElem hks])
        have HZZ := Lib.hid (HC9.out sv[k] (List.getElem?_eq_getElem hks))
        obtain ⟨z, HZK⟩ : ∃ x, Hid (sv[k] = x) := ⟨sv[k], rfl⟩
        rw [HZK.out] at hx HZZ
        have p3 : wr.cell? ⟨b3, o3 + k, none⟩ = some (.int .i64 z) := (HWR.out.cell (p := ⟨b3, o3 + k, none⟩) hb3).trans hx
        clear hc3 hx
        go_upto_region 6 with (fail)
        go_region
        rw [← HZZ.out]
        have hbq := below_drew wr
        generalize wr.drew = wq at *
        clear p2 p3 p1 HC0 HC9 hq hqt hqw HZZ HZK d1 jz
        go_upto_region 7 with (fail)
        have y0 := z0 wq (hbq); have y1 := z1 wq (hbq); have y2 := z2 wq (hbq); have y3 := z3 wq (hbq); go_region_law (go_simp; go_at_call 46; refine (HAP wq.drew (hbq.trans ((below_drew wq).mono hbq.size))).out.mono ?_; rintro e w5 ⟨⟨Y5, c5, rfl, ho5, hb5⟩, hs5⟩; have e2 := z3 w5 hs5; have f2 := z4 w5 hs5)
        all_goals
          rw [HL5.out, HNN.out] at ho5 ⊢
          have HD5 := Lib.hid (HDO.out w5 Y5 c5 (by first | exact ho5 | exact ho5.older hbq.size) hs5)
          clear ho5 hb5 hs5 y0 y1 y2 y3 z0 z1 z2 z3 z4 HAP HDO e2 f2
          generalize w5.setCell ⟨w.heap.size, 0, none⟩ (.slice Y5 N c5) = w6 at *
          go_wp2_with fail
          go_roundw
          case rel => exact HD5.out
          case measure => simp [intOf]; omega
      · have d1 : decide ((k : Int) < (zn : Int)) = false := by simpa using hz
        have hc0 := HC0.out hz
        subst hc0
        clear p2 HC0 HC9 hq hqt hqw
        go_upto_region 7 with (fail)
        clear p1
        have y0 := z0 wr (Below.refl _ _); have y1 := z1 wr (Below.refl _ _); have y2 := z2 wr (Below.refl _ _); have y3 := z3 wr (Below.refl _ _); go_region_law (go_simp; go_at_call 46; refine (HAP wr.drew (below_drew _)).out.mono ?_; rintro e w5 ⟨⟨Y5, c5, rfl, ho5, hb5⟩, hs5⟩; have e2 := z3 w5 hs5; have f2 := z4 w5 hs5)
        all_goals
          rw [HL5.out, HNN.out] at ho5 ⊢
          have HD5 := Lib.hid (HDO.out w5 Y5 c5 (by first | exact ho5 | exact ho5.older hbq.size) hs5)
          clear ho5 hb5 hs5 y0 y1 y2 y3 z0 z1 z2 z3 z4 HAP HDO e2 f2
          generalize w5.setCell ⟨w.heap.size, 0, none⟩ (.slice Y5 N c5) = w6 at *
          go_wp2_with fail
          go_roundw
          case rel => exact HD5.out
          case measure => simp [intOf]; omega
    · have HK : Hid (k = P.length) := by show _ = _; have := HPL.out; omega
      have q0 : wr.cell? ⟨w.heap.size, 0, none⟩ = some (.slice Y N cy) := (cell_of_row _ _ 0 _ _ _ HKR.out).trans rfl
      have zc0 : wr.cell? ⟨w.heap.size + 1, 0, none⟩ = some _ := (cell_of_row _ _ 0 _ _ _ HK2R.out).trans rfl; have zf0 : wr.frozen? ⟨w.heap.size + 1, 0, none⟩ = false := frozen_of_row _ _ _ _ _ HK2R.out; have zc1 : wr.cell? ⟨w.heap.size + 1, 1, none⟩ = some _ := (cell_of_row _ _ 1 _ _ _ HK2R.out).trans rfl; have zf1 : wr.frozen? ⟨w.heap.size + 1, 1, none⟩ = false := frozen_of_row _ _ _ _ _ HK2R.out; have zc2 : wr.cell? ⟨w.heap.size + 1, 2, none⟩ = some _ := (cell_of_row _ _ 2 _ _ _ HK2R.out).trans rfl; have zf2 : wr.frozen? ⟨w.heap.size + 1, 2, none⟩ = false := frozen_of_row _ _ _ _ _ HK2R.out; have zc3 : wr.cell? ⟨w.heap.size + 1, 3, none⟩ = some _ := (cell_of_row _ _ 3 _ _ _ HK2R.out).trans rfl; have zf3 : wr.frozen? ⟨w.heap.size + 1, 3, none⟩ = false := frozen_of_row _ _ _ _ _ HK2R.out
      go_wp2_with fail
      have hz2 := heap_set4 HK2R.out (.slice Y N cy) (.slice none 0 0) (.bool false) (.int .i64 (-1))
      have hc2 := chg_set4 wr (w.heap.size + 1) (.slice Y N cy) (.slice none 0 0) (.bool false) (.int .i64 (-1))
      refine bodyPost_ret (results_cell_row rfl _ _ (w.heap.size + 1) 33 _ (0, 0) _ rfl hz2 Try.underlying33 rfl size_dk) rfl ?_
      have hr := HRB.out
      rw [HK.out] at hr
      refine HFF.out N Y cy _ HNN.out (hc2.rd hr fun b off e => ?_) HCY.out HCM.out (fun b off e => ?_) (HWR.out.trans (hc2.below HWR.out.size (by simp)))
      · have := HY.out b off e
        rcases this.1 with h | h
        · have := HI.out.nl b h; simp; omega
        · simp; omega
      · have := HY.out b off e
        have h2 := hc2.size
        exact ⟨this.1.imp id fun h => by omega, by omega⟩
end Dk
end Go.Proofs.Ytoallpinpeolfaa
