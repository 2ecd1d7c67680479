/- The walk of the law DiskClones. -/
import Derived.Test.YtoallpinpeolfaaDlF
import Derived.Test.YtoallpinpeolfaaDkL
namespace Go.Proofs.Ytoallpinpeolfaa
open Go.RowKit
namespace Dk
theorem one_back {D : St} (h6 : D.n = 6) (hx : D.x = false) (hf : D.f = -1) (hp : D.p = []) (l : List UInt8) (hl : l.length = 64) :
    writeE D 0 l = 0 ∧ readE (writeD D 0 l) 0 1 = 0 ∧ readL (writeD D 0 l) 0 1 = l := by
  have hk : l.length / 64 = 1 := by rw [hl]
  have hi : inB D.n 0 (l.length / 64 : Nat) = true := by rw [h6, hk]; rfl
  obtain ⟨e1, e2⟩ := write_ok 0 l hx (by rw [hl]) hi (by omega)
  have hi2 : inB D.n 0 1 = true := by rw [h6]; rfl
  rw [e1, e2, hp]
  refine ⟨rfl, ?_, ?_⟩
  · unfold readE; simp only [hx, Bool.false_eq_true, if_false, hi2]; rfl
  · unfold readL; simp only [hx, Bool.false_eq_true, if_false, hi2]
    rw [if_neg (by simp)]
    show (((splice D.b (64 * (0 : Int).toNat) (l.take (64 * (l.length / 64)))).drop (64 * (0 : Int).toNat)).take (64 * (1 : Int).toNat)) = l
    rw [hk]
    have h1 : l.take (64 * 1) = l := by rw [List.take_of_length_le (by omega)]
    rw [h1]
    show ((D.b.take 0 ++ (l ++ D.b.drop (0 + l.length))).drop 0).take 64 = l
    rw [List.take_zero, List.nil_append, List.drop_zero, List.take_append_of_le_length (by omega), List.take_of_length_le (by omega)]
set_option maxRecDepth 100000 in
set_option maxHeartbeats 20000000 in
theorem clones_law (w : World) (A1 : Option Addr) (n1 ca1 : Nat) (ms1 : List Cm) (hn1 : ms1.length = n1) (hr1 : RdM w A1 ms1) (hm1 : n1 ≤ 9223372036854775807)
    (A2 : Option Addr) (n2 ca2 : Nat) (ms2 : List Cm) (hn2 : ms2.length = n2) (hr2 : RdM w A2 ms2) (hm2 : n2 ≤ 9223372036854775807)
    (A3 : Option Addr) (n3 ca3 : Nat) (ms3 : List Cm) (hn3 : ms3.length = n3) (hr3 : RdM w A3 ms3) (hm3 : n3 ≤ 9223372036854775807) :
    Calls Try.prog 7 #[.slice A1 n1 ca1, .slice A2 n2 ca2, .slice A3 n3 ca3] w (Yes w) := by
  have HN1 := Lib.hid hn1
  have HR1 := Lib.hid hr1
  have HN2 := Lib.hid hn2
  have HR2 := Lib.hid hr2
  have HN3 := Lib.hid hn3
  have HR3 := Lib.hid hr3
  clear hn1 hr1 hn2 hr2 hn3 hr3
  go_enter Try.func7, Try.ntmps7
  go_wp2_with fail
  refine (awake_calls w).mono ?_
  rintro e w1 ⟨rfl, hb1⟩
  have HB1 := Lib.hid hb1
  have HQ1 := Lib.hid (HR1.out.below hb1)
  have HQ2 := Lib.hid (HR2.out.below hb1)
  have HQ3 := Lib.hid (HR3.out.below hb1)
  have HF1 := Lib.hid (few_calls A1 n1 ca1 12 ms1 w1 HN1.out HQ1.out hm1)
  have HF2 := Lib.hid (few_calls A2 n2 ca2 12 ms2 w1 HN2.out HQ2.out hm2)
  have HF3 := Lib.hid (few_calls A3 n3 ca3 12 ms3 w1 HN3.out HQ3.out hm3)
  clear hb1 HR1 HR2 HR3
  go_wp2_with fail
  refine HF1.out.mono ?_
  rintro e w2 ⟨rfl, rfl⟩
  cases hf1 : fewB ms1 12 with
  | false =>
    go_wp2_with fail
    go_ret
    exact ⟨rfl, HB1.out⟩
  | true =>
    go_wp2_with fail
    refine HF2.out.mono ?_
    rintro e w2 ⟨rfl, rfl⟩
    cases hf2 : fewB ms2 12 with
    | false =>
      go_wp2_with fail
      go_ret
      exact ⟨rfl, HB1.out⟩
    | true =>
      go_wp2_with fail
      refine HF3.out.mono ?_
      rintro e w2 ⟨rfl, rfl⟩
      cases hf3 : fewB ms3 12 with
      | false =>
        go_wp2_with fail
        go_ret
        exact ⟨rfl, HB1.out⟩
      | true =>
        obtain ⟨_, hl1⟩ := fewB_of hf1
        obtain ⟨_, hl2⟩ := fewB_of hf2
        obtain ⟨_, hl3⟩ := fewB_of hf3
        rw [HN1.out] at hl1
        rw [HN2.out] at hl2
        rw [HN3.out] at hl3
        have HRUN := Lib.hid (run_calls w1 A1 n1 ca1 ms1 HN1.out HQ1.out (by omega))
        clear hf1 hf2 hf3 HF1 HF2 HF3
        go_wp2_with fail
        refine HRUN.out.mono ?_
        rintro e w2 ⟨g, N, v, D, rfl, ho, ⟨A, ca, X, cx, P, rfl, hk⟩, hn0, hn6, hpl⟩
        unfold kval
        have hb3 := below1 w2 (.cells #[.slice A (64 * D.n) ca, .slice X P.length cx, .bool D.x, .int .i64 D.f] 33)
        have hk3 := heap_alloc_new w2 (.cells #[.slice A (64 * D.n) ca, .slice X P.length cx, .bool D.x, .int .i64 D.f] 33)
        have HO3 : Hid (OwnF w1 (w2.heap.size :: N) g D (w2.alloc (.cells #[.slice A (64 * D.n) ca, .slice X P.length cx, .bool D.x, .int .i64 D.f] 33))) := ho.grow hb3 (fun x hx => by
          rcases List.mem_cons.1 hx with rfl | hx
          · exact .inr ⟨Nat.le_refl _, by simp⟩
          · exact .inl hx)
        have HI3 := Lib.hid (hk.below hb3)
        have HK3 := Lib.hid hk3
        have HN0 := Lib.hid hn0
        have HN6 := Lib.hid hn6
        have HRN : Hid (w2.heap.size ∉ N ∧ w1.heap.size ≤ w2.heap.size) := ⟨fun hx => by have := hk.nl _ hx; omega, ho.b.size⟩
        clear hk ho hb3 hk3 hn0 hn6 HRUN HQ1
        go_wp2_with fail
        generalize w2.alloc (.cells #[.slice A (64 * D.n) ca, .slice X P.length cx, .bool D.x, .int .i64 D.f] 33) = w3 at *
        generalize w2.heap.size = R at *
        refine (pair_clone HO3.out (by omega)).mono ?_
        rintro e w4 ⟨c, rfl, hp4, hb4⟩
        have HP4 := Lib.hid hp4
        have HI4 := Lib.hid (HI3.out.below hb4)
        have HK4 := Lib.hid ((hb4.block _ (Array.getElem?_eq_some_iff.1 HK3.out).1).trans HK3.out)
        clear hp4 hb4 HK3 HI3 HO3
        have rc0 : w4.cell? ⟨R, 0, none⟩ = some _ := (cell_of_row _ _ 0 _ _ _ HK4.out).trans rfl; have rf0 : w4.frozen? ⟨R, 0, none⟩ = false := frozen_of_row _ _ _ _ _ HK4.out; have rc1 : w4.cell? ⟨R, 1, none⟩ = some _ := (cell_of_row _ _ 1 _ _ _ HK4.out).trans rfl; have rf1 : w4.frozen? ⟨R, 1, none⟩ = false := frozen_of_row _ _ _ _ _ HK4.out; have rc2 : w4.cell? ⟨R, 2, none⟩ = some _ := (cell_of_row _ _ 2 _ _ _ HK4.out).trans rfl; have rf2 : w4.frozen? ⟨R, 2, none⟩ = false := frozen_of_row _ _ _ _ _ HK4.out; have rc3 : w4.cell? ⟨R, 3, none⟩ = some _ := (cell_of_row _ _ 3 _ _ _ HK4.out).trans rfl; have rf3 : w4.frozen? ⟨R, 3, none⟩ = false := frozen_of_row _ _ _ _ _ HK4.out
        have HEV := Lib.hid (ownF_even HP4.out.two ⟨A, ca, X, cx, P, rfl, HI4.out⟩)
        unfold kval at HEV
        go_wp2_with fail
        refine HEV.out.mono ?_
        rintro e w5 ⟨rfl, hb5⟩
        have HP5 := Lib.hid (HP4.out.below hb5)
        have HI5 := Lib.hid (HI4.out.below hb5)
        have HK5 := Lib.hid ((hb5.block _ (Array.getElem?_eq_some_iff.1 HK4.out).1).trans HK4.out)
        clear rc0 rf0 rc1 rf1 rc2 rf2 rc3 rf3
        clear hb5 HEV HP4 HI4 HK4
        have rc0 : w5.cell? ⟨R, 0, none⟩ = some _ := (cell_of_row _ _ 0 _ _ _ HK5.out).trans rfl; have rf0 : w5.frozen? ⟨R, 0, none⟩ = false := frozen_of_row _ _ _ _ _ HK5.out; have rc1 : w5.cell? ⟨R, 1, none⟩ = some _ := (cell_of_row _ _ 1 _ _ _ HK5.out).trans rfl; have rf1 : w5.frozen? ⟨R, 1, none⟩ = false := frozen_of_row _ _ _ _ _ HK5.out; have rc2 : w5.cell? ⟨R, 2, none⟩ = some _ := (cell_of_row _ _ 2 _ _ _ HK5.out).trans rfl; have rf2 : w5.frozen? ⟨R, 2, none⟩ = false := frozen_of_row _ _ _ _ _ HK5.out; have rc3 : w5.cell? ⟨R, 3, none⟩ = some _ := (cell_of_row _ _ 3 _ _ _ HK5.out).trans rfl; have rf3 : w5.frozen? ⟨R, 3, none⟩ = false := frozen_of_row _ _ _ _ _ HK5.out
        go_upto_region 11 with (fail)
        have r0 : ∀ w', Below w5.heap.size w5 w' → w'.cell? ⟨R, 0, none⟩ = some (.slice A (64 * D.n) ca) := fun w' h => (cell_of_row _ _ 0 _ _ _ ((h.block R (Array.getElem?_eq_some_iff.1 HK5.out).1).trans HK5.out)).trans rfl
        have r1 : ∀ w', Below w5.heap.size w5 w' → w'.cell? ⟨R, 1, none⟩ = some (.slice X P.length cx) := fun w' h => (cell_of_row _ _ 1 _ _ _ ((h.block R (Array.getElem?_eq_some_iff.1 HK5.out).1).trans HK5.out)).trans rfl
        have r2 : ∀ w', Below w5.heap.size w5 w' → w'.cell? ⟨R, 2, none⟩ = some (.bool D.x) := fun w' h => (cell_of_row _ _ 2 _ _ _ ((h.block R (Array.getElem?_eq_some_iff.1 HK5.out).1).trans HK5.out)).trans rfl
        have r3 : ∀ w', Below w5.heap.size w5 w' → w'.cell? ⟨R, 3, none⟩ = some (.int .i64 D.f) := fun w' h => (cell_of_row _ _ 3 _ _ _ ((h.block R (Array.getElem?_eq_some_iff.1 HK5.out).1).trans HK5.out)).trans rfl
        clear rc0 rf0 rc1 rf1 rc2 rf2 rc3 rf3
        have HBW : Hid (Below w5.heap.size w5 ((w5.alloc (.cells #[.slice A (64 * D.n) ca, .slice X P.length cx, .bool D.x, .int .i64 D.f] 33)).alloc (.cells #[.slice A (64 * D.n) ca, .slice X P.length cx, .bool D.x, .int .i64 D.f] 33)).drew) := (below2 w5 _ _).drew
        have HPW := HP5.out.grow (F' := w5.heap.size :: (w5.heap.size + 1) :: (N ++ N)) HBW.out (fun x hx => by
          simp only [List.mem_cons, List.mem_append] at hx
          rcases hx with rfl | rfl | hx | hx
          · exact .inr ⟨Nat.le_refl _, by show _ < ((w5.alloc (.cells #[.slice A (64 * D.n) ca, .slice X P.length cx, .bool D.x, .int .i64 D.f] 33)).alloc (.cells #[.slice A (64 * D.n) ca, .slice X P.length cx, .bool D.x, .int .i64 D.f] 33)).heap.size; simp; omega⟩
          · exact .inr ⟨by omega, by show _ < ((w5.alloc (.cells #[.slice A (64 * D.n) ca, .slice X P.length cx, .bool D.x, .int .i64 D.f] 33)).alloc (.cells #[.slice A (64 * D.n) ca, .slice X P.length cx, .bool D.x, .int .i64 D.f] 33)).heap.size; simp⟩
          · exact .inl (by simp [hx])
          · exact .inl (by simp [hx]))
        have HST : Hid (ST w1 g c w5.heap.size (w5.heap.size + 1) D D ((w5.alloc (.cells #[.slice A (64 * D.n) ca, .slice X P.length cx, .bool D.x, .int .i64 D.f] 33)).alloc (.cells #[.slice A (64 * D.n) ca, .slice X P.length cx, .bool D.x, .int .i64 D.f] 33)).drew ∧ ST w1 g c (w5.heap.size + 1) w5.heap.size D D ((w5.alloc (.cells #[.slice A (64 * D.n) ca, .slice X P.length cx, .bool D.x, .int .i64 D.f] 33)).alloc (.cells #[.slice A (64 * D.n) ca, .slice X P.length cx, .bool D.x, .int .i64 D.f] 33)).drew) := by
          have hk1 : ((w5.alloc (.cells #[.slice A (64 * D.n) ca, .slice X P.length cx, .bool D.x, .int .i64 D.f] 33)).alloc (.cells #[.slice A (64 * D.n) ca, .slice X P.length cx, .bool D.x, .int .i64 D.f] 33)).drew.heap[w5.heap.size]? = some (.cells #[.slice A (64 * D.n) ca, .slice X P.length cx, .bool D.x, .int .i64 D.f] 33 (0, 0)) := (Below.heap_alloc _ _ _ (by simp)).trans (heap_alloc_new _ _)
          have hk2 : ((w5.alloc (.cells #[.slice A (64 * D.n) ca, .slice X P.length cx, .bool D.x, .int .i64 D.f] 33)).alloc (.cells #[.slice A (64 * D.n) ca, .slice X P.length cx, .bool D.x, .int .i64 D.f] 33)).drew.heap[w5.heap.size + 1]? = some (.cells #[.slice A (64 * D.n) ca, .slice X P.length cx, .bool D.x, .int .i64 D.f] 33 (0, 0)) := heap_alloc2_new _ _ _
          have hik := HI5.out.below HBW.out
          have hns : w5.heap.size ∉ N := fun hx => by have := HI5.out.nl _ hx; omega
          have hns2 : w5.heap.size + 1 ∉ N := fun hx => by have := HI5.out.nl _ hx; omega
          have h15 := HP5.out.b.size
          exact ⟨⟨N, A, ca, X, cx, P, N, A, ca, X, cx, P, ⟨HPW, hk1, hik, hns, hns, hns2, by omega, h15⟩, hk2, hik, hns2, by omega⟩,
            ⟨N, A, ca, X, cx, P, N, A, ca, X, cx, P, ⟨HPW.sub (fun x hx => by
              simp only [List.mem_cons, List.mem_append] at hx ⊢
              rcases hx with hx | hx | hx | hx <;> simp [hx]), hk2, hik, hns2, hns2, hns, by omega, by omega⟩, hk1, hik, hns, h15⟩⟩
        clear HPW HBW
        go_cut [11, 12] (fun x y wx => ∃ Rx Ry, x = .pointer (some ⟨Rx, 0, none⟩) ∧ y = .pointer (some ⟨Ry, 0, none⟩) ∧ ST w1 g c Rx Ry D D wx)
        case first =>
          go_region_held3 (fun w' => Below w5.heap.size w5 w') (first | exact below_drew _ | assumption | exact (below1 w5 _).trans ((below_drew _).mono (by simp)) | exact (below2 w5 _ _).trans ((below_drew _).mono (by simp; omega)) | exact (((Below.setCell (p := ⟨_, 0, none⟩) (by assumption) (by simp) _).setCell (p := ⟨_, 1, none⟩) (by simp) _).setCell (p := ⟨_, 2, none⟩) (by simp) _).setCell (p := ⟨_, 3, none⟩) (by simp) _) (first | fail)
          all_goals
            go_wp2_with fail
            go_meet
            first
              | exact ⟨_, _, rfl, rfl, HST.out.1⟩
              | exact ⟨_, _, rfl, rfl, HST.out.2⟩
        case rest =>
        obtain ⟨Rx, Ry, rfl, rfl, hst⟩ := hcut
        have HST2 := Lib.hid hst
        have HDL : Hid (D.n = 6 ∧ D.p.length ≤ 12) := ⟨HN6.out, by omega⟩
        clear hst HST HK5 HI5 HP5 HN0 r0 r1 r2 r3
        obtain ⟨wk, rfl⟩ : ∃ x : World, x = wc := ⟨_, rfl⟩
        go_wp2_with fail
        go_loopw [13] (fun i wr => ∃ (k : Nat) (Dx Dy : St), k ≤ max n2 n3 ∧ i = .int .i64 k ∧ Dx.n = 6 ∧ Dy.n = 6 ∧ Dx.p.length ≤ 12 + k ∧ Dy.p.length ≤ 12 + k ∧ ST w1 g c Rx Ry Dx Dy wr) (fun i _ => max n2 n3 - (intOf i).toNat)
        case atStart => exact ⟨0, D, D, Nat.zero_le _, rfl, HDL.out.1, HDL.out.1, HDL.out.2, HDL.out.2, HST2.out⟩
        case round =>
          obtain ⟨k, Dx, Dy, hk, rfl, hx6, hy6, hxp, hyp, hst⟩ := hrel
          have HX6 := Lib.hid hx6
          have HY6 := Lib.hid hy6
          have HXP := Lib.hid hxp
          have HYP := Lib.hid hyp
          have HST := Lib.hid hst
          clear hx6 hy6 hxp hyp hst HST2
          have j0 : (0 : Int) ≤ (k : Int) := by omega
          by_cases hlt : k < max n2 n3
          · have j1 : decide ((k : Int) < max (n2 : Int) (n3 : Int)) = true := by simp; omega
            go_upto_if 74 with (fail)
            go_cut [] (fun wx => ∃ Dz, Dz.n = 6 ∧ Dz.p.length ≤ 12 + (k + 1) ∧ ST w1 g c Rx Ry Dz Dy wx)
            case first =>
-- HALVES
              by_cases h2 : k < n2
              · have j2 : (k : Int) < (n2 : Int) := by omega
                have d2 : decide ((k : Int) < (n2 : Int)) = true := by simpa using h2
                obtain ⟨N, A, ca, X, cx, P, F2, B2, cb2, Y2, cy2, Q2, hh, hs2, hi2, hf2, hbs⟩ := HST.out
                have HH := Lib.hid hh
                have HS2 := Lib.hid hs2
                have HI2 := Lib.hid hi2
                have HF2 := Lib.hid hf2
                have hRl : Rx < wr.heap.size := (Array.getElem?_eq_some_iff.1 hh.rx).1
                have hkl : k < ms2.length := by have := HN2.out; omega
                obtain ⟨b, off, rfl, hbw, x0, x1, x2, x3, x4⟩ := HQ2.out.cells k hkl
                have hok := HQ2.out.ok _ (List.getElem_mem hkl)
                obtain ⟨m, HM⟩ : ∃ x, Hid (ms2[k] = x) := ⟨ms2[k], rfl⟩
                rw [HM.out] at x0 x1 x2 x3 x4 hok
                have HOK := Lib.hid hok
                have hat : ∀ o v (w' : World), w'.heap[b]? = w1.heap[b]? → w1.cell? ⟨b, o, none⟩ = some v → w'.cell? ⟨b, o, none⟩ = some v := fun o v w' h hv => (World.cell?_of_block (a := ⟨b, o, none⟩) h).trans hv
                have hbr : wr.heap[b]? = w1.heap[b]? := hh.pr.b.block b hbw
                have hbl : b < wr.heap.size := Nat.lt_of_lt_of_le hbw hh.pr.b.size
                have z0 : ∀ w' : World, w'.heap[b]? = w1.heap[b]? → w'.cell? ⟨b, off + k * 5, none⟩ = some (.int .i64 m.c.kind) := fun w' h => hat _ _ w' h x0
                have z1 : ∀ w' : World, w'.heap[b]? = w1.heap[b]? → w'.cell? ⟨b, off + k * 5 + 1, none⟩ = some (.int .i64 m.c.sec) := fun w' h => hat _ _ w' h x1
                have z2 : ∀ w' : World, w'.heap[b]? = w1.heap[b]? → w'.cell? ⟨b, off + k * 5 + 2, none⟩ = some (.int .i64 m.c.n) := fun w' h => hat _ _ w' h x2
                have z3 : ∀ w' : World, w'.heap[b]? = w1.heap[b]? → w'.cell? ⟨b, off + k * 5 + 3, none⟩ = some (vb m.c.seed) := fun w' h => hat _ _ w' h x3
                have z4 : ∀ w' : World, w'.heap[b]? = w1.heap[b]? → w'.cell? ⟨b, off + k * 5 + 4, none⟩ = some (.slice m.a m.c.sv.length m.cap) := fun w' h => hat _ _ w' h x4
                have hRc : ∀ w', Below wr.heap.size wr w' → w'.heap[Rx]? = some (.cells #[.slice A (64 * Dx.n) ca, .slice X P.length cx, .bool Dx.x, .int .i64 Dx.f] 33 (0, 0)) := fun w' h => (h.block Rx hRl).trans hh.rx
                have r0 : ∀ w', Below wr.heap.size wr w' → w'.cell? ⟨Rx, 0, none⟩ = some (.slice A (64 * Dx.n) ca) := fun w' h => (cell_of_row _ _ 0 _ _ _ (hRc w' h)).trans rfl
                have r1 : ∀ w', Below wr.heap.size wr w' → w'.cell? ⟨Rx, 1, none⟩ = some (.slice X P.length cx) := fun w' h => (cell_of_row _ _ 1 _ _ _ (hRc w' h)).trans rfl
                have r2 : ∀ w', Below wr.heap.size wr w' → w'.cell? ⟨Rx, 2, none⟩ = some (.bool Dx.x) := fun w' h => (cell_of_row _ _ 2 _ _ _ (hRc w' h)).trans rfl
                have r3 : ∀ w', Below wr.heap.size wr w' → w'.cell? ⟨Rx, 3, none⟩ = some (.int .i64 Dx.f) := fun w' h => (cell_of_row _ _ 3 _ _ _ (hRc w' h)).trans rfl
                have y0 : ∀ w' : World, Below wr.heap.size wr w' → w'.cell? ⟨b, off + k * 5, none⟩ = some (.int .i64 m.c.kind) := fun w' h => z0 w' ((h.block b hbl).trans hbr)
                have y1 : ∀ w' : World, Below wr.heap.size wr w' → w'.cell? ⟨b, off + k * 5 + 1, none⟩ = some (.int .i64 m.c.sec) := fun w' h => z1 w' ((h.block b hbl).trans hbr)
                have y2 : ∀ w' : World, Below wr.heap.size wr w' → w'.cell? ⟨b, off + k * 5 + 2, none⟩ = some (.int .i64 m.c.n) := fun w' h => z2 w' ((h.block b hbl).trans hbr)
                have y3 : ∀ w' : World, Below wr.heap.size wr w' → w'.cell? ⟨b, off + k * 5 + 3, none⟩ = some (vb m.c.seed) := fun w' h => z3 w' ((h.block b hbl).trans hbr)
                have y4 : ∀ w' : World, Below wr.heap.size wr w' → w'.cell? ⟨b, off + k * 5 + 4, none⟩ = some (.slice m.a m.c.sv.length m.cap) := fun w' h => z4 w' ((h.block b hbl).trans hbr)
                have HRW : ∀ wx, Below wr.heap.size wr wx → Hid (Calls Try.prog 29 #[.agg #[.slice A (64 * Dx.n) ca, .slice X P.length cx, .bool Dx.x, .int .i64 Dx.f], .agg #[.int .i64 m.c.kind, .int .i64 m.c.sec, .int .i64 m.c.n, vb m.c.seed, .slice m.a m.c.sv.length m.cap]] wx fun e w' =>
                    ∃ N6 A6 ca6 X6 cx6 P6 Xw nw cw, e = .returned (.tuple #[.agg #[.slice A6 (64 * (stD Dx m.c).n) ca6, .slice X6 P6.length cx6, .bool (stD Dx m.c).x, .int .i64 (stD Dx m.c).f], .slice Xw nw cw, .int .i64 (stE Dx m.c)]) ∧ IsK' w' N6 (stD Dx m.c) A6 ca6 X6 cx6 P6 ∧ (∀ x ∈ N6, x ∈ N ∨ wx.heap.size ≤ x) ∧ Below wx.heap.size wx w' ∧ Below wr.heap.size wr w') := by
                  intro wx h1
                  have hpx := HXP.out
                  refine (rstep_calls (kval Dx A ca X cx P) N Dx m wx ⟨A, ca, X, cx, P, rfl, HH.out.ik.below h1⟩ ((HOK.out.below HH.out.pr.b).below h1) (by omega)).mono ?_
                  rintro e w' ⟨v', N6, Xw, nw, cw, rfl, q1, q2, q3, q4, ⟨A6, ca6, X6, cx6, P6, rfl, h6⟩, hb, hn6, _⟩
                  exact ⟨N6, A6, ca6, X6, cx6, P6, Xw, nw, cw, rfl, h6, hn6, hb, h1.trans (hb.mono h1.size)⟩
                have HDF : Hid ((stD Dx m.c).n = 6 ∧ (stD Dx m.c).p.length ≤ 12 + (k + 1)) := ⟨by rw [stD_n]; exact HX6.out, by have h1 := stD_p Dx m.c; have h2 := HXP.out; omega⟩
                have HSTEP : Hid (∀ w' F, Pair w1 F g c Dx Dy w' → Calls Try.prog 20 #[.pointer (some ⟨g, 0, none⟩), .agg #[.int .i64 m.c.kind, .int .i64 m.c.sec, .int .i64 m.c.n, vb m.c.seed, .slice m.a m.c.sv.length m.cap]] w' fun e w'' =>
                    ∃ X n cx, e = .returned (.tuple #[.slice X n cx, .int .i64 (stE Dx m.c)]) ∧ Pair w1 F g c (stD Dx m.c) Dy w'' ∧ Kept F w' w'') :=
                  fun w' F hp => pair_step hp m HOK.out (by have := HXP.out; omega)
                clear hh hs2 hi2 hf2 hat x0 x1 x2 x3 x4 hok hRc
                generalize stD Dx m.c = D6 at *
                generalize stE Dx m.c = er at *
                generalize m.c.kind = kd at *
                generalize m.c.sec = sc at *
                generalize m.c.n = mn at *
                generalize vb m.c.seed = sd at *
                generalize m.c.sv.length = sl at *
                go_wp2_with fail
                go_region_held3 (fun w' => Below wr.heap.size wr w') (first | exact below_drew _ | assumption | exact (below1 wr _).trans ((below_drew _).mono (by simp)) | exact Below.alloc hs6 hs6.size _ | exact (((Below.setCell (p := ⟨_, 0, none⟩) hs6 hnbl _).setCell (p := ⟨_, 1, none⟩) hnbl _).setCell (p := ⟨_, 2, none⟩) hnbl _).setCell (p := ⟨_, 3, none⟩) hnbl _) (first | (go_at_call 29; refine (HRW wr.drew (below_drew _)).out.mono ?_; rintro e w6 ⟨N6, A6, ca6, X6, cx6, P6, Xw, nw, cw, rfl, hi6, hn6, hb6, hs6⟩; have HI6 := Lib.hid hi6; have HN6' := Lib.hid hn6; clear hi6 hn6) | (go_at_call 29; refine (HRW (wr.alloc (.cells #[.slice none 0 0, .slice none 0 0, .bool false, .int .i64 0] 33)).drew ((below1 wr _).trans ((below_drew _).mono (by simp)))).out.mono ?_; rintro e w6 ⟨N6, A6, ca6, X6, cx6, P6, Xw, nw, cw, rfl, hi6, hn6, hb6, hs6⟩; have HI6 := Lib.hid hi6; have HN6' := Lib.hid hn6; have hnbl : wr.heap.size ≤ wr.heap.size := Nat.le_refl _; have HZ6 := Lib.hid ((hb6.block _ (by simp)).trans (heap_alloc_new wr (.cells #[.slice none 0 0, .slice none 0 0, .bool false, .int .i64 0] 33))); have nc0 : w6.cell? ⟨wr.heap.size, 0, none⟩ = some _ := (cell_of_row _ _ 0 _ _ _ HZ6.out).trans rfl; have nf0 : w6.frozen? ⟨wr.heap.size, 0, none⟩ = false := frozen_of_row _ _ _ _ _ HZ6.out; have nc1 : w6.cell? ⟨wr.heap.size, 1, none⟩ = some _ := (cell_of_row _ _ 1 _ _ _ HZ6.out).trans rfl; have nf1 : w6.frozen? ⟨wr.heap.size, 1, none⟩ = false := frozen_of_row _ _ _ _ _ HZ6.out; have nc2 : w6.cell? ⟨wr.heap.size, 2, none⟩ = some _ := (cell_of_row _ _ 2 _ _ _ HZ6.out).trans rfl; have nf2 : w6.frozen? ⟨wr.heap.size, 2, none⟩ = false := frozen_of_row _ _ _ _ _ HZ6.out; have nc3 : w6.cell? ⟨wr.heap.size, 3, none⟩ = some _ := (cell_of_row _ _ 3 _ _ _ HZ6.out).trans rfl; have nf3 : w6.frozen? ⟨wr.heap.size, 3, none⟩ = false := frozen_of_row _ _ _ _ _ HZ6.out; clear hi6 hn6))
                all_goals (first | ((fail_if_success (have _h := nc0)); have hnb := heap_alloc_new w6 (.cells #[.slice A6 (64 * D6.n) ca6, .slice X6 P6.length cx6, .bool D6.x, .int .i64 D6.f] 33); have hbn : Below wr.heap.size wr (w6.alloc (.cells #[.slice A6 (64 * D6.n) ca6, .slice X6 P6.length cx6, .bool D6.x, .int .i64 D6.f] 33)) := hs6.alloc hs6.size _; have HIn := Lib.hid (HI6.out.below (below1 w6 (.cells #[.slice A6 (64 * D6.n) ca6, .slice X6 P6.length cx6, .bool D6.x, .int .i64 D6.f] 33))); have HNW : Hid (∀ x ∈ N6, x ∈ N ∨ wr.heap.size ≤ x) := (fun x hx => HN6'.out x hx); generalize w6.alloc (.cells #[.slice A6 (64 * D6.n) ca6, .slice X6 P6.length cx6, .bool D6.x, .int .i64 D6.f] 33) = wn at *; have na0 : wn.cell? ⟨w6.heap.size, 0, none⟩ = some _ := (cell_of_row _ _ 0 _ _ _ hnb).trans rfl; have na1 : wn.cell? ⟨w6.heap.size, 1, none⟩ = some _ := (cell_of_row _ _ 1 _ _ _ hnb).trans rfl; have na2 : wn.cell? ⟨w6.heap.size, 2, none⟩ = some _ := (cell_of_row _ _ 2 _ _ _ hnb).trans rfl; have na3 : wn.cell? ⟨w6.heap.size, 3, none⟩ = some _ := (cell_of_row _ _ 3 _ _ _ hnb).trans rfl; generalize w6.heap.size = nb at *) | (have HNW : Hid (∀ x ∈ N6, x ∈ N ∨ wr.heap.size ≤ x) := (fun x hx => (HN6'.out x hx).imp id fun h => Nat.le_trans (by simp) h); have hnb := heap_set4 HZ6.out (.slice A6 (64 * D6.n) ca6) (.slice X6 P6.length cx6) (.bool D6.x) (.int .i64 D6.f); have hcn := chg_set4 w6 (wr.heap.size) (.slice A6 (64 * D6.n) ca6) (.slice X6 P6.length cx6) (.bool D6.x) (.int .i64 D6.f); have hbn : Below wr.heap.size wr _ := hs6.trans (hcn.below hs6.size (fun x hx => by simp only [List.mem_singleton] at hx; subst hx; exact hnbl)); have hnn : ∀ x ∈ N6, x ≠ wr.heap.size := ne_of_new HN6'.out HH.out.ik.nl hnbl (by simp); have HIn := Lib.hid (HI6.out.kept (fun x hx => hcn.block x (HI6.out.nl x hx) (by simp; exact hnn x hx)) hcn.size); clear nc0 nc1 nc2 nc3 nf0 nf1 nf2 nf3 hnn hcn; generalize (((w6.setCell ⟨wr.heap.size, 0, none⟩ (.slice A6 (64 * D6.n) ca6)).setCell ⟨wr.heap.size, 1, none⟩ (.slice X6 P6.length cx6)).setCell ⟨wr.heap.size, 2, none⟩ (.bool D6.x)).setCell ⟨wr.heap.size, 3, none⟩ (.int .i64 D6.f) = wn at *; have na0 : wn.cell? ⟨wr.heap.size, 0, none⟩ = some _ := (cell_of_row _ _ 0 _ _ _ hnb).trans rfl; have na1 : wn.cell? ⟨wr.heap.size, 1, none⟩ = some _ := (cell_of_row _ _ 1 _ _ _ hnb).trans rfl; have na2 : wn.cell? ⟨wr.heap.size, 2, none⟩ = some _ := (cell_of_row _ _ 2 _ _ _ hnb).trans rfl; have na3 : wn.cell? ⟨wr.heap.size, 3, none⟩ = some _ := (cell_of_row _ _ 3 _ _ _ hnb).trans rfl; obtain ⟨nb, HNB⟩ : ∃ x, Hid (wr.heap.size = x) := ⟨_, rfl⟩; rw [HNB.out] at hnb na0 na1 na2 na3 ⊢))
                all_goals
                  have hput := HH.out.put hbn HIn.out HNW.out
                  have HRN := Lib.hid ((hbn.block _ hRl).trans HH.out.rx)
                  clear y0 y1 y2 y3 y4 r0 r1 r2 r3 HRW
                  have vc0 : wn.cell? ⟨Rx, 0, none⟩ = some _ := (cell_of_row _ _ 0 _ _ _ HRN.out).trans rfl; have vf0 : wn.frozen? ⟨Rx, 0, none⟩ = false := frozen_of_row _ _ _ _ _ HRN.out; have vc1 : wn.cell? ⟨Rx, 1, none⟩ = some _ := (cell_of_row _ _ 1 _ _ _ HRN.out).trans rfl; have vf1 : wn.frozen? ⟨Rx, 1, none⟩ = false := frozen_of_row _ _ _ _ _ HRN.out; have vc2 : wn.cell? ⟨Rx, 2, none⟩ = some _ := (cell_of_row _ _ 2 _ _ _ HRN.out).trans rfl; have vf2 : wn.frozen? ⟨Rx, 2, none⟩ = false := frozen_of_row _ _ _ _ _ HRN.out; have vc3 : wn.cell? ⟨Rx, 3, none⟩ = some _ := (cell_of_row _ _ 3 _ _ _ HRN.out).trans rfl; have vf3 : wn.frozen? ⟨Rx, 3, none⟩ = false := frozen_of_row _ _ _ _ _ HRN.out
                  go_upto_region 18 with (fail)
                  generalize (((wn.setCell ⟨Rx, 0, none⟩ (.slice A6 (64 * D6.n) ca6)).setCell ⟨Rx, 1, none⟩ (.slice X6 P6.length cx6)).setCell ⟨Rx, 2, none⟩ (.bool D6.x)).setCell ⟨Rx, 3, none⟩ (.int .i64 D6.f) = w9 at *
                  obtain ⟨p1, p2, p3, p4, p5, p6, _⟩ := hput
                  have HS9 := Lib.hid (HSTEP.out w9 _ p1)
                  have HP2 := Lib.hid p2
                  have HP3 := Lib.hid p3
                  have HP4 := Lib.hid p4
                  have HP5 := Lib.hid p5
                  have HP6 := Lib.hid p6
                  have hb9 : w9.heap[b]? = w1.heap[b]? := p1.b.block b hbw
                  have y0 := z0 w9 hb9
                  have y1 := z1 w9 hb9
                  have y2 := z2 w9 hb9
                  have y3 := z3 w9 hb9
                  have y4 := z4 w9 hb9
                  clear vc0 vf0 vc1 vf1 vc2 vf2 vc3 vf3
                  clear p1 p2 p3 p4 p5 p6 z0 z1 z2 z3 z4 HSTEP na0 na1 na2 na3 hbn hnb
                  go_wp2_with fail
                  refine HS9.out.mono ?_
                  rintro e w10 ⟨Xg, ng, cg, rfl, hp10, hk10⟩
                  have HT10 : Hid (ST w1 g c Rx Ry D6 Dy w10) :=
                    ⟨N6, A6, ca6, X6, cx6, P6, F2, B2, cb2, Y2, cy2, Q2, ⟨hp10, (hk10 Rx (by simp)).trans HP2.out, HP3.out.kept' (fun x hx => hk10 x (by simp [hx])), HP4.out, HH.out.rf, HP5.out, HH.out.ne, HH.out.bx⟩,
                      (hk10 Ry (by simp)).trans ((HP6.out Ry (by simp)).trans HS2.out), (HI2.out.kept' (fun x hx => HP6.out x (by simp [hx]))).kept' (fun x hx => hk10 x (by simp [hx])), HF2.out, hbs⟩
                  have der : (er != er) = false := by simp
                  clear hp10 hk10 y0 y1 y2 y3 y4
                  go_wp2_with fail
                  go_meet
                  exact ⟨D6, HDF.out.1, HDF.out.2, HT10.out⟩
              · have d2 : decide ((k : Int) < (n2 : Int)) = false := by simpa using h2
                go_wp2_with fail
                go_meet
                exact ⟨Dx, HX6.out, by have := HXP.out; omega, HST.out⟩
            case rest =>
            obtain ⟨Dz, hz6, hzp, hst⟩ := hcut
            have HDZ6 := Lib.hid hz6
            have HZP := Lib.hid hzp
            clear HST
            have HST := Lib.hid hst
            clear hz6 hzp hst HX6 HXP
            obtain ⟨wk2, rfl⟩ : ∃ x : World, x = wc := ⟨_, rfl⟩
            go_upto_if 101 with (fail)
            by_cases h2 : k < n3
            · have j2 : (k : Int) < (n3 : Int) := by omega
              have d2 : decide ((k : Int) < (n3 : Int)) = true := by simpa using h2
              obtain ⟨N, A, ca, X, cx, P, F2, B2, cb2, Y2, cy2, Q2, hh, hs2, hi2, hf2, hbs⟩ := HST.out.swap
              have HH := Lib.hid hh
              have HS2 := Lib.hid hs2
              have HI2 := Lib.hid hi2
              have HF2 := Lib.hid hf2
              have hRl : Ry < wk2.heap.size := (Array.getElem?_eq_some_iff.1 hh.rx).1
              have hkl : k < ms3.length := by have := HN3.out; omega
              obtain ⟨b, off, rfl, hbw, x0, x1, x2, x3, x4⟩ := HQ3.out.cells k hkl
              have hok := HQ3.out.ok _ (List.getElem_mem hkl)
              obtain ⟨m, HM⟩ : ∃ x, Hid (ms3[k] = x) := ⟨ms3[k], rfl⟩
              rw [HM.out] at x0 x1 x2 x3 x4 hok
              have HOK := Lib.hid hok
              have hat : ∀ o v (w' : World), w'.heap[b]? = w1.heap[b]? → w1.cell? ⟨b, o, none⟩ = some v → w'.cell? ⟨b, o, none⟩ = some v := fun o v w' h hv => (World.cell?_of_block (a := ⟨b, o, none⟩) h).trans hv
              have hbr : wk2.heap[b]? = w1.heap[b]? := hh.pr.b.block b hbw
              have hbl : b < wk2.heap.size := Nat.lt_of_lt_of_le hbw hh.pr.b.size
              have z0 : ∀ w' : World, w'.heap[b]? = w1.heap[b]? → w'.cell? ⟨b, off + k * 5, none⟩ = some (.int .i64 m.c.kind) := fun w' h => hat _ _ w' h x0
              have z1 : ∀ w' : World, w'.heap[b]? = w1.heap[b]? → w'.cell? ⟨b, off + k * 5 + 1, none⟩ = some (.int .i64 m.c.sec) := fun w' h => hat _ _ w' h x1
              have z2 : ∀ w' : World, w'.heap[b]? = w1.heap[b]? → w'.cell? ⟨b, off + k * 5 + 2, none⟩ = some (.int .i64 m.c.n) := fun w' h => hat _ _ w' h x2
              have z3 : ∀ w' : World, w'.heap[b]? = w1.heap[b]? → w'.cell? ⟨b, off + k * 5 + 3, none⟩ = some (vb m.c.seed) := fun w' h => hat _ _ w' h x3
              have z4 : ∀ w' : World, w'.heap[b]? = w1.heap[b]? → w'.cell? ⟨b, off + k * 5 + 4, none⟩ = some (.slice m.a m.c.sv.length m.cap) := fun w' h => hat _ _ w' h x4
              have hRc : ∀ w', Below wk2.heap.size wk2 w' → w'.heap[Ry]? = some (.cells #[.slice A (64 * Dy.n) ca, .slice X P.length cx, .bool Dy.x, .int .i64 Dy.f] 33 (0, 0)) := fun w' h => (h.block Ry hRl).trans hh.rx
              have r0 : ∀ w', Below wk2.heap.size wk2 w' → w'.cell? ⟨Ry, 0, none⟩ = some (.slice A (64 * Dy.n) ca) := fun w' h => (cell_of_row _ _ 0 _ _ _ (hRc w' h)).trans rfl
              have r1 : ∀ w', Below wk2.heap.size wk2 w' → w'.cell? ⟨Ry, 1, none⟩ = some (.slice X P.length cx) := fun w' h => (cell_of_row _ _ 1 _ _ _ (hRc w' h)).trans rfl
              have r2 : ∀ w', Below wk2.heap.size wk2 w' → w'.cell? ⟨Ry, 2, none⟩ = some (.bool Dy.x) := fun w' h => (cell_of_row _ _ 2 _ _ _ (hRc w' h)).trans rfl
              have r3 : ∀ w', Below wk2.heap.size wk2 w' → w'.cell? ⟨Ry, 3, none⟩ = some (.int .i64 Dy.f) := fun w' h => (cell_of_row _ _ 3 _ _ _ (hRc w' h)).trans rfl
              have y0 : ∀ w' : World, Below wk2.heap.size wk2 w' → w'.cell? ⟨b, off + k * 5, none⟩ = some (.int .i64 m.c.kind) := fun w' h => z0 w' ((h.block b hbl).trans hbr)
              have y1 : ∀ w' : World, Below wk2.heap.size wk2 w' → w'.cell? ⟨b, off + k * 5 + 1, none⟩ = some (.int .i64 m.c.sec) := fun w' h => z1 w' ((h.block b hbl).trans hbr)
              have y2 : ∀ w' : World, Below wk2.heap.size wk2 w' → w'.cell? ⟨b, off + k * 5 + 2, none⟩ = some (.int .i64 m.c.n) := fun w' h => z2 w' ((h.block b hbl).trans hbr)
              have y3 : ∀ w' : World, Below wk2.heap.size wk2 w' → w'.cell? ⟨b, off + k * 5 + 3, none⟩ = some (vb m.c.seed) := fun w' h => z3 w' ((h.block b hbl).trans hbr)
              have y4 : ∀ w' : World, Below wk2.heap.size wk2 w' → w'.cell? ⟨b, off + k * 5 + 4, none⟩ = some (.slice m.a m.c.sv.length m.cap) := fun w' h => z4 w' ((h.block b hbl).trans hbr)
              have HRW : ∀ wx, Below wk2.heap.size wk2 wx → Hid (Calls Try.prog 29 #[.agg #[.slice A (64 * Dy.n) ca, .slice X P.length cx, .bool Dy.x, .int .i64 Dy.f], .agg #[.int .i64 m.c.kind, .int .i64 m.c.sec, .int .i64 m.c.n, vb m.c.seed, .slice m.a m.c.sv.length m.cap]] wx fun e w' =>
                  ∃ N6 A6 ca6 X6 cx6 P6 Xw nw cw, e = .returned (.tuple #[.agg #[.slice A6 (64 * (stD Dy m.c).n) ca6, .slice X6 P6.length cx6, .bool (stD Dy m.c).x, .int .i64 (stD Dy m.c).f], .slice Xw nw cw, .int .i64 (stE Dy m.c)]) ∧ IsK' w' N6 (stD Dy m.c) A6 ca6 X6 cx6 P6 ∧ (∀ x ∈ N6, x ∈ N ∨ wx.heap.size ≤ x) ∧ Below wx.heap.size wx w' ∧ Below wk2.heap.size wk2 w') := by
                intro wx h1
                have hpx := HYP.out
                refine (rstep_calls (kval Dy A ca X cx P) N Dy m wx ⟨A, ca, X, cx, P, rfl, HH.out.ik.below h1⟩ ((HOK.out.below HH.out.pr.b).below h1) (by omega)).mono ?_
                rintro e w' ⟨v', N6, Xw, nw, cw, rfl, q1, q2, q3, q4, ⟨A6, ca6, X6, cx6, P6, rfl, h6⟩, hb, hn6, _⟩
                exact ⟨N6, A6, ca6, X6, cx6, P6, Xw, nw, cw, rfl, h6, hn6, hb, h1.trans (hb.mono h1.size)⟩
              have HDF : Hid ((stD Dy m.c).n = 6 ∧ (stD Dy m.c).p.length ≤ 12 + (k + 1)) := ⟨by rw [stD_n]; exact HY6.out, by have h1 := stD_p Dy m.c; have h2 := HYP.out; omega⟩
              have HSTEP : Hid (∀ w' F, Pair w1 F c g Dy Dz w' → Calls Try.prog 20 #[.pointer (some ⟨c, 0, none⟩), .agg #[.int .i64 m.c.kind, .int .i64 m.c.sec, .int .i64 m.c.n, vb m.c.seed, .slice m.a m.c.sv.length m.cap]] w' fun e w'' =>
                  ∃ X n cx, e = .returned (.tuple #[.slice X n cx, .int .i64 (stE Dy m.c)]) ∧ Pair w1 F c g (stD Dy m.c) Dz w'' ∧ Kept F w' w'') :=
                fun w' F hp => pair_step hp m HOK.out (by have := HYP.out; omega)
              clear hh hs2 hi2 hf2 hat x0 x1 x2 x3 x4 hok hRc
              generalize stD Dy m.c = D6 at *
              generalize stE Dy m.c = er at *
              generalize m.c.kind = kd at *
              generalize m.c.sec = sc at *
              generalize m.c.n = mn at *
              generalize vb m.c.seed = sd at *
              generalize m.c.sv.length = sl at *
              go_wp2_with fail
              go_region_held3 (fun w' => Below wk2.heap.size wk2 w') (first | exact below_drew _ | assumption | exact (below1 wk2 _).trans ((below_drew _).mono (by simp)) | exact Below.alloc hs6 hs6.size _ | exact (((Below.setCell (p := ⟨_, 0, none⟩) hs6 hnbl _).setCell (p := ⟨_, 1, none⟩) hnbl _).setCell (p := ⟨_, 2, none⟩) hnbl _).setCell (p := ⟨_, 3, none⟩) hnbl _) (first | (go_at_call 29; refine (HRW wk2.drew (below_drew _)).out.mono ?_; rintro e w6 ⟨N6, A6, ca6, X6, cx6, P6, Xw, nw, cw, rfl, hi6, hn6, hb6, hs6⟩; have HI6 := Lib.hid hi6; have HN6' := Lib.hid hn6; clear hi6 hn6) | (go_at_call 29; refine (HRW (wk2.alloc (.cells #[.slice none 0 0, .slice none 0 0, .bool false, .int .i64 0] 33)).drew ((below1 wk2 _).trans ((below_drew _).mono (by simp)))).out.mono ?_; rintro e w6 ⟨N6, A6, ca6, X6, cx6, P6, Xw, nw, cw, rfl, hi6, hn6, hb6, hs6⟩; have HI6 := Lib.hid hi6; have HN6' := Lib.hid hn6; have hnbl : wk2.heap.size ≤ wk2.heap.size := Nat.le_refl _; have HZ6 := Lib.hid ((hb6.block _ (by simp)).trans (heap_alloc_new wk2 (.cells #[.slice none 0 0, .slice none 0 0, .bool false, .int .i64 0] 33))); have nc0 : w6.cell? ⟨wk2.heap.size, 0, none⟩ = some _ := (cell_of_row _ _ 0 _ _ _ HZ6.out).trans rfl; have nf0 : w6.frozen? ⟨wk2.heap.size, 0, none⟩ = false := frozen_of_row _ _ _ _ _ HZ6.out; have nc1 : w6.cell? ⟨wk2.heap.size, 1, none⟩ = some _ := (cell_of_row _ _ 1 _ _ _ HZ6.out).trans rfl; have nf1 : w6.frozen? ⟨wk2.heap.size, 1, none⟩ = false := frozen_of_row _ _ _ _ _ HZ6.out; have nc2 : w6.cell? ⟨wk2.heap.size, 2, none⟩ = some _ := (cell_of_row _ _ 2 _ _ _ HZ6.out).trans rfl; have nf2 : w6.frozen? ⟨wk2.heap.size, 2, none⟩ = false := frozen_of_row _ _ _ _ _ HZ6.out; have nc3 : w6.cell? ⟨wk2.heap.size, 3, none⟩ = some _ := (cell_of_row _ _ 3 _ _ _ HZ6.out).trans rfl; have nf3 : w6.frozen? ⟨wk2.heap.size, 3, none⟩ = false := frozen_of_row _ _ _ _ _ HZ6.out; clear hi6 hn6))
              all_goals (first | ((fail_if_success (have _h := nc0)); have hnb := heap_alloc_new w6 (.cells #[.slice A6 (64 * D6.n) ca6, .slice X6 P6.length cx6, .bool D6.x, .int .i64 D6.f] 33); have hbn : Below wk2.heap.size wk2 (w6.alloc (.cells #[.slice A6 (64 * D6.n) ca6, .slice X6 P6.length cx6, .bool D6.x, .int .i64 D6.f] 33)) := hs6.alloc hs6.size _; have HIn := Lib.hid (HI6.out.below (below1 w6 (.cells #[.slice A6 (64 * D6.n) ca6, .slice X6 P6.length cx6, .bool D6.x, .int .i64 D6.f] 33))); have HNW : Hid (∀ x ∈ N6, x ∈ N ∨ wk2.heap.size ≤ x) := (fun x hx => HN6'.out x hx); generalize w6.alloc (.cells #[.slice A6 (64 * D6.n) ca6, .slice X6 P6.length cx6, .bool D6.x, .int .i64 D6.f] 33) = wn at *; have na0 : wn.cell? ⟨w6.heap.size, 0, none⟩ = some _ := (cell_of_row _ _ 0 _ _ _ hnb).trans rfl; have na1 : wn.cell? ⟨w6.heap.size, 1, none⟩ = some _ := (cell_of_row _ _ 1 _ _ _ hnb).trans rfl; have na2 : wn.cell? ⟨w6.heap.size, 2, none⟩ = some _ := (cell_of_row _ _ 2 _ _ _ hnb).trans rfl; have na3 : wn.cell? ⟨w6.heap.size, 3, none⟩ = some _ := (cell_of_row _ _ 3 _ _ _ hnb).trans rfl; generalize w6.heap.size = nb at *) | (have HNW : Hid (∀ x ∈ N6, x ∈ N ∨ wk2.heap.size ≤ x) := (fun x hx => (HN6'.out x hx).imp id fun h => Nat.le_trans (by simp) h); have hnb := heap_set4 HZ6.out (.slice A6 (64 * D6.n) ca6) (.slice X6 P6.length cx6) (.bool D6.x) (.int .i64 D6.f); have hcn := chg_set4 w6 (wk2.heap.size) (.slice A6 (64 * D6.n) ca6) (.slice X6 P6.length cx6) (.bool D6.x) (.int .i64 D6.f); have hbn : Below wk2.heap.size wk2 _ := hs6.trans (hcn.below hs6.size (fun x hx => by simp only [List.mem_singleton] at hx; subst hx; exact hnbl)); have hnn : ∀ x ∈ N6, x ≠ wk2.heap.size := ne_of_new HN6'.out HH.out.ik.nl hnbl (by simp); have HIn := Lib.hid (HI6.out.kept (fun x hx => hcn.block x (HI6.out.nl x hx) (by simp; exact hnn x hx)) hcn.size); clear nc0 nc1 nc2 nc3 nf0 nf1 nf2 nf3 hnn hcn; generalize (((w6.setCell ⟨wk2.heap.size, 0, none⟩ (.slice A6 (64 * D6.n) ca6)).setCell ⟨wk2.heap.size, 1, none⟩ (.slice X6 P6.length cx6)).setCell ⟨wk2.heap.size, 2, none⟩ (.bool D6.x)).setCell ⟨wk2.heap.size, 3, none⟩ (.int .i64 D6.f) = wn at *; have na0 : wn.cell? ⟨wk2.heap.size, 0, none⟩ = some _ := (cell_of_row _ _ 0 _ _ _ hnb).trans rfl; have na1 : wn.cell? ⟨wk2.heap.size, 1, none⟩ = some _ := (cell_of_row _ _ 1 _ _ _ hnb).trans rfl; have na2 : wn.cell? ⟨wk2.heap.size, 2, none⟩ = some _ := (cell_of_row _ _ 2 _ _ _ hnb).trans rfl; have na3 : wn.cell? ⟨wk2.heap.size, 3, none⟩ = some _ := (cell_of_row _ _ 3 _ _ _ hnb).trans rfl; obtain ⟨nb, HNB⟩ : ∃ x, Hid (wk2.heap.size = x) := ⟨_, rfl⟩; rw [HNB.out] at hnb na0 na1 na2 na3 ⊢))
              all_goals
                have hput := HH.out.put hbn HIn.out HNW.out
                have HRN := Lib.hid ((hbn.block _ hRl).trans HH.out.rx)
                clear y0 y1 y2 y3 y4 r0 r1 r2 r3 HRW
                have vc0 : wn.cell? ⟨Ry, 0, none⟩ = some _ := (cell_of_row _ _ 0 _ _ _ HRN.out).trans rfl; have vf0 : wn.frozen? ⟨Ry, 0, none⟩ = false := frozen_of_row _ _ _ _ _ HRN.out; have vc1 : wn.cell? ⟨Ry, 1, none⟩ = some _ := (cell_of_row _ _ 1 _ _ _ HRN.out).trans rfl; have vf1 : wn.frozen? ⟨Ry, 1, none⟩ = false := frozen_of_row _ _ _ _ _ HRN.out; have vc2 : wn.cell? ⟨Ry, 2, none⟩ = some _ := (cell_of_row _ _ 2 _ _ _ HRN.out).trans rfl; have vf2 : wn.frozen? ⟨Ry, 2, none⟩ = false := frozen_of_row _ _ _ _ _ HRN.out; have vc3 : wn.cell? ⟨Ry, 3, none⟩ = some _ := (cell_of_row _ _ 3 _ _ _ HRN.out).trans rfl; have vf3 : wn.frozen? ⟨Ry, 3, none⟩ = false := frozen_of_row _ _ _ _ _ HRN.out
                go_upto_region 24 with (fail)
                generalize (((wn.setCell ⟨Ry, 0, none⟩ (.slice A6 (64 * D6.n) ca6)).setCell ⟨Ry, 1, none⟩ (.slice X6 P6.length cx6)).setCell ⟨Ry, 2, none⟩ (.bool D6.x)).setCell ⟨Ry, 3, none⟩ (.int .i64 D6.f) = w9 at *
                obtain ⟨p1, p2, p3, p4, p5, p6, _⟩ := hput
                have HS9 := Lib.hid (HSTEP.out w9 _ p1)
                have HP2 := Lib.hid p2
                have HP3 := Lib.hid p3
                have HP4 := Lib.hid p4
                have HP5 := Lib.hid p5
                have HP6 := Lib.hid p6
                have hb9 : w9.heap[b]? = w1.heap[b]? := p1.b.block b hbw
                have y0 := z0 w9 hb9
                have y1 := z1 w9 hb9
                have y2 := z2 w9 hb9
                have y3 := z3 w9 hb9
                have y4 := z4 w9 hb9
                clear vc0 vf0 vc1 vf1 vc2 vf2 vc3 vf3
                clear p1 p2 p3 p4 p5 p6 z0 z1 z2 z3 z4 HSTEP na0 na1 na2 na3 hbn hnb
                go_wp2_with fail
                refine HS9.out.mono ?_
                rintro e w10 ⟨Xg, ng, cg, rfl, hp10, hk10⟩
                have HT10 : Hid (ST w1 c g Ry Rx D6 Dz w10) :=
                  ⟨N6, A6, ca6, X6, cx6, P6, F2, B2, cb2, Y2, cy2, Q2, ⟨hp10, (hk10 Ry (by simp)).trans HP2.out, HP3.out.kept' (fun x hx => hk10 x (by simp [hx])), HP4.out, HH.out.rf, HP5.out, HH.out.ne, HH.out.bx⟩,
                    (hk10 Rx (by simp)).trans ((HP6.out Rx (by simp)).trans HS2.out), (HI2.out.kept' (fun x hx => HP6.out x (by simp [hx]))).kept' (fun x hx => hk10 x (by simp [hx])), HF2.out, hbs⟩
                have der : (er != er) = false := by simp
                clear hp10 hk10 y0 y1 y2 y3 y4
                go_wp2_with fail
                go_roundw
                case rel => exact ⟨k + 1, Dz, D6, by omega, by go_num, HDZ6.out, HDF.out.1, HZP.out, HDF.out.2, HT10.out.swap⟩
                case measure => simp [intOf]; omega
            · have d2 : decide ((k : Int) < (n3 : Int)) = false := by simpa using h2
              go_wp2_with fail
              go_roundw
              case rel => exact ⟨k + 1, Dz, Dy, by omega, by go_num, HDZ6.out, HY6.out, HZP.out, by have := HYP.out; omega, HST.out⟩
              case measure => simp [intOf]; omega
-- END
          · have j1 : decide ((k : Int) < max (n2 : Int) (n3 : Int)) = false := by simp; omega
            obtain ⟨N, A, ca, X, cx, P, F2, B2, cb2, Y2, cy2, Q2, hh, hs2, hi2, _, _⟩ := HST.out
            have HH := Lib.hid hh
            have HEV1 := Lib.hid (ownF_even hh.pr.one ⟨A, ca, X, cx, P, rfl, hh.ik⟩)
            have HEV2 : Hid (∀ w', Below wr.heap.size wr w' → _) := Lib.hid (fun w' (hb : Below wr.heap.size wr w') => ownF_even (hh.pr.below hb).two ⟨B2, cb2, Y2, cy2, Q2, rfl, hi2.below hb⟩)
            unfold kval at HEV1 HEV2
            have HRX := Lib.hid hh.rx
            have HRY := Lib.hid hs2
            have HD7 : Hid ((crashD Dx []).n = 6) := HX6.out
            have HD8 : Hid ((crashD Dx []).x = false ∧ (crashD Dx []).f = -1 ∧ (crashD Dx []).p = []) := ⟨rfl, rfl, rfl⟩
            clear hh hs2 hi2 HST HYP HY6 HXP HX6
            have vc0 : wr.cell? ⟨Rx, 0, none⟩ = some _ := (cell_of_row _ _ 0 _ _ _ HRX.out).trans rfl; have vf0 : wr.frozen? ⟨Rx, 0, none⟩ = false := frozen_of_row _ _ _ _ _ HRX.out; have vc1 : wr.cell? ⟨Rx, 1, none⟩ = some _ := (cell_of_row _ _ 1 _ _ _ HRX.out).trans rfl; have vf1 : wr.frozen? ⟨Rx, 1, none⟩ = false := frozen_of_row _ _ _ _ _ HRX.out; have vc2 : wr.cell? ⟨Rx, 2, none⟩ = some _ := (cell_of_row _ _ 2 _ _ _ HRX.out).trans rfl; have vf2 : wr.frozen? ⟨Rx, 2, none⟩ = false := frozen_of_row _ _ _ _ _ HRX.out; have vc3 : wr.cell? ⟨Rx, 3, none⟩ = some _ := (cell_of_row _ _ 3 _ _ _ HRX.out).trans rfl; have vf3 : wr.frozen? ⟨Rx, 3, none⟩ = false := frozen_of_row _ _ _ _ _ HRX.out
            go_wp2_with fail
            refine HEV1.out.mono ?_
            rintro e w6 ⟨rfl, hb6⟩
            have HB6 := Lib.hid hb6
            have HRY6 := Lib.hid ((hb6.block _ (Array.getElem?_eq_some_iff.1 HRY.out).1).trans HRY.out)
            clear hb6
            clear vc0 vf0 vc1 vf1 vc2 vf2 vc3 vf3
            have vc0 : w6.cell? ⟨Ry, 0, none⟩ = some _ := (cell_of_row _ _ 0 _ _ _ HRY6.out).trans rfl; have vf0 : w6.frozen? ⟨Ry, 0, none⟩ = false := frozen_of_row _ _ _ _ _ HRY6.out; have vc1 : w6.cell? ⟨Ry, 1, none⟩ = some _ := (cell_of_row _ _ 1 _ _ _ HRY6.out).trans rfl; have vf1 : w6.frozen? ⟨Ry, 1, none⟩ = false := frozen_of_row _ _ _ _ _ HRY6.out; have vc2 : w6.cell? ⟨Ry, 2, none⟩ = some _ := (cell_of_row _ _ 2 _ _ _ HRY6.out).trans rfl; have vf2 : w6.frozen? ⟨Ry, 2, none⟩ = false := frozen_of_row _ _ _ _ _ HRY6.out; have vc3 : w6.cell? ⟨Ry, 3, none⟩ = some _ := (cell_of_row _ _ 3 _ _ _ HRY6.out).trans rfl; have vf3 : w6.frozen? ⟨Ry, 3, none⟩ = false := frozen_of_row _ _ _ _ _ HRY6.out
            go_wp2_with fail
            refine (HEV2.out w6 HB6.out).mono ?_
            rintro e w7 ⟨rfl, hb7⟩
            have HO7 : Hid (OwnF w1 [] g Dx w7) := ((HH.out.pr.below HB6.out).below hb7).one.sub (by simp)
            clear vc0 vf0 vc1 vf1 vc2 vf2 vc3 vf3
            clear hb7 HEV1 HEV2 HB6 HRY6 HRX HRY HH
            go_wp2_with fail
            refine (fill_calls 3 1 w7 (by omega)).mono ?_
            rintro e w8 ⟨Xd, cd, rfl, hod, hb8⟩
            rw [fillB_len] at hod ⊢
            obtain ⟨gd, cd', e8, hgd1, hgd2, hf8, hc8, _⟩ := own_set0 hod 0 (by omega)
            cases e8
            have HO8 := Lib.hid (HO7.out.add hb8 [gd] (by simp; exact ⟨hgd1, hgd2⟩))
            have HRD8 := Lib.hid (RB.of_own hod)
            have HC8 := Lib.hid hc8
            have HF8 := Lib.hid hf8
            have HGD : Hid (w1.heap.size ≤ gd) := by show _ ≤ _; have := HO7.out.b.size; omega
            clear hod hb8 hf8 hc8 hgd1 hgd2
            go_wp2_with fail
            refine (ownF_crash HO8.out none 0 0 [] rfl Rd.nil).mono ?_
            rintro e w9 ⟨rfl, h9, k9⟩
            have HO9 := Lib.hid h9
            have HK9 := Lib.hid k9
            have HRD9 := Lib.hid (k9.rd HRD8.out (fun _ b off e => by cases e; simp))
            generalize crashD Dx [] = D7 at *
            obtain ⟨b1, b2, b3⟩ := one_back HD7.out HD8.out.1 HD8.out.2.1 HD8.out.2.2 (fillB 3 64) (fillB_len _ _)
            have HW := Lib.hid (ownF_write HO9.out 0 (some ⟨gd, 0, none⟩) 64 cd (fillB 3 64) (fillB_len _ _) HRD9.out (by omega) (by omega) (by omega) (by rw [HD8.out.2.2]; simp))
            rw [b1] at HW
            have HB2 := Lib.hid b2
            have HB3 := Lib.hid b3
            clear h9 k9 b1 b2 b3
            generalize writeD D7 0 (fillB 3 64) = D8 at *
            go_wp2_with fail
            refine HW.out.mono ?_
            rintro e w10 ⟨rfl, h10, k10⟩
            have HO10 := Lib.hid h10
            have hh10 : w10.heap[gd]? = w8.heap[gd]? := (k10 gd (by simp)).trans (HK9.out gd (by simp))
            have c10 : w10.cell? ⟨gd, 0, none⟩ = some (.int .u8 3) := (World.cell?_of_block (a := ⟨gd, 0, none⟩) hh10).trans HC8.out
            have f10 : w10.frozen? ⟨gd, 0, none⟩ = false := (World.frozen?_of_block (a := ⟨gd, 0, none⟩) hh10).trans HF8.out
            clear h10 k10 hh10 HW HO9 HK9 HRD9 HRD8 HO8 HC8 HF8
            go_wp2_with fail
            have hcs : Chg [gd] w10 (w10.setCell ⟨gd, 0, none⟩ (.int .u8 4)) := (Chg.refl [gd] w10).setCell (p := ⟨gd, 0, none⟩) (.inl (by simp)) _
            have HO11 := Lib.hid (HO10.out.wr hcs (by simp; exact HGD.out))
            clear hcs c10 f10
            generalize w10.setCell ⟨gd, 0, none⟩ (.int .u8 4) = w11 at *
            refine (ownF_read HO11.out 0 1 (by omega) (by omega)).mono ?_
            rintro e w12 ⟨Xr, nr, cr, rfl, hnr, hor, hbr, _⟩
            rw [HB2.out]
            rw [HB3.out, fillB_len] at hnr
            rw [HB3.out] at hor
            subst hnr
            obtain ⟨gr, cr', e12, hgr1, hgr2, hf12, hc12, _⟩ := own_set0 hor 0 (by omega)
            cases e12
            have HO12 := Lib.hid (HO11.out.add hbr [gr] (by simp; exact ⟨hgr1, hgr2⟩))
            have HRR := Lib.hid (RB.of_own hor)
            have HGR : Hid (w1.heap.size ≤ gr) := by show _ ≤ _; have := HO11.out.b.size; omega
            have HC12 := Lib.hid hc12
            have HF12 := Lib.hid hf12
            clear hor hbr hf12 hc12 hgr1
            go_wp2_with fail
            refine (fill_calls 3 1 w12 (by omega)).mono ?_
            rintro e w13 ⟨Xf, cf, rfl, hof, hbf⟩
            rw [fillB_len] at hof ⊢
            have HSM := Lib.hid (same_calls (some ⟨gr, 0, none⟩) Xf 64 64 cr cf (fillB 3 64) (fillB 3 64) w13 (fillB_len _ _) (fillB_len _ _) (HRR.out.below hbf) (RB.of_own hof))
            rw [sameB_self] at HSM
            have HO13 := Lib.hid (HO12.out.below hbf)
            have hh13 : w13.heap[gr]? = w12.heap[gr]? := hbf.block gr hgr2
            have c13 : w13.cell? ⟨gr, 0, none⟩ = some (.int .u8 3) := (World.cell?_of_block (a := ⟨gr, 0, none⟩) hh13).trans HC12.out
            have f13 : w13.frozen? ⟨gr, 0, none⟩ = false := (World.frozen?_of_block (a := ⟨gr, 0, none⟩) hh13).trans HF12.out
            clear hof hbf hh13 hgr2
            go_wp2_with fail
            refine HSM.out.mono ?_
            rintro e w14 ⟨rfl, rfl⟩
            go_wp2_with fail
            have hcs : Chg [gr] w13 (w13.setCell ⟨gr, 0, none⟩ (.int .u8 4)) := (Chg.refl [gr] w13).setCell (p := ⟨gr, 0, none⟩) (.inl (by simp)) _
            have HO15 := Lib.hid (HO13.out.wr hcs (by simp; exact HGR.out))
            clear hcs c13 f13 HSM
            generalize w13.setCell ⟨gr, 0, none⟩ (.int .u8 4) = w15 at *
            refine (ownF_read HO15.out 0 1 (by omega) (by omega)).mono ?_
            rintro e w16 ⟨Xs, ns, cs, rfl, hns, hos, hbs, _⟩
            rw [HB2.out]
            rw [HB3.out, fillB_len] at hns
            rw [HB3.out] at hos
            subst hns
            have HO16 := Lib.hid (HO15.out.below hbs)
            have HRS := Lib.hid (RB.of_own hos)
            clear hos hbs
            go_wp2_with fail
            refine (fill_calls 3 1 w16 (by omega)).mono ?_
            rintro e w17 ⟨Xf2, cf2, rfl, hof, hbf⟩
            rw [fillB_len] at hof ⊢
            have HSM := Lib.hid (same_calls Xs Xf2 64 64 cs cf2 (fillB 3 64) (fillB 3 64) w17 (fillB_len _ _) (fillB_len _ _) (HRS.out.below hbf) (RB.of_own hof))
            rw [sameB_self] at HSM
            have HO17 := Lib.hid (HO16.out.below hbf)
            clear hof hbf
            go_wp2_with fail
            refine HSM.out.mono ?_
            rintro e w18 ⟨rfl, rfl⟩
            go_wp2_with fail
            go_ret
            exact ⟨rfl, HB1.out.trans (HO17.out.b.mono HB1.out.size)⟩
end Dk
end Go.Proofs.Ytoallpinpeolfaa
