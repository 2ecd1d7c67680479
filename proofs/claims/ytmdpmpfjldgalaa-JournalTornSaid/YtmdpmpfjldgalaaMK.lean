/- Merged: JnS. -/
import Derived.Test.YtmdpmpfjldgalaaMJ
/- The walk of the reference's Checkpoint. -/
namespace Go.Proofs.Ytmdpmpfjldgalaa
open Go.RowKit
namespace Jn
open Dk Wi Wr

theorem wrJ_ckn (D : St) (j : Jr) (r : List UInt8) : (ckW D j r).1.n = D.n := by unfold ckW; exact wrJ_n _ _ _ _

set_option maxRecDepth 100000 in
set_option maxHeartbeats 4000000 in
theorem rcheckpoint_calls (v : Value) (N0 : List Nat) (D : St) (j : Jr) (A0 : Option Addr) (n c : Nat) (d : List UInt8) (w : World) (h : IsV w N0 v D j) (hn : d.length = n) (hm : n ≤ 500000) (hr : RB w A0 d) (hD : D.n ≤ 100) (hc : Calm D) :
    Calls Try.prog 31 #[v, .slice A0 n c] w (RCallP w N0 (chkD D j d) (chkJ D j d) (chkE D j d)) := by
  have HV := Lib.hid h
  obtain ⟨A, ca, X, cx, P, sa, sc, ra, rc, ms, rfl, h⟩ := h
  have HV' := Lib.hid h
  have HN := Lib.hid hn
  have HRD := Lib.hid hr
  have HC := Lib.hid hc
  have hq50 : half D ≤ 50 := by unfold half; omega
  have ht2 := h.ok.t2
  have hje := h.ok.e
  have hml : ms.length ≤ 50 := by have := h.ok.r; rw [h.rs, List.length_map] at this; omega
  have HMS : Hid (j.rs.length = ms.length) := by show _ = _; rw [h.rs]; simp
  have HNL : Hid (∀ x ∈ N0, x < w.heap.size) := h.k.nl
  have HHF : ∀ w', Below w.heap.size w w' → Hid (Calls Try.prog 54 #[kval D A ca X cx P] w' fun e w'' => e = .returned (.int .i64 (half D : Int)) ∧ Below w'.heap.size w' w'') := fun w' hb => rhalf_calls _ N0 D w' ⟨_, _, _, _, _, rfl, h.k.below hb⟩
  have HWR : ∀ w' B m c', Below w.heap.size w w' → RB w' B (ckB j d) → (ckB j d).length = m → m ≤ 600000 → ckFull D j d = false → Hid (Calls Try.prog 55 #[kval D A ca X cx P, .int .i64 ((j.t + 1 : Nat) : Int), .int .i64 0, .slice B m c'] w' (KP w' N0 (ckW D j d).1 fun v' => .tuple #[v', .int .i64 (if (ckW D j d).2 = true then 0 else 10)])) := fun w' B m c' hb hr hl hm6 hf => by
    have hbl := blockL_len (j.t + 1) 0 d
    unfold ckFull at hf
    simp only [Bool.or_eq_false_iff, decide_eq_false_iff_not] at hf
    have := rwr_calls _ N0 D (j.t + 1) 0 B m c' (ckB j d) w' ⟨_, _, _, _, _, rfl, h.k.below hb⟩ hl hr (by rw [← hl]; exact hbl.1) hm6 (by rw [← hl]; omega) hD (by have := HC.out.l; omega)
    rw [Nat.add_zero] at this
    exact this
  have HRET : Hid (∀ N c0 c1 c2 c3 c4 c5 c6 c7 c8 w' er, chkE D j d = er → IsV w' N (.agg #[c0, c1, c2, c3, c4, c5, c6, c7, c8]) (chkD D j d) (chkJ D j d) → Below w.heap.size w w' → (∀ x ∈ N, x ∈ N0 ∨ w.heap.size + 1 < x) →
      RCallP w N0 (chkD D j d) (chkJ D j d) (chkE D j d) (.returned (.tuple #[.agg #[c0, c1, c2, c3, c4, c5, c6, c7, c8], .int .i64 er])) ((((((((((w'.setCell ⟨w.heap.size + 1, 0, none⟩ c0).setCell ⟨w.heap.size + 1, 1, none⟩ c1).setCell ⟨w.heap.size + 1, 2, none⟩ c2).setCell ⟨w.heap.size + 1, 3, none⟩ c3).setCell ⟨w.heap.size + 1, 4, none⟩ c4).setCell ⟨w.heap.size + 1, 5, none⟩ c5).setCell ⟨w.heap.size + 1, 6, none⟩ c6).setCell ⟨w.heap.size + 1, 7, none⟩ c7).setCell ⟨w.heap.size + 1, 8, none⟩ c8))) := by
    intro N c0 c1 c2 c3 c4 c5 c6 c7 c8 w' er he hw hb hn
    have hcs := chg_set9 w' (w.heap.size + 1) c0 c1 c2 c3 c4 c5 c6 c7 c8
    refine ⟨_, N, by rw [he], hw.chg hcs (fun x hx hm => ?_), hb.trans (hcs.below hb.size (by simp)), fun x hx => (hn x hx).imp id fun h => by omega⟩
    simp only [List.mem_singleton] at hm
    subst hm
    rcases hn _ hx with h | h
    · have := HNL.out _ h; omega
    · omega
  unfold jval at HV ⊢
  unfold kval at HHF HWR
  obtain ⟨N, HNN⟩ : ∃ x, Hid (64 * D.n = x) := ⟨_, rfl⟩
  obtain ⟨pl, HPL⟩ : ∃ x, Hid (P.length = x) := ⟨_, rfl⟩
  obtain ⟨ml, HML⟩ : ∃ x, Hid (ms.length = x) := ⟨_, rfl⟩
  obtain ⟨sl, HSL⟩ : ∃ x, Hid (j.s.length = x) := ⟨_, rfl⟩
  rw [HNN.out, HPL.out, HML.out, HSL.out] at HV ⊢
  rw [HNN.out, HPL.out] at HHF HWR
  rw [HML.out] at hml HMS
  have hb2 := below2 w (.cells #[.slice A N ca, .slice X pl cx, .bool D.x, .int .i64 D.f, .int .i64 (j.t : Int), .slice sa sl sc, .slice ra ml rc, .int .i64 (j.e : Int), .bool j.x] 46) (.cells #[.slice none 0 0, .slice none 0 0, .bool false, .int .i64 0, .int .i64 0, .slice none 0 0, .slice none 0 0, .int .i64 0, .bool false] 46)
  have hk0 : ((w.alloc (.cells #[.slice A N ca, .slice X pl cx, .bool D.x, .int .i64 D.f, .int .i64 (j.t : Int), .slice sa sl sc, .slice ra ml rc, .int .i64 (j.e : Int), .bool j.x] 46)).alloc (.cells #[.slice none 0 0, .slice none 0 0, .bool false, .int .i64 0, .int .i64 0, .slice none 0 0, .slice none 0 0, .int .i64 0, .bool false] 46)).heap[w.heap.size]? = _ := (Below.heap_alloc _ _ _ (by simp)).trans (heap_alloc_new _ _)
  have hk1 : ((w.alloc (.cells #[.slice A N ca, .slice X pl cx, .bool D.x, .int .i64 D.f, .int .i64 (j.t : Int), .slice sa sl sc, .slice ra ml rc, .int .i64 (j.e : Int), .bool j.x] 46)).alloc (.cells #[.slice none 0 0, .slice none 0 0, .bool false, .int .i64 0, .int .i64 0, .slice none 0 0, .slice none 0 0, .int .i64 0, .bool false] 46)).heap[w.heap.size + 1]? = _ := heap_alloc2_new _ _ _
  obtain ⟨w2, HW2⟩ : ∃ x, Hid ((w.alloc (.cells #[.slice A N ca, .slice X pl cx, .bool D.x, .int .i64 D.f, .int .i64 (j.t : Int), .slice sa sl sc, .slice ra ml rc, .int .i64 (j.e : Int), .bool j.x] 46)).alloc (.cells #[.slice none 0 0, .slice none 0 0, .bool false, .int .i64 0, .int .i64 0, .slice none 0 0, .slice none 0 0, .int .i64 0, .bool false] 46) = x) := ⟨_, rfl⟩
  rw [HW2.out] at hb2 hk0 hk1
  have HB2 := Lib.hid hb2
  have HK0 := Lib.hid hk0
  have HK1 := Lib.hid hk1
  have hs2 : w.heap.size + 1 < w2.heap.size := (Array.getElem?_eq_some_iff.1 hk1).1
  clear h hn hr hc hb2 hk0 hk1
  obtain ⟨q, HQ⟩ : ∃ x, Hid (half D = x) := ⟨_, rfl⟩
  rw [HQ.out] at hq50 hje HHF
  cases hx : j.x with
  | true =>
    have HF : Hid (RCallP w N0 (chkD D j d) (chkJ D j d) (chkE D j d) (.returned (.tuple #[.agg #[.slice A N ca, .slice X pl cx, .bool D.x, .int .i64 D.f, .int .i64 (j.t : Int), .slice sa sl sc, .slice ra ml rc, .int .i64 (j.e : Int), .bool j.x], .int .i64 9])) _) :=
      HRET.out N0 _ _ _ _ _ _ _ _ _ w2 9 (by unfold chkE; rw [if_pos hx]) (by unfold chkD chkJ; rw [if_pos hx, if_pos hx]; exact HV.out.below HB2.out) HB2.out (fun x hx => .inl hx)
    rw [hx] at HW2 HK0 HF
    clear hx HWR HHF
    have rc0 : w2.cell? ⟨w.heap.size, 0, none⟩ = some _ := (cell_of_row _ _ 0 _ _ _ HK0.out).trans rfl; have rf0 : w2.frozen? ⟨w.heap.size, 0, none⟩ = false := frozen_of_row _ _ _ _ _ HK0.out; have rc1 : w2.cell? ⟨w.heap.size, 1, none⟩ = some _ := (cell_of_row _ _ 1 _ _ _ HK0.out).trans rfl; have rf1 : w2.frozen? ⟨w.heap.size, 1, none⟩ = false := frozen_of_row _ _ _ _ _ HK0.out; have rc2 : w2.cell? ⟨w.heap.size, 2, none⟩ = some _ := (cell_of_row _ _ 2 _ _ _ HK0.out).trans rfl; have rf2 : w2.frozen? ⟨w.heap.size, 2, none⟩ = false := frozen_of_row _ _ _ _ _ HK0.out; have rc3 : w2.cell? ⟨w.heap.size, 3, none⟩ = some _ := (cell_of_row _ _ 3 _ _ _ HK0.out).trans rfl; have rf3 : w2.frozen? ⟨w.heap.size, 3, none⟩ = false := frozen_of_row _ _ _ _ _ HK0.out; have rc4 : w2.cell? ⟨w.heap.size, 4, none⟩ = some _ := (cell_of_row _ _ 4 _ _ _ HK0.out).trans rfl; have rf4 : w2.frozen? ⟨w.heap.size, 4, none⟩ = false := frozen_of_row _ _ _ _ _ HK0.out; have rc5 : w2.cell? ⟨w.heap.size, 5, none⟩ = some _ := (cell_of_row _ _ 5 _ _ _ HK0.out).trans rfl; have rf5 : w2.frozen? ⟨w.heap.size, 5, none⟩ = false := frozen_of_row _ _ _ _ _ HK0.out; have rc6 : w2.cell? ⟨w.heap.size, 6, none⟩ = some _ := (cell_of_row _ _ 6 _ _ _ HK0.out).trans rfl; have rf6 : w2.frozen? ⟨w.heap.size, 6, none⟩ = false := frozen_of_row _ _ _ _ _ HK0.out; have rc7 : w2.cell? ⟨w.heap.size, 7, none⟩ = some _ := (cell_of_row _ _ 7 _ _ _ HK0.out).trans rfl; have rf7 : w2.frozen? ⟨w.heap.size, 7, none⟩ = false := frozen_of_row _ _ _ _ _ HK0.out; have rc8 : w2.cell? ⟨w.heap.size, 8, none⟩ = some _ := (cell_of_row _ _ 8 _ _ _ HK0.out).trans rfl; have rf8 : w2.frozen? ⟨w.heap.size, 8, none⟩ = false := frozen_of_row _ _ _ _ _ HK0.out
    have zc0 : w2.cell? ⟨w.heap.size + 1, 0, none⟩ = some _ := (cell_of_row _ _ 0 _ _ _ HK1.out).trans rfl; have zf0 : w2.frozen? ⟨w.heap.size + 1, 0, none⟩ = false := frozen_of_row _ _ _ _ _ HK1.out; have zc1 : w2.cell? ⟨w.heap.size + 1, 1, none⟩ = some _ := (cell_of_row _ _ 1 _ _ _ HK1.out).trans rfl; have zf1 : w2.frozen? ⟨w.heap.size + 1, 1, none⟩ = false := frozen_of_row _ _ _ _ _ HK1.out; have zc2 : w2.cell? ⟨w.heap.size + 1, 2, none⟩ = some _ := (cell_of_row _ _ 2 _ _ _ HK1.out).trans rfl; have zf2 : w2.frozen? ⟨w.heap.size + 1, 2, none⟩ = false := frozen_of_row _ _ _ _ _ HK1.out; have zc3 : w2.cell? ⟨w.heap.size + 1, 3, none⟩ = some _ := (cell_of_row _ _ 3 _ _ _ HK1.out).trans rfl; have zf3 : w2.frozen? ⟨w.heap.size + 1, 3, none⟩ = false := frozen_of_row _ _ _ _ _ HK1.out; have zc4 : w2.cell? ⟨w.heap.size + 1, 4, none⟩ = some _ := (cell_of_row _ _ 4 _ _ _ HK1.out).trans rfl; have zf4 : w2.frozen? ⟨w.heap.size + 1, 4, none⟩ = false := frozen_of_row _ _ _ _ _ HK1.out; have zc5 : w2.cell? ⟨w.heap.size + 1, 5, none⟩ = some _ := (cell_of_row _ _ 5 _ _ _ HK1.out).trans rfl; have zf5 : w2.frozen? ⟨w.heap.size + 1, 5, none⟩ = false := frozen_of_row _ _ _ _ _ HK1.out; have zc6 : w2.cell? ⟨w.heap.size + 1, 6, none⟩ = some _ := (cell_of_row _ _ 6 _ _ _ HK1.out).trans rfl; have zf6 : w2.frozen? ⟨w.heap.size + 1, 6, none⟩ = false := frozen_of_row _ _ _ _ _ HK1.out; have zc7 : w2.cell? ⟨w.heap.size + 1, 7, none⟩ = some _ := (cell_of_row _ _ 7 _ _ _ HK1.out).trans rfl; have zf7 : w2.frozen? ⟨w.heap.size + 1, 7, none⟩ = false := frozen_of_row _ _ _ _ _ HK1.out; have zc8 : w2.cell? ⟨w.heap.size + 1, 8, none⟩ = some _ := (cell_of_row _ _ 8 _ _ _ HK1.out).trans rfl; have zf8 : w2.frozen? ⟨w.heap.size + 1, 8, none⟩ = false := frozen_of_row _ _ _ _ _ HK1.out
    generalize j.t = jt at *
    generalize j.e = je at *
    go_enter Try.func31, Try.ntmps31
    go_upto_region 1 with (fail)
    rw [HW2.out]
    go_wp2_with fail
    have hz := heap_set9 HK1.out (.slice A N ca) (.slice X pl cx) (.bool D.x) (.int .i64 D.f) (.int .i64 (jt : Int)) (.slice sa sl sc) (.slice ra ml rc) (.int .i64 (je : Int)) (.bool true)
    refine bodyPost_ret (results_cell_tmp rfl _ _ (w.heap.size + 1) 46 _ (0, 0) _ rfl hz Try.underlying46 rfl size_jr) rfl ?_
    exact HF.out
  | false =>
    have hxn : ¬ j.x = true := by rw [hx]; simp
    have HX := Lib.hid hxn
    obtain ⟨t1, HT1⟩ : ∃ x, Hid (j.t + 1 = x) := ⟨_, rfl⟩
    have em : (j.t : Int) + 1 = (t1 : Int) := by have := HT1.out; omega
    rw [HT1.out] at HWR
    have HBL : Hid (Calls Try.prog 34 #[.int .i64 (t1 : Int), .int .i64 0, .slice A0 n c] w2 (NewB w2 (ckB j d))) := by
      have := rblock_calls (j.t + 1) 0 A0 n c d w2 HN.out (RB.below HRD.out HB2.out) hm (by omega) (by omega)
      rw [HT1.out] at this
      rw [show ckB j d = blockL t1 0 d by unfold ckB; rw [HT1.out]]
      exact this
    have hbl := blockL_len (j.t + 1) 0 d
    obtain ⟨BL, HBLK⟩ : ∃ x, Hid (ckB j d = x) := ⟨_, rfl⟩
    have hbl1 : BL.length % 64 = 0 := by rw [← HBLK.out]; exact hbl.1
    have hbl2 : BL.length < n + 99 := by rw [← HBLK.out, ← HN.out]; exact hbl.2.2
    rw [HBLK.out] at HBL HWR
    rw [hx] at HW2 HK0
    clear hx hxn hbl
    obtain ⟨je, HJE⟩ : ∃ x, Hid (j.e = x) := ⟨_, rfl⟩
    obtain ⟨jt, HJT⟩ : ∃ x, Hid (j.t = x) := ⟨_, rfl⟩
    rw [HJT.out, HJE.out] at HW2 HK0 HV ⊢
    rw [HJE.out] at hje
    rw [HJT.out] at em ht2
    have rc0 : w2.cell? ⟨w.heap.size, 0, none⟩ = some _ := (cell_of_row _ _ 0 _ _ _ HK0.out).trans rfl; have rc1 : w2.cell? ⟨w.heap.size, 1, none⟩ = some _ := (cell_of_row _ _ 1 _ _ _ HK0.out).trans rfl; have rc2 : w2.cell? ⟨w.heap.size, 2, none⟩ = some _ := (cell_of_row _ _ 2 _ _ _ HK0.out).trans rfl; have rc3 : w2.cell? ⟨w.heap.size, 3, none⟩ = some _ := (cell_of_row _ _ 3 _ _ _ HK0.out).trans rfl; have rc4 : w2.cell? ⟨w.heap.size, 4, none⟩ = some _ := (cell_of_row _ _ 4 _ _ _ HK0.out).trans rfl; have rc5 : w2.cell? ⟨w.heap.size, 5, none⟩ = some _ := (cell_of_row _ _ 5 _ _ _ HK0.out).trans rfl; have rc6 : w2.cell? ⟨w.heap.size, 6, none⟩ = some _ := (cell_of_row _ _ 6 _ _ _ HK0.out).trans rfl; have rc7 : w2.cell? ⟨w.heap.size, 7, none⟩ = some _ := (cell_of_row _ _ 7 _ _ _ HK0.out).trans rfl; have rc8 : w2.cell? ⟨w.heap.size, 8, none⟩ = some _ := (cell_of_row _ _ 8 _ _ _ HK0.out).trans rfl
    go_enter Try.func31, Try.ntmps31
    go_upto_region 1 with (fail)
    rw [HW2.out]
    go_wp2_with fail
    (with_reducible refine HBL.out.mono ?_)
    rintro e w3 ⟨Y, cy, k, rfl, hk, ho, hb3⟩
    have HB3 := Lib.hid (HB2.out.trans (hb3.mono HB2.out.size))
    have HK03 := Lib.hid ((hb3.block _ (by omega)).trans HK0.out)
    have HK13 := Lib.hid ((hb3.block _ (by omega)).trans HK1.out)
    have hs3 : w.heap.size + 1 < w3.heap.size := Nat.lt_of_lt_of_le hs2 hb3.size
    have HKL := Lib.hid hk
    have HYR := Lib.hid ho.rb.1
    have hk64 : k % 64 = 0 := by rw [hk]; exact hbl1
    have hkl : k < n + 99 := by rw [hk]; exact hbl2
    clear rc0 rc1 rc2 rc3 rc4 rc5 rc6 rc7 rc8 HBL hk ho hb3
    obtain ⟨nb, HNB⟩ : ∃ x, Hid (k / 64 = x) := ⟨_, rfl⟩
    have hnb : nb ≤ 10000 := by have := HNB.out; omega
    have en : (k : Int) / 64 = (nb : Int) := by have := HNB.out; omega
    have HNBL : Hid ((ckB j d).length / 64 = nb) := by show _ = _; rw [HBLK.out, ← HKL.out]; exact HNB.out
    have HH3 : ∀ w', Below w3.heap.size w3 w' → Hid (Calls Try.prog 54 #[.agg #[.slice A N ca, .slice X pl cx, .bool D.x, .int .i64 D.f]] w' fun e w'' => e = .returned (.int .i64 (q : Int)) ∧ Below w3.heap.size w3 w'') := fun w' hb =>
      (HHF w' (HB3.out.trans (hb.mono HB3.out.size))).out.mono fun e w'' ⟨a, b⟩ => ⟨a, hb.trans (b.mono hb.size)⟩
    have HH33 := Lib.hid (HH3 w3 (Below.refl _ _)).out
    clear HHF HH3 em
    have rc0 : w3.cell? ⟨w.heap.size, 0, none⟩ = some _ := (cell_of_row _ _ 0 _ _ _ HK03.out).trans rfl; have rc1 : w3.cell? ⟨w.heap.size, 1, none⟩ = some _ := (cell_of_row _ _ 1 _ _ _ HK03.out).trans rfl; have rc2 : w3.cell? ⟨w.heap.size, 2, none⟩ = some _ := (cell_of_row _ _ 2 _ _ _ HK03.out).trans rfl; have rc3 : w3.cell? ⟨w.heap.size, 3, none⟩ = some _ := (cell_of_row _ _ 3 _ _ _ HK03.out).trans rfl; have rc4 : w3.cell? ⟨w.heap.size, 4, none⟩ = some _ := (cell_of_row _ _ 4 _ _ _ HK03.out).trans rfl; have rc5 : w3.cell? ⟨w.heap.size, 5, none⟩ = some _ := (cell_of_row _ _ 5 _ _ _ HK03.out).trans rfl; have rc6 : w3.cell? ⟨w.heap.size, 6, none⟩ = some _ := (cell_of_row _ _ 6 _ _ _ HK03.out).trans rfl; have rc7 : w3.cell? ⟨w.heap.size, 7, none⟩ = some _ := (cell_of_row _ _ 7 _ _ _ HK03.out).trans rfl; have rc8 : w3.cell? ⟨w.heap.size, 8, none⟩ = some _ := (cell_of_row _ _ 8 _ _ _ HK03.out).trans rfl
    go_upto_region 4 with (fail)
    go_wp2_with fail
    (with_reducible refine HH33.out.mono ?_)
    rintro e w4 ⟨rfl, hb4⟩
    have HB4 := Lib.hid (HB3.out.trans (hb4.mono HB3.out.size))
    have HK04 := Lib.hid ((hb4.block _ (by omega)).trans HK03.out)
    have HK14 := Lib.hid ((hb4.block _ hs3).trans HK13.out)
    have hs4 : w.heap.size + 1 < w4.heap.size := Nat.lt_of_lt_of_le hs3 hb4.size
    have HYR4 := Lib.hid (RB.below HYR.out hb4)
    clear rc0 rc1 rc2 rc3 rc4 rc5 rc6 rc7 rc8 HB3 HK03 HK13 HYR HH33
    have HCE : Hid (ckFull D j d = (decide (q < nb) || decide (1099511627776 ≤ jt))) := by show _ = _; unfold ckFull; rw [HNBL.out, HQ.out, HJT.out]
    have HFUL : Hid (ckFull D j d = true → RCallP w N0 (chkD D j d) (chkJ D j d) (chkE D j d) (.returned (.tuple #[.agg #[.slice A N ca, .slice X pl cx, .bool D.x, .int .i64 D.f, .int .i64 (jt : Int), .slice sa sl sc, .slice ra ml rc, .int .i64 (je : Int), .bool j.x], .int .i64 8])) (((((((((w4.setCell ⟨w.heap.size + 1, 0, none⟩ (.slice A N ca)).setCell ⟨w.heap.size + 1, 1, none⟩ (.slice X pl cx)).setCell ⟨w.heap.size + 1, 2, none⟩ (.bool D.x)).setCell ⟨w.heap.size + 1, 3, none⟩ (.int .i64 D.f)).setCell ⟨w.heap.size + 1, 4, none⟩ (.int .i64 (jt : Int))).setCell ⟨w.heap.size + 1, 5, none⟩ (.slice sa sl sc)).setCell ⟨w.heap.size + 1, 6, none⟩ (.slice ra ml rc)).setCell ⟨w.heap.size + 1, 7, none⟩ (.int .i64 (je : Int))).setCell ⟨w.heap.size + 1, 8, none⟩ (.bool j.x))) := by
      intro hff
      have hv4 : IsV w4 N0 (.agg #[.slice A N ca, .slice X pl cx, .bool D.x, .int .i64 D.f, .int .i64 (jt : Int), .slice sa sl sc, .slice ra ml rc, .int .i64 (je : Int), .bool j.x]) (chkD D j d) (chkJ D j d) := by
        unfold chkD chkJ; rw [if_neg HX.out, if_pos hff, if_neg HX.out, if_pos hff]; exact HV.out.below HB4.out
      exact HRET.out N0 _ _ _ _ _ _ _ _ _ w4 8 (by unfold chkE; rw [if_neg HX.out, if_pos hff]) hv4 HB4.out (fun x hx => .inl hx)
    have hjx : j.x = false := by simpa using HX.out
    rw [hjx] at HFUL
    clear hjx
    by_cases hfull : q < nb
    · have d5 : decide ((q : Int) < (nb : Int)) = true := by simp; omega
      have d5' : decide (q < nb) = true := by simpa using hfull
      have HF := Lib.hid (HFUL.out (by rw [HCE.out, d5']; rfl))
      first | rw [d5'] | rw [d5] | skip
      clear hfull HWR HFUL
      have rc0 : w4.cell? ⟨w.heap.size, 0, none⟩ = some _ := (cell_of_row _ _ 0 _ _ _ HK04.out).trans rfl; have rf0 : w4.frozen? ⟨w.heap.size, 0, none⟩ = false := frozen_of_row _ _ _ _ _ HK04.out; have rc1 : w4.cell? ⟨w.heap.size, 1, none⟩ = some _ := (cell_of_row _ _ 1 _ _ _ HK04.out).trans rfl; have rf1 : w4.frozen? ⟨w.heap.size, 1, none⟩ = false := frozen_of_row _ _ _ _ _ HK04.out; have rc2 : w4.cell? ⟨w.heap.size, 2, none⟩ = some _ := (cell_of_row _ _ 2 _ _ _ HK04.out).trans rfl; have rf2 : w4.frozen? ⟨w.heap.size, 2, none⟩ = false := frozen_of_row _ _ _ _ _ HK04.out; have rc3 : w4.cell? ⟨w.heap.size, 3, none⟩ = some _ := (cell_of_row _ _ 3 _ _ _ HK04.out).trans rfl; have rf3 : w4.frozen? ⟨w.heap.size, 3, none⟩ = false := frozen_of_row _ _ _ _ _ HK04.out; have rc4 : w4.cell? ⟨w.heap.size, 4, none⟩ = some _ := (cell_of_row _ _ 4 _ _ _ HK04.out).trans rfl; have rf4 : w4.frozen? ⟨w.heap.size, 4, none⟩ = false := frozen_of_row _ _ _ _ _ HK04.out; have rc5 : w4.cell? ⟨w.heap.size, 5, none⟩ = some _ := (cell_of_row _ _ 5 _ _ _ HK04.out).trans rfl; have rf5 : w4.frozen? ⟨w.heap.size, 5, none⟩ = false := frozen_of_row _ _ _ _ _ HK04.out; have rc6 : w4.cell? ⟨w.heap.size, 6, none⟩ = some _ := (cell_of_row _ _ 6 _ _ _ HK04.out).trans rfl; have rf6 : w4.frozen? ⟨w.heap.size, 6, none⟩ = false := frozen_of_row _ _ _ _ _ HK04.out; have rc7 : w4.cell? ⟨w.heap.size, 7, none⟩ = some _ := (cell_of_row _ _ 7 _ _ _ HK04.out).trans rfl; have rf7 : w4.frozen? ⟨w.heap.size, 7, none⟩ = false := frozen_of_row _ _ _ _ _ HK04.out; have rc8 : w4.cell? ⟨w.heap.size, 8, none⟩ = some _ := (cell_of_row _ _ 8 _ _ _ HK04.out).trans rfl; have rf8 : w4.frozen? ⟨w.heap.size, 8, none⟩ = false := frozen_of_row _ _ _ _ _ HK04.out
      have zc0 : w4.cell? ⟨w.heap.size + 1, 0, none⟩ = some _ := (cell_of_row _ _ 0 _ _ _ HK14.out).trans rfl; have zf0 : w4.frozen? ⟨w.heap.size + 1, 0, none⟩ = false := frozen_of_row _ _ _ _ _ HK14.out; have zc1 : w4.cell? ⟨w.heap.size + 1, 1, none⟩ = some _ := (cell_of_row _ _ 1 _ _ _ HK14.out).trans rfl; have zf1 : w4.frozen? ⟨w.heap.size + 1, 1, none⟩ = false := frozen_of_row _ _ _ _ _ HK14.out; have zc2 : w4.cell? ⟨w.heap.size + 1, 2, none⟩ = some _ := (cell_of_row _ _ 2 _ _ _ HK14.out).trans rfl; have zf2 : w4.frozen? ⟨w.heap.size + 1, 2, none⟩ = false := frozen_of_row _ _ _ _ _ HK14.out; have zc3 : w4.cell? ⟨w.heap.size + 1, 3, none⟩ = some _ := (cell_of_row _ _ 3 _ _ _ HK14.out).trans rfl; have zf3 : w4.frozen? ⟨w.heap.size + 1, 3, none⟩ = false := frozen_of_row _ _ _ _ _ HK14.out; have zc4 : w4.cell? ⟨w.heap.size + 1, 4, none⟩ = some _ := (cell_of_row _ _ 4 _ _ _ HK14.out).trans rfl; have zf4 : w4.frozen? ⟨w.heap.size + 1, 4, none⟩ = false := frozen_of_row _ _ _ _ _ HK14.out; have zc5 : w4.cell? ⟨w.heap.size + 1, 5, none⟩ = some _ := (cell_of_row _ _ 5 _ _ _ HK14.out).trans rfl; have zf5 : w4.frozen? ⟨w.heap.size + 1, 5, none⟩ = false := frozen_of_row _ _ _ _ _ HK14.out; have zc6 : w4.cell? ⟨w.heap.size + 1, 6, none⟩ = some _ := (cell_of_row _ _ 6 _ _ _ HK14.out).trans rfl; have zf6 : w4.frozen? ⟨w.heap.size + 1, 6, none⟩ = false := frozen_of_row _ _ _ _ _ HK14.out; have zc7 : w4.cell? ⟨w.heap.size + 1, 7, none⟩ = some _ := (cell_of_row _ _ 7 _ _ _ HK14.out).trans rfl; have zf7 : w4.frozen? ⟨w.heap.size + 1, 7, none⟩ = false := frozen_of_row _ _ _ _ _ HK14.out; have zc8 : w4.cell? ⟨w.heap.size + 1, 8, none⟩ = some _ := (cell_of_row _ _ 8 _ _ _ HK14.out).trans rfl; have zf8 : w4.frozen? ⟨w.heap.size + 1, 8, none⟩ = false := frozen_of_row _ _ _ _ _ HK14.out
      go_wp2_with fail
      have hz := heap_set9 HK14.out (.slice A N ca) (.slice X pl cx) (.bool D.x) (.int .i64 D.f) (.int .i64 (jt : Int)) (.slice sa sl sc) (.slice ra ml rc) (.int .i64 (je : Int)) (.bool false)
      refine bodyPost_ret (results_cell_tmp rfl _ _ (w.heap.size + 1) 46 _ (0, 0) _ rfl hz Try.underlying46 rfl size_jr) rfl ?_
      exact HF.out
    have d5 : decide ((q : Int) < (nb : Int)) = false := by simp; omega
    have d5' : decide (q < nb) = false := by simpa using hfull
    first | rw [d5'] | rw [d5] | skip
    by_cases htm : 1099511627776 ≤ jt
    · have d6 : decide ((1099511627776 : Int) ≤ (jt : Int)) = true := by simp; omega
      have HF := Lib.hid (HFUL.out (by rw [HCE.out]; simp [htm]))
      clear hfull HWR HFUL htm
      have rc0 : w4.cell? ⟨w.heap.size, 0, none⟩ = some _ := (cell_of_row _ _ 0 _ _ _ HK04.out).trans rfl; have rf0 : w4.frozen? ⟨w.heap.size, 0, none⟩ = false := frozen_of_row _ _ _ _ _ HK04.out; have rc1 : w4.cell? ⟨w.heap.size, 1, none⟩ = some _ := (cell_of_row _ _ 1 _ _ _ HK04.out).trans rfl; have rf1 : w4.frozen? ⟨w.heap.size, 1, none⟩ = false := frozen_of_row _ _ _ _ _ HK04.out; have rc2 : w4.cell? ⟨w.heap.size, 2, none⟩ = some _ := (cell_of_row _ _ 2 _ _ _ HK04.out).trans rfl; have rf2 : w4.frozen? ⟨w.heap.size, 2, none⟩ = false := frozen_of_row _ _ _ _ _ HK04.out; have rc3 : w4.cell? ⟨w.heap.size, 3, none⟩ = some _ := (cell_of_row _ _ 3 _ _ _ HK04.out).trans rfl; have rf3 : w4.frozen? ⟨w.heap.size, 3, none⟩ = false := frozen_of_row _ _ _ _ _ HK04.out; have rc4 : w4.cell? ⟨w.heap.size, 4, none⟩ = some _ := (cell_of_row _ _ 4 _ _ _ HK04.out).trans rfl; have rf4 : w4.frozen? ⟨w.heap.size, 4, none⟩ = false := frozen_of_row _ _ _ _ _ HK04.out; have rc5 : w4.cell? ⟨w.heap.size, 5, none⟩ = some _ := (cell_of_row _ _ 5 _ _ _ HK04.out).trans rfl; have rf5 : w4.frozen? ⟨w.heap.size, 5, none⟩ = false := frozen_of_row _ _ _ _ _ HK04.out; have rc6 : w4.cell? ⟨w.heap.size, 6, none⟩ = some _ := (cell_of_row _ _ 6 _ _ _ HK04.out).trans rfl; have rf6 : w4.frozen? ⟨w.heap.size, 6, none⟩ = false := frozen_of_row _ _ _ _ _ HK04.out; have rc7 : w4.cell? ⟨w.heap.size, 7, none⟩ = some _ := (cell_of_row _ _ 7 _ _ _ HK04.out).trans rfl; have rf7 : w4.frozen? ⟨w.heap.size, 7, none⟩ = false := frozen_of_row _ _ _ _ _ HK04.out; have rc8 : w4.cell? ⟨w.heap.size, 8, none⟩ = some _ := (cell_of_row _ _ 8 _ _ _ HK04.out).trans rfl; have rf8 : w4.frozen? ⟨w.heap.size, 8, none⟩ = false := frozen_of_row _ _ _ _ _ HK04.out
      have zc0 : w4.cell? ⟨w.heap.size + 1, 0, none⟩ = some _ := (cell_of_row _ _ 0 _ _ _ HK14.out).trans rfl; have zf0 : w4.frozen? ⟨w.heap.size + 1, 0, none⟩ = false := frozen_of_row _ _ _ _ _ HK14.out; have zc1 : w4.cell? ⟨w.heap.size + 1, 1, none⟩ = some _ := (cell_of_row _ _ 1 _ _ _ HK14.out).trans rfl; have zf1 : w4.frozen? ⟨w.heap.size + 1, 1, none⟩ = false := frozen_of_row _ _ _ _ _ HK14.out; have zc2 : w4.cell? ⟨w.heap.size + 1, 2, none⟩ = some _ := (cell_of_row _ _ 2 _ _ _ HK14.out).trans rfl; have zf2 : w4.frozen? ⟨w.heap.size + 1, 2, none⟩ = false := frozen_of_row _ _ _ _ _ HK14.out; have zc3 : w4.cell? ⟨w.heap.size + 1, 3, none⟩ = some _ := (cell_of_row _ _ 3 _ _ _ HK14.out).trans rfl; have zf3 : w4.frozen? ⟨w.heap.size + 1, 3, none⟩ = false := frozen_of_row _ _ _ _ _ HK14.out; have zc4 : w4.cell? ⟨w.heap.size + 1, 4, none⟩ = some _ := (cell_of_row _ _ 4 _ _ _ HK14.out).trans rfl; have zf4 : w4.frozen? ⟨w.heap.size + 1, 4, none⟩ = false := frozen_of_row _ _ _ _ _ HK14.out; have zc5 : w4.cell? ⟨w.heap.size + 1, 5, none⟩ = some _ := (cell_of_row _ _ 5 _ _ _ HK14.out).trans rfl; have zf5 : w4.frozen? ⟨w.heap.size + 1, 5, none⟩ = false := frozen_of_row _ _ _ _ _ HK14.out; have zc6 : w4.cell? ⟨w.heap.size + 1, 6, none⟩ = some _ := (cell_of_row _ _ 6 _ _ _ HK14.out).trans rfl; have zf6 : w4.frozen? ⟨w.heap.size + 1, 6, none⟩ = false := frozen_of_row _ _ _ _ _ HK14.out; have zc7 : w4.cell? ⟨w.heap.size + 1, 7, none⟩ = some _ := (cell_of_row _ _ 7 _ _ _ HK14.out).trans rfl; have zf7 : w4.frozen? ⟨w.heap.size + 1, 7, none⟩ = false := frozen_of_row _ _ _ _ _ HK14.out; have zc8 : w4.cell? ⟨w.heap.size + 1, 8, none⟩ = some _ := (cell_of_row _ _ 8 _ _ _ HK14.out).trans rfl; have zf8 : w4.frozen? ⟨w.heap.size + 1, 8, none⟩ = false := frozen_of_row _ _ _ _ _ HK14.out
      go_wp2_with fail
      have hz := heap_set9 HK14.out (.slice A N ca) (.slice X pl cx) (.bool D.x) (.int .i64 D.f) (.int .i64 (jt : Int)) (.slice sa sl sc) (.slice ra ml rc) (.int .i64 (je : Int)) (.bool false)
      refine bodyPost_ret (results_cell_tmp rfl _ _ (w.heap.size + 1) 46 _ (0, 0) _ rfl hz Try.underlying46 rfl size_jr) rfl ?_
      exact HF.out
    have d6 : decide ((1099511627776 : Int) ≤ (jt : Int)) = false := by simp; omega
    have hff : ckFull D j d = false := by rw [HCE.out]; simp; omega
    have HFU := Lib.hid hff
    have HEN : Hid (nb ≤ q) := by show _ ≤ _; omega
    have HT9 : Hid (jt + 1 ≤ 1099511627776) := by show _ ≤ _; omega
    have em : (jt : Int) + 1 = (t1 : Int) := by have := HT1.out; rw [HJT.out] at this; omega
    have HWQ := Lib.hid (HWR w4 Y k cy HB4.out HYR4.out HKL.out.symm (by omega) hff).out
    clear hfull hff HWR htm HFUL
    have rc0 : w4.cell? ⟨w.heap.size, 0, none⟩ = some _ := (cell_of_row _ _ 0 _ _ _ HK04.out).trans rfl; have rc1 : w4.cell? ⟨w.heap.size, 1, none⟩ = some _ := (cell_of_row _ _ 1 _ _ _ HK04.out).trans rfl; have rc2 : w4.cell? ⟨w.heap.size, 2, none⟩ = some _ := (cell_of_row _ _ 2 _ _ _ HK04.out).trans rfl; have rc3 : w4.cell? ⟨w.heap.size, 3, none⟩ = some _ := (cell_of_row _ _ 3 _ _ _ HK04.out).trans rfl; have rc4 : w4.cell? ⟨w.heap.size, 4, none⟩ = some _ := (cell_of_row _ _ 4 _ _ _ HK04.out).trans rfl; have rc5 : w4.cell? ⟨w.heap.size, 5, none⟩ = some _ := (cell_of_row _ _ 5 _ _ _ HK04.out).trans rfl; have rc6 : w4.cell? ⟨w.heap.size, 6, none⟩ = some _ := (cell_of_row _ _ 6 _ _ _ HK04.out).trans rfl; have rc7 : w4.cell? ⟨w.heap.size, 7, none⟩ = some _ := (cell_of_row _ _ 7 _ _ _ HK04.out).trans rfl; have rc8 : w4.cell? ⟨w.heap.size, 8, none⟩ = some _ := (cell_of_row _ _ 8 _ _ _ HK04.out).trans rfl
    go_wp2_with fail
    (with_reducible refine HWQ.out.mono ?_)
    rintro e w5 ⟨v', N5, he, ⟨A5, ca5, X5, cx5, P5, rfl, hk5⟩, hb5, hn5⟩
    unfold kval at he
    have HB5 := Lib.hid (HB4.out.trans (hb5.mono HB4.out.size))
    have HK05 := Lib.hid ((hb5.block _ (by omega)).trans HK04.out)
    have HK15 := Lib.hid ((hb5.block _ hs4).trans HK14.out)
    have HN5 : Hid (∀ x ∈ N5, x ∈ N0 ∨ w.heap.size + 1 < x) := fun x hx => (hn5 x hx).imp id fun h => by omega
    have HI5 := Lib.hid hk5
    have hs5 := Nat.lt_of_lt_of_le hs4 hb5.size
    have HAN : Hid ((ckW D j d).1.n = D.n) := wrJ_ckn D j d
    have HAE : Hid (chkE D j d = if (ckW D j d).2 = true then 0 else 10) := by show _ = _; unfold chkE; rw [if_neg HX.out, if_neg (by rw [HFU.out]; simp)]
    have HAD : Hid (chkD D j d = (ckW D j d).1) := by show _ = _; unfold chkD; rw [if_neg HX.out, if_neg (by rw [HFU.out]; simp)]
    have HAJ : Hid (chkJ D j d = if (ckW D j d).2 = true then ⟨t1, d, [], nb, false⟩ else { j with x := true }) := by show _ = _; unfold chkJ; rw [if_neg HX.out, if_neg (by rw [HFU.out]; simp), HNBL.out, HT1.out]
    clear hb5 hn5 hk5 HWQ rc0 rc1 rc2 rc3 rc4 rc5 rc6 rc7 rc8
    generalize ckW D j d = ro at *
    obtain ⟨D5, bo⟩ := ro
    simp only at *
    obtain ⟨NL5, HNL5⟩ : ∃ y, Hid (64 * D5.n = y) := ⟨_, rfl⟩
    obtain ⟨pl5, HPL5⟩ : ∃ y, Hid (P5.length = y) := ⟨_, rfl⟩
    rw [HNL5.out, HPL5.out] at he
    have hb6 := below1 w5 (.cells #[.slice A5 NL5 ca5, .slice X5 pl5 cx5, .bool D5.x, .int .i64 D5.f] 42)
    have hx6 := heap_alloc_new w5 (.cells #[.slice A5 NL5 ca5, .slice X5 pl5 cx5, .bool D5.x, .int .i64 D5.f] 42)
    have HER : Hid ((if bo = true then (0 : Int) else 10) = chkE D j d) := HAE.out.symm
    obtain ⟨er, HEE⟩ : ∃ y, Hid ((if bo = true then (0 : Int) else 10) = y) := ⟨_, rfl⟩
    rw [HEE.out] at he HER
    subst he
    go_upto_region 7 with (fail)
    generalize w5.alloc (.cells #[.slice A5 NL5 ca5, .slice X5 pl5 cx5, .bool D5.x, .int .i64 D5.f] 42) = w6 at *
    have HX6 := Lib.hid hx6
    have HB6 := Lib.hid (HB5.out.trans (hb6.mono HB5.out.size))
    have HK06 := Lib.hid ((hb6.block _ (by omega)).trans HK05.out)
    have HK16 := Lib.hid ((hb6.block _ hs5).trans HK15.out)
    have HI6 := Lib.hid (HI5.out.below hb6)
    have hs6 : w5.heap.size < w6.heap.size := (Array.getElem?_eq_some_iff.1 hx6).1
    clear hb6 hx6 HK05 HK15 HI5
    obtain ⟨db, HDB⟩ : ∃ y, Hid (w5.heap.size = y) := ⟨_, rfl⟩
    rw [HDB.out] at hs5 hs6 HX6 ⊢
    have xc0 : w6.cell? ⟨db, 0, none⟩ = some _ := (cell_of_row _ _ 0 _ _ _ HX6.out).trans rfl; have xc1 : w6.cell? ⟨db, 1, none⟩ = some _ := (cell_of_row _ _ 1 _ _ _ HX6.out).trans rfl; have xc2 : w6.cell? ⟨db, 2, none⟩ = some _ := (cell_of_row _ _ 2 _ _ _ HX6.out).trans rfl; have xc3 : w6.cell? ⟨db, 3, none⟩ = some _ := (cell_of_row _ _ 3 _ _ _ HX6.out).trans rfl
    have rc0 : w6.cell? ⟨w.heap.size, 0, none⟩ = some _ := (cell_of_row _ _ 0 _ _ _ HK06.out).trans rfl; have rf0 : w6.frozen? ⟨w.heap.size, 0, none⟩ = false := frozen_of_row _ _ _ _ _ HK06.out; have rc1 : w6.cell? ⟨w.heap.size, 1, none⟩ = some _ := (cell_of_row _ _ 1 _ _ _ HK06.out).trans rfl; have rf1 : w6.frozen? ⟨w.heap.size, 1, none⟩ = false := frozen_of_row _ _ _ _ _ HK06.out; have rc2 : w6.cell? ⟨w.heap.size, 2, none⟩ = some _ := (cell_of_row _ _ 2 _ _ _ HK06.out).trans rfl; have rf2 : w6.frozen? ⟨w.heap.size, 2, none⟩ = false := frozen_of_row _ _ _ _ _ HK06.out; have rc3 : w6.cell? ⟨w.heap.size, 3, none⟩ = some _ := (cell_of_row _ _ 3 _ _ _ HK06.out).trans rfl; have rf3 : w6.frozen? ⟨w.heap.size, 3, none⟩ = false := frozen_of_row _ _ _ _ _ HK06.out; have rc4 : w6.cell? ⟨w.heap.size, 4, none⟩ = some _ := (cell_of_row _ _ 4 _ _ _ HK06.out).trans rfl; have rf4 : w6.frozen? ⟨w.heap.size, 4, none⟩ = false := frozen_of_row _ _ _ _ _ HK06.out; have rc5 : w6.cell? ⟨w.heap.size, 5, none⟩ = some _ := (cell_of_row _ _ 5 _ _ _ HK06.out).trans rfl; have rf5 : w6.frozen? ⟨w.heap.size, 5, none⟩ = false := frozen_of_row _ _ _ _ _ HK06.out; have rc6 : w6.cell? ⟨w.heap.size, 6, none⟩ = some _ := (cell_of_row _ _ 6 _ _ _ HK06.out).trans rfl; have rf6 : w6.frozen? ⟨w.heap.size, 6, none⟩ = false := frozen_of_row _ _ _ _ _ HK06.out; have rc7 : w6.cell? ⟨w.heap.size, 7, none⟩ = some _ := (cell_of_row _ _ 7 _ _ _ HK06.out).trans rfl; have rf7 : w6.frozen? ⟨w.heap.size, 7, none⟩ = false := frozen_of_row _ _ _ _ _ HK06.out; have rc8 : w6.cell? ⟨w.heap.size, 8, none⟩ = some _ := (cell_of_row _ _ 8 _ _ _ HK06.out).trans rfl; have rf8 : w6.frozen? ⟨w.heap.size, 8, none⟩ = false := frozen_of_row _ _ _ _ _ HK06.out
    go_upto_region 8 with (fail)
    have hcs := chg_set4 w6 w.heap.size (.slice A5 NL5 ca5) (.slice X5 pl5 cx5) (.bool D5.x) (.int .i64 D5.f)
    have HK07 := Lib.hid (heap_set49 HK06.out (.slice A5 NL5 ca5) (.slice X5 pl5 cx5) (.bool D5.x) (.int .i64 D5.f))
    have HK17 := Lib.hid (hcs.blk HK16.out (by simp))
    have HX7 := Lib.hid (hcs.blk HX6.out (by simp only [List.mem_singleton]; omega))
    have HB7 := Lib.hid (HB6.out.trans (hcs.below HB6.out.size (by simp)))
    have HI7 := Lib.hid (HI6.out.kept (fun x hx => hcs.block x (HI6.out.nl x hx) (fun hm => by
      simp only [List.mem_singleton] at hm
      subst hm
      rcases HN5.out _ hx with h | h
      · have := HNL.out _ h; omega
      · omega)) hcs.size)
    have hs7 := Nat.lt_of_lt_of_le (Nat.lt_trans hs5 hs6) hcs.size
    have hdb7 : db < ((((w6.setCell ⟨w.heap.size, 0, none⟩ (.slice A5 NL5 ca5)).setCell ⟨w.heap.size, 1, none⟩ (.slice X5 pl5 cx5)).setCell ⟨w.heap.size, 2, none⟩ (.bool D5.x)).setCell ⟨w.heap.size, 3, none⟩ (.int .i64 D5.f)).heap.size := Nat.lt_of_lt_of_le hs6 hcs.size
    clear hcs HK06 HK16 HI6 xc0 xc1 xc2 xc3 rc0 rc1 rc2 rc3 rc4 rc5 rc6 rc7 rc8 rf0 rf1 rf2 rf3 rf4 rf5 rf6 rf7 rf8
    generalize (((w6.setCell ⟨w.heap.size, 0, none⟩ (.slice A5 NL5 ca5)).setCell ⟨w.heap.size, 1, none⟩ (.slice X5 pl5 cx5)).setCell ⟨w.heap.size, 2, none⟩ (.bool D5.x)).setCell ⟨w.heap.size, 3, none⟩ (.int .i64 D5.f) = w7 at *
    cases bo with
    | false =>
      rw [if_neg (by simp)] at HEE HAJ
      obtain rfl := HEE.out
      have rc0 : w7.cell? ⟨w.heap.size, 0, none⟩ = some _ := (cell_of_row _ _ 0 _ _ _ HK07.out).trans rfl; have rf0 : w7.frozen? ⟨w.heap.size, 0, none⟩ = false := frozen_of_row _ _ _ _ _ HK07.out; have rc1 : w7.cell? ⟨w.heap.size, 1, none⟩ = some _ := (cell_of_row _ _ 1 _ _ _ HK07.out).trans rfl; have rf1 : w7.frozen? ⟨w.heap.size, 1, none⟩ = false := frozen_of_row _ _ _ _ _ HK07.out; have rc2 : w7.cell? ⟨w.heap.size, 2, none⟩ = some _ := (cell_of_row _ _ 2 _ _ _ HK07.out).trans rfl; have rf2 : w7.frozen? ⟨w.heap.size, 2, none⟩ = false := frozen_of_row _ _ _ _ _ HK07.out; have rc3 : w7.cell? ⟨w.heap.size, 3, none⟩ = some _ := (cell_of_row _ _ 3 _ _ _ HK07.out).trans rfl; have rf3 : w7.frozen? ⟨w.heap.size, 3, none⟩ = false := frozen_of_row _ _ _ _ _ HK07.out; have rc4 : w7.cell? ⟨w.heap.size, 4, none⟩ = some _ := (cell_of_row _ _ 4 _ _ _ HK07.out).trans rfl; have rf4 : w7.frozen? ⟨w.heap.size, 4, none⟩ = false := frozen_of_row _ _ _ _ _ HK07.out; have rc5 : w7.cell? ⟨w.heap.size, 5, none⟩ = some _ := (cell_of_row _ _ 5 _ _ _ HK07.out).trans rfl; have rf5 : w7.frozen? ⟨w.heap.size, 5, none⟩ = false := frozen_of_row _ _ _ _ _ HK07.out; have rc6 : w7.cell? ⟨w.heap.size, 6, none⟩ = some _ := (cell_of_row _ _ 6 _ _ _ HK07.out).trans rfl; have rf6 : w7.frozen? ⟨w.heap.size, 6, none⟩ = false := frozen_of_row _ _ _ _ _ HK07.out; have rc7 : w7.cell? ⟨w.heap.size, 7, none⟩ = some _ := (cell_of_row _ _ 7 _ _ _ HK07.out).trans rfl; have rf7 : w7.frozen? ⟨w.heap.size, 7, none⟩ = false := frozen_of_row _ _ _ _ _ HK07.out; have rc8 : w7.cell? ⟨w.heap.size, 8, none⟩ = some _ := (cell_of_row _ _ 8 _ _ _ HK07.out).trans rfl; have rf8 : w7.frozen? ⟨w.heap.size, 8, none⟩ = false := frozen_of_row _ _ _ _ _ HK07.out
      go_upto_region 10 with (fail)
      have HK08 : Hid ((w7.setCell ⟨w.heap.size, 8, none⟩ (.bool true)).heap[w.heap.size]? = some (.cells #[.slice A5 NL5 ca5, .slice X5 pl5 cx5, .bool D5.x, .int .i64 D5.f, .int .i64 (jt : Int), .slice sa sl sc, .slice ra ml rc, .int .i64 (je : Int), .bool true] 46 (0, 0))) := heap_setCell_same _ _ _ _ _ _ HK07.out
      have hcs : Chg [w.heap.size] w7 (w7.setCell ⟨w.heap.size, 8, none⟩ (.bool true)) := (Chg.refl _ _).setCell (p := ⟨w.heap.size, 8, none⟩) (.inl (by simp)) _
      have HK18 := Lib.hid (hcs.blk HK17.out (by simp))
      have HB8 := Lib.hid (HB7.out.trans (hcs.below HB7.out.size (by simp)))
      have HI8 := Lib.hid (HI7.out.kept (fun x hx => hcs.block x (HI7.out.nl x hx) (fun hm => by
        simp only [List.mem_singleton] at hm
        subst hm
        rcases HN5.out _ hx with h | h
        · have := HNL.out _ h; omega
        · omega)) hcs.size)
      clear hcs rc0 rc1 rc2 rc3 rc4 rc5 rc6 rc7 rc8 rf0 rf1 rf2 rf3 rf4 rf5 rf6 rf7 rf8
      generalize w7.setCell ⟨w.heap.size, 8, none⟩ (.bool true) = w8 at *
      have hv8 : IsV w8 (N5 ++ N0) (.agg #[.slice A5 NL5 ca5, .slice X5 pl5 cx5, .bool D5.x, .int .i64 D5.f, .int .i64 (jt : Int), .slice sa sl sc, .slice ra ml rc, .int .i64 (je : Int), .bool true]) D5 { j with x := true } := by
        have h1 := (HV'.out.disk (Kept.of_below HNL.out HB8.out) HI8.out HAN.out (N2 := N5 ++ N0) (fun x hx => List.mem_append_right _ hx) (fun x hx => List.mem_append_left _ hx) (fun x hx => by
          rcases List.mem_append.1 hx with hx | hx
          · exact HI8.out.nl x hx
          · exact Nat.lt_of_lt_of_le (HNL.out x hx) HB8.out.size)).brk
        rw [← HNL5.out, ← HPL5.out, ← HJT.out, ← HSL.out, ← HML.out, ← HJE.out]
        exact ⟨A5, ca5, X5, cx5, P5, sa, sc, ra, rc, ms, rfl, h1⟩
      have HF := Lib.hid (HRET.out (N5 ++ N0) _ _ _ _ _ _ _ _ _ w8 10 HER.out.symm (by rw [HAD.out, HAJ.out]; exact hv8) HB8.out (fun x hx => by
        rcases List.mem_append.1 hx with hx | hx
        · exact HN5.out x hx
        · exact .inl hx))
      clear hv8
      have rc0 : w8.cell? ⟨w.heap.size, 0, none⟩ = some _ := (cell_of_row _ _ 0 _ _ _ HK08.out).trans rfl; have rc1 : w8.cell? ⟨w.heap.size, 1, none⟩ = some _ := (cell_of_row _ _ 1 _ _ _ HK08.out).trans rfl; have rc2 : w8.cell? ⟨w.heap.size, 2, none⟩ = some _ := (cell_of_row _ _ 2 _ _ _ HK08.out).trans rfl; have rc3 : w8.cell? ⟨w.heap.size, 3, none⟩ = some _ := (cell_of_row _ _ 3 _ _ _ HK08.out).trans rfl; have rc4 : w8.cell? ⟨w.heap.size, 4, none⟩ = some _ := (cell_of_row _ _ 4 _ _ _ HK08.out).trans rfl; have rc5 : w8.cell? ⟨w.heap.size, 5, none⟩ = some _ := (cell_of_row _ _ 5 _ _ _ HK08.out).trans rfl; have rc6 : w8.cell? ⟨w.heap.size, 6, none⟩ = some _ := (cell_of_row _ _ 6 _ _ _ HK08.out).trans rfl; have rc7 : w8.cell? ⟨w.heap.size, 7, none⟩ = some _ := (cell_of_row _ _ 7 _ _ _ HK08.out).trans rfl; have rc8 : w8.cell? ⟨w.heap.size, 8, none⟩ = some _ := (cell_of_row _ _ 8 _ _ _ HK08.out).trans rfl
      have zc0 : w8.cell? ⟨w.heap.size + 1, 0, none⟩ = some _ := (cell_of_row _ _ 0 _ _ _ HK18.out).trans rfl; have zf0 : w8.frozen? ⟨w.heap.size + 1, 0, none⟩ = false := frozen_of_row _ _ _ _ _ HK18.out; have zc1 : w8.cell? ⟨w.heap.size + 1, 1, none⟩ = some _ := (cell_of_row _ _ 1 _ _ _ HK18.out).trans rfl; have zf1 : w8.frozen? ⟨w.heap.size + 1, 1, none⟩ = false := frozen_of_row _ _ _ _ _ HK18.out; have zc2 : w8.cell? ⟨w.heap.size + 1, 2, none⟩ = some _ := (cell_of_row _ _ 2 _ _ _ HK18.out).trans rfl; have zf2 : w8.frozen? ⟨w.heap.size + 1, 2, none⟩ = false := frozen_of_row _ _ _ _ _ HK18.out; have zc3 : w8.cell? ⟨w.heap.size + 1, 3, none⟩ = some _ := (cell_of_row _ _ 3 _ _ _ HK18.out).trans rfl; have zf3 : w8.frozen? ⟨w.heap.size + 1, 3, none⟩ = false := frozen_of_row _ _ _ _ _ HK18.out; have zc4 : w8.cell? ⟨w.heap.size + 1, 4, none⟩ = some _ := (cell_of_row _ _ 4 _ _ _ HK18.out).trans rfl; have zf4 : w8.frozen? ⟨w.heap.size + 1, 4, none⟩ = false := frozen_of_row _ _ _ _ _ HK18.out; have zc5 : w8.cell? ⟨w.heap.size + 1, 5, none⟩ = some _ := (cell_of_row _ _ 5 _ _ _ HK18.out).trans rfl; have zf5 : w8.frozen? ⟨w.heap.size + 1, 5, none⟩ = false := frozen_of_row _ _ _ _ _ HK18.out; have zc6 : w8.cell? ⟨w.heap.size + 1, 6, none⟩ = some _ := (cell_of_row _ _ 6 _ _ _ HK18.out).trans rfl; have zf6 : w8.frozen? ⟨w.heap.size + 1, 6, none⟩ = false := frozen_of_row _ _ _ _ _ HK18.out; have zc7 : w8.cell? ⟨w.heap.size + 1, 7, none⟩ = some _ := (cell_of_row _ _ 7 _ _ _ HK18.out).trans rfl; have zf7 : w8.frozen? ⟨w.heap.size + 1, 7, none⟩ = false := frozen_of_row _ _ _ _ _ HK18.out; have zc8 : w8.cell? ⟨w.heap.size + 1, 8, none⟩ = some _ := (cell_of_row _ _ 8 _ _ _ HK18.out).trans rfl; have zf8 : w8.frozen? ⟨w.heap.size + 1, 8, none⟩ = false := frozen_of_row _ _ _ _ _ HK18.out
      go_wp2_with fail
      have hz := heap_set9 HK18.out (.slice A5 NL5 ca5) (.slice X5 pl5 cx5) (.bool D5.x) (.int .i64 D5.f) (.int .i64 (jt : Int)) (.slice sa sl sc) (.slice ra ml rc) (.int .i64 (je : Int)) (.bool true)
      refine bodyPost_ret (results_cell_tmp rfl _ _ (w.heap.size + 1) 46 _ (0, 0) _ rfl hz Try.underlying46 rfl size_jr) rfl ?_
      exact HF.out
    | true =>
      rw [if_pos rfl] at HEE HAJ
      obtain rfl := HEE.out
      have HRB : ∀ w', Below w7.heap.size w7 w' → Hid (RB w' A0 d) := fun w' hb => RB.below HRD.out (HB7.out.trans (hb.mono HB7.out.size))
      have hn9 : n ≤ 100000000 := by omega
      have hw7 : w.heap.size < w7.heap.size := by omega
      have x0 : w7.cell? ⟨db, 0, none⟩ = some (.slice A5 NL5 ca5) := (cell_of_row _ _ 0 _ _ _ HX7.out).trans rfl
      have x1 : w7.cell? ⟨db, 1, none⟩ = some (.slice X5 pl5 cx5) := (cell_of_row _ _ 1 _ _ _ HX7.out).trans rfl
      have x2 : w7.cell? ⟨db, 2, none⟩ = some (.bool D5.x) := (cell_of_row _ _ 2 _ _ _ HX7.out).trans rfl
      have x3 : w7.cell? ⟨db, 3, none⟩ = some (.int .i64 D5.f) := (cell_of_row _ _ 3 _ _ _ HX7.out).trans rfl
      have x4 : w7.cell? ⟨w.heap.size, 4, none⟩ = some (.int .i64 (jt : Int)) := (cell_of_row _ _ 4 _ _ _ HK07.out).trans rfl
      have y0 : ∀ (o : Obj) i, (w7.alloc o).cell? ⟨db, i, none⟩ = w7.cell? ⟨db, i, none⟩ := fun o i => World.cell?_alloc_lt w7 o ⟨db, i, none⟩ hdb7
      have y4 : ∀ (o : Obj) i, (w7.alloc o).cell? ⟨w.heap.size, i, none⟩ = w7.cell? ⟨w.heap.size, i, none⟩ := fun o i => World.cell?_alloc_lt w7 o ⟨w.heap.size, i, none⟩ hw7
      have ht9 : t1 ≤ 1099511627776 := by have h1 := HT1.out; have h2 := HT9.out; have h3 := HJT.out; omega
      have hwt : IntKind.i64.wrap (t1 : Int) = (t1 : Int) := wi_nat (Nat.lt_of_le_of_lt ht9 (by decide))
      have wnb : IntKind.i64.wrap (nb : Int) = (nb : Int) := wi_nat (by omega)
      have en2 : Int.tdiv (k : Int) 64 = (nb : Int) := by rw [Int.tdiv_eq_ediv_of_nonneg (by omega)]; exact en
      have HROK : Hid (∀ w9 X9 c9 k9, Below w7.heap.size w7 w9 → k9 = d.length → OB w9 w7.heap.size (.slice X9 k9 c9) d → RCallP w N0 (chkD D j d) (chkJ D j d) (chkE D j d) (.returned (.tuple #[.agg #[.slice A5 NL5 ca5, .slice X5 pl5 cx5, .bool D5.x, .int .i64 D5.f, .int .i64 (t1 : Int), .slice X9 k9 c9, .slice none 0 0, .int .i64 (nb : Int), .bool false], .int .i64 0])) (((((((((w9.setCell ⟨w.heap.size + 1, 0, none⟩ (.slice A5 NL5 ca5)).setCell ⟨w.heap.size + 1, 1, none⟩ (.slice X5 pl5 cx5)).setCell ⟨w.heap.size + 1, 2, none⟩ (.bool D5.x)).setCell ⟨w.heap.size + 1, 3, none⟩ (.int .i64 D5.f)).setCell ⟨w.heap.size + 1, 4, none⟩ (.int .i64 (t1 : Int))).setCell ⟨w.heap.size + 1, 5, none⟩ (.slice X9 k9 c9)).setCell ⟨w.heap.size + 1, 6, none⟩ (.slice none 0 0)).setCell ⟨w.heap.size + 1, 7, none⟩ (.int .i64 (nb : Int))).setCell ⟨w.heap.size + 1, 8, none⟩ (.bool false))) := by
        intro w9 X9 c9 k9 hb hk ho
        subst hk
        have hX9 : ∀ x ∈ bl X9, w7.heap.size ≤ x ∧ x < w9.heap.size := fun x hx => by
          obtain ⟨off, rfl⟩ := mem_bl hx
          exact own_cut (k := 0) (c' := c9) ho (by rw [cutA_zero])
        have hr := ho.rb
        have hbl := blockL_len (j.t + 1) 0 d
        have hnb1 : 1 ≤ nb := by rw [← HNBL.out]; show 1 ≤ (blockL (j.t + 1) 0 d).length / 64; omega
        have hge := blockL_ge (j.t + 1) 0 d
        have hdn : d.length ≤ 64 * nb := by rw [← HNBL.out]; show _ ≤ 64 * ((blockL (j.t + 1) 0 d).length / 64); omega
        have hI9 := HI7.out.below hb
        have hB9 := HB7.out.trans (hb.mono HB7.out.size)
        have h2 : IsV' w9 (bl X9 ++ N5) D5 ⟨t1, d, [], nb, false⟩ A5 ca5 X5 cx5 P5 X9 c9 none 0 [] :=
          ⟨hI9.sub (fun x hx => by simp [hx]) (fun x hx => by
            rcases List.mem_append.1 hx with hx | hx
            · exact (hX9 x hx).2
            · exact hI9.nl x hx), ⟨hr.1, hr.2.2.1, hr.2.2.2, fun _ b off e => by rw [show X9 = _ from e]; simp [bl]⟩, ⟨Rd.nil, Nat.le_refl _, Nat.zero_le _, fun hp => by simp at hp, fun m hm => by cases hm⟩, rfl,
            ⟨by show 1 ≤ t1; have := HT1.out; omega, ht9, by rw [(fst_n HAN.out 0).2, HQ.out]; exact HEN.out, Nat.zero_le _, by show d.length ≤ _; rw [(fst_n HAN.out 0).2, HQ.out]; have := HEN.out; omega, fun y hy => by cases hy⟩⟩
        refine HRET.out (bl X9 ++ N5) _ _ _ _ _ _ _ _ _ w9 0 HER.out.symm ?_ hB9 (fun x hx => ?_)
        · rw [HAD.out, HAJ.out, ← HNL5.out, ← HPL5.out]
          exact ⟨A5, ca5, X5, cx5, P5, X9, c9, none, 0, [], rfl, h2⟩
        · rcases List.mem_append.1 hx with hx | hx
          · have := (hX9 x hx).1; exact .inr (by omega)
          · exact HN5.out x hx
      go_upto_region 11 with (fail)
      go_region_law (go_must (refine st_app0 _ (by rfl) _ _ (by rfl) d (by rfl) A0 n c (by rfl) HN.out (HRB _ (Go.Proofs.Ytmdpmpfjldgalaa.below_drew w7)).out hn9 ?_; intro X9 c9 k9 w9 HK9 hk9 hk9' HO9 HB9 hs9; have hb9 : Below w7.heap.size w7 w9 := (Go.Proofs.Ytmdpmpfjldgalaa.below_drew w7).trans HB9.out; have hd9 := Lib.hid ((hb9.block db hdb7).trans HX7.out); have hj9 := Lib.hid ((hb9.block _ hw7).trans HK07.out); have hz9 := Lib.hid ((hb9.block _ hs7).trans HK17.out); have dc0 : w9.cell? ⟨db, 0, none⟩ = some _ := (cell_of_row _ _ 0 _ _ _ hd9.out).trans rfl; have dc1 : w9.cell? ⟨db, 1, none⟩ = some _ := (cell_of_row _ _ 1 _ _ _ hd9.out).trans rfl; have dc2 : w9.cell? ⟨db, 2, none⟩ = some _ := (cell_of_row _ _ 2 _ _ _ hd9.out).trans rfl; have dc3 : w9.cell? ⟨db, 3, none⟩ = some _ := (cell_of_row _ _ 3 _ _ _ hd9.out).trans rfl; have j4 : w9.cell? ⟨w.heap.size, 4, none⟩ = some (.int .i64 (jt : Int)) := (cell_of_row _ _ 4 _ _ _ hj9.out).trans rfl; have zc0 : w9.cell? ⟨w.heap.size + 1, 0, none⟩ = some _ := (cell_of_row _ _ 0 _ _ _ hz9.out).trans rfl; have zf0 : w9.frozen? ⟨w.heap.size + 1, 0, none⟩ = false := frozen_of_row _ _ _ _ _ hz9.out; have zc1 : w9.cell? ⟨w.heap.size + 1, 1, none⟩ = some _ := (cell_of_row _ _ 1 _ _ _ hz9.out).trans rfl; have zf1 : w9.frozen? ⟨w.heap.size + 1, 1, none⟩ = false := frozen_of_row _ _ _ _ _ hz9.out; have zc2 : w9.cell? ⟨w.heap.size + 1, 2, none⟩ = some _ := (cell_of_row _ _ 2 _ _ _ hz9.out).trans rfl; have zf2 : w9.frozen? ⟨w.heap.size + 1, 2, none⟩ = false := frozen_of_row _ _ _ _ _ hz9.out; have zc3 : w9.cell? ⟨w.heap.size + 1, 3, none⟩ = some _ := (cell_of_row _ _ 3 _ _ _ hz9.out).trans rfl; have zf3 : w9.frozen? ⟨w.heap.size + 1, 3, none⟩ = false := frozen_of_row _ _ _ _ _ hz9.out; have zc4 : w9.cell? ⟨w.heap.size + 1, 4, none⟩ = some _ := (cell_of_row _ _ 4 _ _ _ hz9.out).trans rfl; have zf4 : w9.frozen? ⟨w.heap.size + 1, 4, none⟩ = false := frozen_of_row _ _ _ _ _ hz9.out; have zc5 : w9.cell? ⟨w.heap.size + 1, 5, none⟩ = some _ := (cell_of_row _ _ 5 _ _ _ hz9.out).trans rfl; have zf5 : w9.frozen? ⟨w.heap.size + 1, 5, none⟩ = false := frozen_of_row _ _ _ _ _ hz9.out; have zc6 : w9.cell? ⟨w.heap.size + 1, 6, none⟩ = some _ := (cell_of_row _ _ 6 _ _ _ hz9.out).trans rfl; have zf6 : w9.frozen? ⟨w.heap.size + 1, 6, none⟩ = false := frozen_of_row _ _ _ _ _ hz9.out; have zc7 : w9.cell? ⟨w.heap.size + 1, 7, none⟩ = some _ := (cell_of_row _ _ 7 _ _ _ hz9.out).trans rfl; have zf7 : w9.frozen? ⟨w.heap.size + 1, 7, none⟩ = false := frozen_of_row _ _ _ _ _ hz9.out; have zc8 : w9.cell? ⟨w.heap.size + 1, 8, none⟩ = some _ := (cell_of_row _ _ 8 _ _ _ hz9.out).trans rfl; have zf8 : w9.frozen? ⟨w.heap.size + 1, 8, none⟩ = false := frozen_of_row _ _ _ _ _ hz9.out))
      all_goals
        have HF := Lib.hid (HROK.out w9 X9 c9 k9 hb9 HK9.out HO9.out)
        clear hb9 x0 x1 x2 x3 x4 y0 y4
        go_wp2_with fail
        have hz := heap_set9 hz9.out (.slice A5 NL5 ca5) (.slice X5 pl5 cx5) (.bool D5.x) (.int .i64 D5.f) (.int .i64 (t1 : Int)) (.slice X9 k9 c9) (.slice none 0 0) (.int .i64 (nb : Int)) (.bool false)
        refine bodyPost_ret (results_cell_tmp rfl _ _ (w.heap.size + 1) 46 _ (0, 0) _ rfl hz Try.underlying46 rfl size_jr) rfl ?_
        exact HF.out
end Jn
end Go.Proofs.Ytmdpmpfjldgalaa
