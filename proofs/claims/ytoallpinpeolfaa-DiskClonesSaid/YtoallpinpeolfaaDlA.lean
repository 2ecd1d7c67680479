/- The walks of refmeshref19.Step. -/
import Derived.Test.YtoallpinpeolfaaDkZ
namespace Go.Proofs.Ytoallpinpeolfaa
open Go.RowKit
namespace Dk
set_option maxRecDepth 100000 in
set_option maxHeartbeats 4000000 in
theorem rstep_other (v : Value) (N0 : List Nat) (D : St) (m : Cm) (w : World) (h : IsK w N0 v D) (hm : m.ok w) (_hp : D.p.length ≤ 1000) (hkk : ¬ (m.c.kind = 0 ∨ m.c.kind = 1)) : Calls Try.prog 29 #[v, m.val] w (RStepP w N0 D m.c) := by
  obtain ⟨hrd, hs1, hs2, hn2, hsl⟩ := hm
  obtain ⟨c, a, cap⟩ := m
  obtain ⟨kd, sc, n, sd, sv⟩ := c
  unfold Cm.val
  simp only at *
  have HK := Lib.hid h
  obtain ⟨A, ca, X, cx, P, rfl, h⟩ := h
  have HI := Lib.hid h
  have HRD := Lib.hid hrd
  obtain ⟨sl, HSL⟩ : ∃ x, Hid (sv.length = x) := ⟨_, rfl⟩
  rw [HSL.out] at hsl ⊢
  unfold kval at HK ⊢
  clear h hrd
  obtain ⟨pl, HPL⟩ : ∃ x, Hid (P.length = x) := ⟨_, rfl⟩
  obtain ⟨N, HNN⟩ : ∃ x, Hid (64 * D.n = x) := ⟨_, rfl⟩
  rw [HPL.out, HNN.out] at HK ⊢
  have hk0 : (((w.alloc (.cells #[.slice A N ca, .slice X pl cx, .bool D.x, .int .i64 D.f] 33)).alloc (.cells #[.int .i64 kd, .int .i64 sc, .int .i64 n, vb sd, .slice a sl cap] 36)).alloc (.cells #[.slice none 0 0, .slice none 0 0, .bool false, .int .i64 0] 33)).heap[w.heap.size]? = some (.cells #[.slice A N ca, .slice X pl cx, .bool D.x, .int .i64 D.f] 33) := (Below.heap_alloc _ _ _ (by simp; omega)).trans ((Below.heap_alloc _ _ _ (by simp)).trans (heap_alloc_new _ _))
  have hk1 : (((w.alloc (.cells #[.slice A N ca, .slice X pl cx, .bool D.x, .int .i64 D.f] 33)).alloc (.cells #[.int .i64 kd, .int .i64 sc, .int .i64 n, vb sd, .slice a sl cap] 36)).alloc (.cells #[.slice none 0 0, .slice none 0 0, .bool false, .int .i64 0] 33)).heap[w.heap.size + 1]? = some (.cells #[.int .i64 kd, .int .i64 sc, .int .i64 n, vb sd, .slice a sl cap] 36) := (Below.heap_alloc _ _ _ (by simp)).trans (heap_alloc2_new _ _ _)
  have hk2 : (((w.alloc (.cells #[.slice A N ca, .slice X pl cx, .bool D.x, .int .i64 D.f] 33)).alloc (.cells #[.int .i64 kd, .int .i64 sc, .int .i64 n, vb sd, .slice a sl cap] 36)).alloc (.cells #[.slice none 0 0, .slice none 0 0, .bool false, .int .i64 0] 33)).heap[w.heap.size + 2]? = some (.cells #[.slice none 0 0, .slice none 0 0, .bool false, .int .i64 0] 33) := (congrArg (fun i => (((w.alloc (.cells #[.slice A N ca, .slice X pl cx, .bool D.x, .int .i64 D.f] 33)).alloc (.cells #[.int .i64 kd, .int .i64 sc, .int .i64 n, vb sd, .slice a sl cap] 36)).alloc (.cells #[.slice none 0 0, .slice none 0 0, .bool false, .int .i64 0] 33)).heap[i]?) (show w.heap.size + 2 = ((w.alloc (.cells #[.slice A N ca, .slice X pl cx, .bool D.x, .int .i64 D.f] 33)).alloc (.cells #[.int .i64 kd, .int .i64 sc, .int .i64 n, vb sd, .slice a sl cap] 36)).heap.size by simp)).trans (heap_alloc_new _ _)
  have hb3 : Below w.heap.size w (((w.alloc (.cells #[.slice A N ca, .slice X pl cx, .bool D.x, .int .i64 D.f] 33)).alloc (.cells #[.int .i64 kd, .int .i64 sc, .int .i64 n, vb sd, .slice a sl cap] 36)).alloc (.cells #[.slice none 0 0, .slice none 0 0, .bool false, .int .i64 0] 33)) := (below2 w _ _).trans ((below1 _ _).mono (by simp; omega))
  obtain ⟨w3, HW3⟩ : ∃ x, Hid ((((w.alloc (.cells #[.slice A N ca, .slice X pl cx, .bool D.x, .int .i64 D.f] 33)).alloc (.cells #[.int .i64 kd, .int .i64 sc, .int .i64 n, vb sd, .slice a sl cap] 36)).alloc (.cells #[.slice none 0 0, .slice none 0 0, .bool false, .int .i64 0] 33)) = x) := ⟨_, rfl⟩
  rw [HW3.out] at hk0 hk1 hk2 hb3
  have HK0 := Lib.hid hk0
  have HK1 := Lib.hid hk1
  have HK2 := Lib.hid hk2
  have HB3 := Lib.hid hb3
  clear hk0 hk1 hk2 hb3
  have hs3 : w.heap.size + 1 + 1 < w3.heap.size := (Array.getElem?_eq_some_iff.1 HK2.out).1
  have HNL3 : Hid (∀ x ∈ N0, x < w3.heap.size) := fun x hx => by have := HI.out.nl x hx; omega
  have r0 : ∀ w', Below w3.heap.size w3 w' → w'.cell? ⟨w.heap.size, 0, none⟩ = some (.slice A N ca) := fun w' h => (cell_of_row _ _ 0 _ _ _ ((h.block _ (by omega)).trans HK0.out)).trans rfl
  have r1 : ∀ w', Below w3.heap.size w3 w' → w'.cell? ⟨w.heap.size, 1, none⟩ = some (.slice X pl cx) := fun w' h => (cell_of_row _ _ 1 _ _ _ ((h.block _ (by omega)).trans HK0.out)).trans rfl
  have r2 : ∀ w', Below w3.heap.size w3 w' → w'.cell? ⟨w.heap.size, 2, none⟩ = some (.bool D.x) := fun w' h => (cell_of_row _ _ 2 _ _ _ ((h.block _ (by omega)).trans HK0.out)).trans rfl
  have r3 : ∀ w', Below w3.heap.size w3 w' → w'.cell? ⟨w.heap.size, 3, none⟩ = some (.int .i64 D.f) := fun w' h => (cell_of_row _ _ 3 _ _ _ ((h.block _ (by omega)).trans HK0.out)).trans rfl
  have y0 : ∀ w', Below w3.heap.size w3 w' → w'.cell? ⟨w.heap.size + 1, 0, none⟩ = some (.int .i64 kd) := fun w' h => (cell_of_row _ _ 0 _ _ _ ((h.block _ (by omega)).trans HK1.out)).trans rfl
  have y1 : ∀ w', Below w3.heap.size w3 w' → w'.cell? ⟨w.heap.size + 1, 1, none⟩ = some (.int .i64 sc) := fun w' h => (cell_of_row _ _ 1 _ _ _ ((h.block _ (by omega)).trans HK1.out)).trans rfl
  have y2 : ∀ w', Below w3.heap.size w3 w' → w'.cell? ⟨w.heap.size + 1, 2, none⟩ = some (.int .i64 n) := fun w' h => (cell_of_row _ _ 2 _ _ _ ((h.block _ (by omega)).trans HK1.out)).trans rfl
  have y3 : ∀ w', Below w3.heap.size w3 w' → w'.cell? ⟨w.heap.size + 1, 3, none⟩ = some (vb sd) := fun w' h => (cell_of_row _ _ 3 _ _ _ ((h.block _ (by omega)).trans HK1.out)).trans rfl
  have y4 : ∀ w', Below w3.heap.size w3 w' → w'.cell? ⟨w.heap.size + 1, 4, none⟩ = some (.slice a sl cap) := fun w' h => (cell_of_row _ _ 4 _ _ _ ((h.block _ (by omega)).trans HK1.out)).trans rfl
  have q0 : w3.cell? ⟨w.heap.size + 1, 0, none⟩ = _ := y0 w3 (Below.refl _ _)
  have q1 := y1 w3 (Below.refl _ _)
  have q2 := y2 w3 (Below.refl _ _)
  have q4 := y4 w3 (Below.refl _ _)
  have t0 := r0 w3 (Below.refl _ _)
  have t1 := r1 w3 (Below.refl _ _)
  have t2 := r2 w3 (Below.refl _ _)
  have t3 := r3 w3 (Below.refl _ _)
  have d0 : (kd == 0) = false := by rw [beq_eq_false_iff_ne]; omega
  have d1 : (kd == 1) = false := by rw [beq_eq_false_iff_ne]; omega
  have HKW := Lib.hid (HK.out.below HB3.out)
  have HFI : Hid (∀ (A6 : Option Addr) ca6 X6 cx6 P6 N6 D6 er X' n' cx' l w5 w', IsK' w5 N6 D6 A6 ca6 X6 cx6 P6 → Below w3.heap.size w3 w5 → (∀ x ∈ N6, x ∈ N0 ∨ w3.heap.size ≤ x) → Chg [w.heap.size + 1 + 1] w5 w' →
      stD D ⟨kd, sc, n, sd, sv⟩ = D6 → stE D ⟨kd, sc, n, sd, sv⟩ = er → stL D ⟨kd, sc, n, sd, sv⟩ = l → n' = l.length → (∀ (S : List Nat) (w'' : World), (∀ x ∈ S, x ∉ N0 ∧ x ≤ w.heap.size + 1 + 1) → Chg S w5 w'' → RB w'' X' l) → n' ≤ cx' → cx' ≤ maxLen →
      RStepP w N0 D ⟨kd, sc, n, sd, sv⟩ (.returned (.tuple #[.agg #[.slice A6 (64 * D6.n) ca6, .slice X6 P6.length cx6, .bool D6.x, .int .i64 D6.f], .slice X' n' cx', .int .i64 er])) w') := by
    intro A6 ca6 X6 cx6 P6 N6 D6 er X' n' cx' l w5 w' h1 h2 h3 h4 h5 h6 h7 h8 h9 h10 h11
    refine rstep_end h1 h4 (fun hx => ?_) (HB3.out.trans (h2.mono HB3.out.size)) (fun x hx => (h3 x hx).imp id fun h => by omega) h5 h6 h7 h8 (fun hx => by have := HI.out.nl _ hx; omega) h9 h10 h11
    rcases h3 _ hx with h | h
    · have := HI.out.nl _ h; omega
    · omega
  have HSAME : Hid (∀ er X' n' cx' l w5 w', Below w3.heap.size w3 w5 → Chg [w.heap.size + 1 + 1] w5 w' →
      stD D ⟨kd, sc, n, sd, sv⟩ = D → stE D ⟨kd, sc, n, sd, sv⟩ = er → stL D ⟨kd, sc, n, sd, sv⟩ = l → n' = l.length → (∀ (S : List Nat) (w'' : World), (∀ x ∈ S, x ∉ N0 ∧ x ≤ w.heap.size + 1 + 1) → Chg S w5 w'' → RB w'' X' l) → n' ≤ cx' → cx' ≤ maxLen →
      RStepP w N0 D ⟨kd, sc, n, sd, sv⟩ (.returned (.tuple #[.agg #[.slice A N ca, .slice X pl cx, .bool D.x, .int .i64 D.f], .slice X' n' cx', .int .i64 er])) w') := by
    intro er X' n' cx' l w5 w' h2 h4 h5 h6 h7 h8 h9 h10 h11
    have := HFI.out A ca X cx P N0 D er X' n' cx' l w5 w' ((HI.out.below HB3.out).below h2) h2 (fun x hx => .inl hx) h4 h5 h6 h7 h8 h9 h10 h11
    rw [HNN.out, HPL.out] at this
    exact this
  by_cases h2 : kd = 2
  · subst h2
    have HE : Hid (stD D ⟨2, sc, n, sd, sv⟩ = syncD D ∧ stE D ⟨2, sc, n, sd, sv⟩ = syncE D ∧ stL D ⟨2, sc, n, sd, sv⟩ = []) := ⟨rfl, rfl, rfl⟩
    have HS := Lib.hid (rsync_calls _ N0 D w3 HKW.out)
    generalize syncD D = D6 at *
    generalize syncE D = er at *
    go_enter Try.func29, Try.ntmps29
    go_upto_region 1 with (fail)
    rw [HW3.out]
    go_wp2_with fail
    refine HS.out.mono ?_
    rintro e w6 ⟨v6, N6, rfl, ⟨A6, ca6, X6, cx6, P6, rfl, h6⟩, hb6, hn6⟩
    unfold kval
    have HN6 := Lib.hid hn6
    have HI6 := Lib.hid (h6.below (below1 w6 (.cells #[.slice A6 (64 * D6.n) ca6, .slice X6 P6.length cx6, .bool D6.x, .int .i64 D6.f] 33)))
    have hbn : Below w3.heap.size w3 (w6.alloc (.cells #[.slice A6 (64 * D6.n) ca6, .slice X6 P6.length cx6, .bool D6.x, .int .i64 D6.f] 33)) := hb6.alloc hb6.size _
    have hnb := heap_alloc_new w6 (.cells #[.slice A6 (64 * D6.n) ca6, .slice X6 P6.length cx6, .bool D6.x, .int .i64 D6.f] 33)
    clear h6 hb6 hn6 q0 q1 q2 q4 t0 t1 t2 t3
    go_upto_region 8 with (fail)
    generalize w6.alloc (.cells #[.slice A6 (64 * D6.n) ca6, .slice X6 P6.length cx6, .bool D6.x, .int .i64 D6.f] 33) = wn at *
    have na0 : wn.cell? ⟨w6.heap.size, 0, none⟩ = some _ := (cell_of_row _ _ 0 _ _ _ hnb).trans rfl; have na1 : wn.cell? ⟨w6.heap.size, 1, none⟩ = some _ := (cell_of_row _ _ 1 _ _ _ hnb).trans rfl; have na2 : wn.cell? ⟨w6.heap.size, 2, none⟩ = some _ := (cell_of_row _ _ 2 _ _ _ hnb).trans rfl; have na3 : wn.cell? ⟨w6.heap.size, 3, none⟩ = some _ := (cell_of_row _ _ 3 _ _ _ hnb).trans rfl
    have HBN := Lib.hid hbn; have HK2N := Lib.hid ((HBN.out.block _ (Array.getElem?_eq_some_iff.1 HK2.out).1).trans HK2.out); have zc0 : wn.cell? ⟨w.heap.size + 1 + 1, 0, none⟩ = some _ := (cell_of_row _ _ 0 _ _ _ HK2N.out).trans rfl; have zf0 : wn.frozen? ⟨w.heap.size + 1 + 1, 0, none⟩ = false := frozen_of_row _ _ _ _ _ HK2N.out; have zc1 : wn.cell? ⟨w.heap.size + 1 + 1, 1, none⟩ = some _ := (cell_of_row _ _ 1 _ _ _ HK2N.out).trans rfl; have zf1 : wn.frozen? ⟨w.heap.size + 1 + 1, 1, none⟩ = false := frozen_of_row _ _ _ _ _ HK2N.out; have zc2 : wn.cell? ⟨w.heap.size + 1 + 1, 2, none⟩ = some _ := (cell_of_row _ _ 2 _ _ _ HK2N.out).trans rfl; have zf2 : wn.frozen? ⟨w.heap.size + 1 + 1, 2, none⟩ = false := frozen_of_row _ _ _ _ _ HK2N.out; have zc3 : wn.cell? ⟨w.heap.size + 1 + 1, 3, none⟩ = some _ := (cell_of_row _ _ 3 _ _ _ HK2N.out).trans rfl; have zf3 : wn.frozen? ⟨w.heap.size + 1 + 1, 3, none⟩ = false := frozen_of_row _ _ _ _ _ HK2N.out
    go_wp2_with fail
    have hzz := heap_set4 HK2N.out (.slice A6 (64 * D6.n) ca6) (.slice X6 P6.length cx6) (.bool D6.x) (.int .i64 D6.f)
    have hcz := chg_set4 wn (w.heap.size + 1 + 1) (.slice A6 (64 * D6.n) ca6) (.slice X6 P6.length cx6) (.bool D6.x) (.int .i64 D6.f)
    refine bodyPost_ret (results_cell_tmp2 rfl _ _ (w.heap.size + 1 + 1) 33 _ (0, 0) _ rfl hzz Try.underlying33 rfl size_dk) rfl ?_
    exact HFI.out _ _ _ _ _ _ _ _ _ _ _ [] _ _ HI6.out HBN.out HN6.out hcz HE.out.1 HE.out.2.1 HE.out.2.2 rfl (fun _ _ _ _ => RB.nil) (Nat.le_refl _) (by simp [maxLen])
  · by_cases h3 : kd = 3
    · subst h3
      have HE : Hid (stD D ⟨3, sc, n, sd, sv⟩ = failD D n ∧ stE D ⟨3, sc, n, sd, sv⟩ = 0 ∧ stL D ⟨3, sc, n, sd, sv⟩ = []) := ⟨rfl, rfl, rfl⟩
      have HS := Lib.hid (rfail_calls _ N0 D n w3 HKW.out hn2)
      generalize failD D n = D6 at *
      go_enter Try.func29, Try.ntmps29
      go_upto_region 1 with (fail)
      rw [HW3.out]
      go_wp2_with fail
      refine HS.out.mono ?_
      rintro e wn ⟨v6, N6, rfl, ⟨A6, ca6, X6, cx6, P6, rfl, h6⟩, hbn, hn6⟩
      unfold id kval
      have HN6 := Lib.hid hn6
      have HI6 := Lib.hid h6
      clear h6 hn6 q0 q1 q2 q4 t0 t1 t2 t3
      have HBN := Lib.hid hbn; have HK2N := Lib.hid ((HBN.out.block _ (Array.getElem?_eq_some_iff.1 HK2.out).1).trans HK2.out); have zc0 : wn.cell? ⟨w.heap.size + 1 + 1, 0, none⟩ = some _ := (cell_of_row _ _ 0 _ _ _ HK2N.out).trans rfl; have zf0 : wn.frozen? ⟨w.heap.size + 1 + 1, 0, none⟩ = false := frozen_of_row _ _ _ _ _ HK2N.out; have zc1 : wn.cell? ⟨w.heap.size + 1 + 1, 1, none⟩ = some _ := (cell_of_row _ _ 1 _ _ _ HK2N.out).trans rfl; have zf1 : wn.frozen? ⟨w.heap.size + 1 + 1, 1, none⟩ = false := frozen_of_row _ _ _ _ _ HK2N.out; have zc2 : wn.cell? ⟨w.heap.size + 1 + 1, 2, none⟩ = some _ := (cell_of_row _ _ 2 _ _ _ HK2N.out).trans rfl; have zf2 : wn.frozen? ⟨w.heap.size + 1 + 1, 2, none⟩ = false := frozen_of_row _ _ _ _ _ HK2N.out; have zc3 : wn.cell? ⟨w.heap.size + 1 + 1, 3, none⟩ = some _ := (cell_of_row _ _ 3 _ _ _ HK2N.out).trans rfl; have zf3 : wn.frozen? ⟨w.heap.size + 1 + 1, 3, none⟩ = false := frozen_of_row _ _ _ _ _ HK2N.out
      go_wp2_with fail
      have hzz := heap_set4 HK2N.out (.slice A6 (64 * D6.n) ca6) (.slice X6 P6.length cx6) (.bool D6.x) (.int .i64 D6.f); have hcz := chg_set4 wn (w.heap.size + 1 + 1) (.slice A6 (64 * D6.n) ca6) (.slice X6 P6.length cx6) (.bool D6.x) (.int .i64 D6.f); refine bodyPost_ret (results_cell_tmp2 rfl _ _ (w.heap.size + 1 + 1) 33 _ (0, 0) _ rfl hzz Try.underlying33 rfl size_dk) rfl ?_
      exact HFI.out _ _ _ _ _ _ _ _ _ _ _ [] _ _ HI6.out HBN.out HN6.out hcz HE.out.1 HE.out.2.1 HE.out.2.2 rfl (fun _ _ _ _ => RB.nil) (Nat.le_refl _) (by simp [maxLen])
    · by_cases h4 : kd = 4
      · subst h4
        have HE : Hid (stD D ⟨4, sc, n, sd, sv⟩ = crashD D sv ∧ stE D ⟨4, sc, n, sd, sv⟩ = 0 ∧ stL D ⟨4, sc, n, sd, sv⟩ = []) := ⟨rfl, rfl, rfl⟩
        have HS := Lib.hid (rcrash_calls _ N0 D a sl cap sv w3 HKW.out HSL.out (HRD.out.below HB3.out))
        generalize crashD D sv = D6 at *
        go_enter Try.func29, Try.ntmps29
        go_upto_region 1 with (fail)
        rw [HW3.out]
        go_wp2_with fail
        refine HS.out.mono ?_
        rintro e wn ⟨v6, N6, rfl, ⟨A6, ca6, X6, cx6, P6, rfl, h6⟩, hbn, hn6⟩
        unfold id kval
        have HN6 := Lib.hid hn6
        have HI6 := Lib.hid h6
        clear h6 hn6 q0 q1 q2 q4 t0 t1 t2 t3
        have HBN := Lib.hid hbn; have HK2N := Lib.hid ((HBN.out.block _ (Array.getElem?_eq_some_iff.1 HK2.out).1).trans HK2.out); have zc0 : wn.cell? ⟨w.heap.size + 1 + 1, 0, none⟩ = some _ := (cell_of_row _ _ 0 _ _ _ HK2N.out).trans rfl; have zf0 : wn.frozen? ⟨w.heap.size + 1 + 1, 0, none⟩ = false := frozen_of_row _ _ _ _ _ HK2N.out; have zc1 : wn.cell? ⟨w.heap.size + 1 + 1, 1, none⟩ = some _ := (cell_of_row _ _ 1 _ _ _ HK2N.out).trans rfl; have zf1 : wn.frozen? ⟨w.heap.size + 1 + 1, 1, none⟩ = false := frozen_of_row _ _ _ _ _ HK2N.out; have zc2 : wn.cell? ⟨w.heap.size + 1 + 1, 2, none⟩ = some _ := (cell_of_row _ _ 2 _ _ _ HK2N.out).trans rfl; have zf2 : wn.frozen? ⟨w.heap.size + 1 + 1, 2, none⟩ = false := frozen_of_row _ _ _ _ _ HK2N.out; have zc3 : wn.cell? ⟨w.heap.size + 1 + 1, 3, none⟩ = some _ := (cell_of_row _ _ 3 _ _ _ HK2N.out).trans rfl; have zf3 : wn.frozen? ⟨w.heap.size + 1 + 1, 3, none⟩ = false := frozen_of_row _ _ _ _ _ HK2N.out
        go_wp2_with fail
        have hzz := heap_set4 HK2N.out (.slice A6 (64 * D6.n) ca6) (.slice X6 P6.length cx6) (.bool D6.x) (.int .i64 D6.f); have hcz := chg_set4 wn (w.heap.size + 1 + 1) (.slice A6 (64 * D6.n) ca6) (.slice X6 P6.length cx6) (.bool D6.x) (.int .i64 D6.f); refine bodyPost_ret (results_cell_tmp2 rfl _ _ (w.heap.size + 1 + 1) 33 _ (0, 0) _ rfl hzz Try.underlying33 rfl size_dk) rfl ?_
        exact HFI.out _ _ _ _ _ _ _ _ _ _ _ [] _ _ HI6.out HBN.out HN6.out hcz HE.out.1 HE.out.2.1 HE.out.2.2 rfl (fun _ _ _ _ => RB.nil) (Nat.le_refl _) (by simp [maxLen])
      · by_cases h5 : kd = 5
        · subst h5
          have HE : Hid (stD D ⟨5, sc, n, sd, sv⟩ = D ∧ stE D ⟨5, sc, n, sd, sv⟩ = readE D sc n ∧ stL D ⟨5, sc, n, sd, sv⟩ = readL D sc n) := ⟨rfl, rfl, rfl⟩
          have HS := Lib.hid (rread_calls _ N0 D sc n w3 HKW.out hs1 hs2)
          unfold RReadP at HS
          generalize readL D sc n = l at *
          generalize readE D sc n = er at *
          go_enter Try.func29, Try.ntmps29
          go_upto_region 1 with (fail)
          rw [HW3.out]
          go_wp2_with fail
          refine HS.out.mono ?_
          rintro e wn ⟨X6, n6, cx6, rfl, hn6, hr6, hl6, hm6, hbn, hs6⟩
          have HN6 := Lib.hid hn6
          have HR6 := Lib.hid hs6
          have HL6 := Lib.hid hl6
          have HM6 := Lib.hid hm6
          have e0 := r0 wn hbn
          have e1 := r1 wn hbn
          have e2 := r2 wn hbn
          have e3 := r3 wn hbn
          clear hn6 hr6 hl6 hm6 hs6 q0 q1 q2 q4 t0 t1 t2 t3
          have HBN := Lib.hid hbn; have HK2N := Lib.hid ((HBN.out.block _ (Array.getElem?_eq_some_iff.1 HK2.out).1).trans HK2.out); have zc0 : wn.cell? ⟨w.heap.size + 1 + 1, 0, none⟩ = some _ := (cell_of_row _ _ 0 _ _ _ HK2N.out).trans rfl; have zf0 : wn.frozen? ⟨w.heap.size + 1 + 1, 0, none⟩ = false := frozen_of_row _ _ _ _ _ HK2N.out; have zc1 : wn.cell? ⟨w.heap.size + 1 + 1, 1, none⟩ = some _ := (cell_of_row _ _ 1 _ _ _ HK2N.out).trans rfl; have zf1 : wn.frozen? ⟨w.heap.size + 1 + 1, 1, none⟩ = false := frozen_of_row _ _ _ _ _ HK2N.out; have zc2 : wn.cell? ⟨w.heap.size + 1 + 1, 2, none⟩ = some _ := (cell_of_row _ _ 2 _ _ _ HK2N.out).trans rfl; have zf2 : wn.frozen? ⟨w.heap.size + 1 + 1, 2, none⟩ = false := frozen_of_row _ _ _ _ _ HK2N.out; have zc3 : wn.cell? ⟨w.heap.size + 1 + 1, 3, none⟩ = some _ := (cell_of_row _ _ 3 _ _ _ HK2N.out).trans rfl; have zf3 : wn.frozen? ⟨w.heap.size + 1 + 1, 3, none⟩ = false := frozen_of_row _ _ _ _ _ HK2N.out
          go_wp2_with fail
          have hzz := heap_set4 HK2N.out (.slice A N ca) (.slice X pl cx) (.bool D.x) (.int .i64 D.f); have hcz := chg_set4 wn (w.heap.size + 1 + 1) (.slice A N ca) (.slice X pl cx) (.bool D.x) (.int .i64 D.f); refine bodyPost_ret (results_cell_tmp2 rfl _ _ (w.heap.size + 1 + 1) 33 _ (0, 0) _ rfl hzz Try.underlying33 rfl size_dk) rfl ?_
          exact HSAME.out _ _ _ _ _ _ _ HBN.out hcz HE.out.1 HE.out.2.1 HE.out.2.2 HN6.out (fun S w'' hS hc => HR6.out S w'' (fun x hx => ⟨(hS x hx).1, by have := (hS x hx).2; omega⟩) hc) HL6.out HM6.out
        · have HE : Hid (stD D ⟨kd, sc, n, sd, sv⟩ = D ∧ stE D ⟨kd, sc, n, sd, sv⟩ = 0 ∧ stL D ⟨kd, sc, n, sd, sv⟩ = []) := by
            refine ⟨?_, ?_, ?_⟩
            · unfold stD; rw [if_neg hkk, if_neg h2, if_neg h3, if_neg h4]
            · unfold stE; rw [if_neg hkk, if_neg h2, if_neg h5]
            · unfold stL; rw [if_neg h5]
          have d2 : (kd == 2) = false := by rw [beq_eq_false_iff_ne]; omega
          have d3 : (kd == 3) = false := by rw [beq_eq_false_iff_ne]; omega
          have d4 : (kd == 4) = false := by rw [beq_eq_false_iff_ne]; omega
          have d5 : (kd == 5) = false := by rw [beq_eq_false_iff_ne]; omega
          have hbn := Below.refl w3.heap.size w3
          have HBN := Lib.hid hbn
          have zc0 : w3.cell? ⟨w.heap.size + 1 + 1, 0, none⟩ = some _ := (cell_of_row _ _ 0 _ _ _ HK2.out).trans rfl; have zf0 : w3.frozen? ⟨w.heap.size + 1 + 1, 0, none⟩ = false := frozen_of_row _ _ _ _ _ HK2.out; have zc1 : w3.cell? ⟨w.heap.size + 1 + 1, 1, none⟩ = some _ := (cell_of_row _ _ 1 _ _ _ HK2.out).trans rfl; have zf1 : w3.frozen? ⟨w.heap.size + 1 + 1, 1, none⟩ = false := frozen_of_row _ _ _ _ _ HK2.out; have zc2 : w3.cell? ⟨w.heap.size + 1 + 1, 2, none⟩ = some _ := (cell_of_row _ _ 2 _ _ _ HK2.out).trans rfl; have zf2 : w3.frozen? ⟨w.heap.size + 1 + 1, 2, none⟩ = false := frozen_of_row _ _ _ _ _ HK2.out; have zc3 : w3.cell? ⟨w.heap.size + 1 + 1, 3, none⟩ = some _ := (cell_of_row _ _ 3 _ _ _ HK2.out).trans rfl; have zf3 : w3.frozen? ⟨w.heap.size + 1 + 1, 3, none⟩ = false := frozen_of_row _ _ _ _ _ HK2.out
          go_enter Try.func29, Try.ntmps29
          go_upto_region 1 with (fail)
          rw [HW3.out]
          go_wp2_with fail
          have hzz := heap_set4 HK2.out (.slice A N ca) (.slice X pl cx) (.bool D.x) (.int .i64 D.f); have hcz := chg_set4 w3 (w.heap.size + 1 + 1) (.slice A N ca) (.slice X pl cx) (.bool D.x) (.int .i64 D.f); refine bodyPost_ret (results_cell_tmp2 rfl _ _ (w.heap.size + 1 + 1) 33 _ (0, 0) _ rfl hzz Try.underlying33 rfl size_dk) rfl ?_
          exact HSAME.out _ _ _ _ _ _ _ HBN.out hcz HE.out.1 HE.out.2.1 HE.out.2.2 rfl (fun _ _ _ _ => RB.nil) (Nat.le_refl _) (by simp [maxLen])

theorem rstep_calls (v : Value) (N0 : List Nat) (D : St) (m : Cm) (w : World) (h : IsK w N0 v D) (hm : m.ok w) (hp : D.p.length ≤ 1000) : Calls Try.prog 29 #[v, m.val] w (RStepP w N0 D m.c) := by
  by_cases h1 : m.c.kind = 0 ∨ m.c.kind = 1
  · exact rstep_write v N0 D m w h hm hp h1
  · exact rstep_other v N0 D m w h hm hp h1
end Dk
end Go.Proofs.Ytoallpinpeolfaa
