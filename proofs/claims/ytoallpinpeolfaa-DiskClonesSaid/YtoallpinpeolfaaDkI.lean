/- The walk of refmeshlaw19.step. -/
import Derived.Test.YtoallpinpeolfaaDkH
namespace Go.Proofs.Ytoallpinpeolfaa
open Go.RowKit
namespace Dk

/-- the state, the error and the bytes of a call -/
def stD (D : St) (c : Cl) : St :=
  if c.kind = 0 ∨ c.kind = 1 then writeD D c.sec (dataB c) else if c.kind = 2 then syncD D else if c.kind = 3 then failD D c.n else if c.kind = 4 then crashD D c.sv else D
def stE (D : St) (c : Cl) : Int :=
  if c.kind = 0 ∨ c.kind = 1 then writeE D c.sec (dataB c) else if c.kind = 2 then syncE D else if c.kind = 5 then readE D c.sec c.n else 0
def stL (D : St) (c : Cl) : List UInt8 := if c.kind = 5 then readL D c.sec c.n else []
theorem stD_ok (D : St) (c : Cl) (h : D.ok) (hn : c.n ≤ 9223372036854775807) : (stD D c).ok := by
  unfold stD
  split
  · exact writeD_ok _ _ _ h
  · split
    · exact syncD_ok _ h
    · split
      · exact failD_ok _ _ h hn
      · split
        · exact crashD_ok _ _ h
        · exact h
theorem writeD_n (D : St) (s : Int) (l : List UInt8) : (writeD D s l).n = D.n := by
  unfold writeD; repeat' split
  all_goals rfl
theorem writeD_p (D : St) (s : Int) (l : List UInt8) : (writeD D s l).p.length ≤ D.p.length + 1 := by
  unfold writeD; repeat' split
  all_goals simp
theorem stD_n (D : St) (c : Cl) : (stD D c).n = D.n := by
  unfold stD syncD failD crashD
  split
  · exact writeD_n _ _ _
  · repeat' split
    all_goals rfl
theorem stD_p (D : St) (c : Cl) : (stD D c).p.length ≤ D.p.length + 1 := by
  unfold stD syncD failD crashD
  split
  · exact writeD_p _ _ _
  · repeat' split
    all_goals simp

/-- what step leaves -/
def StepP (D : St) (c : Cl) (w : World) (g : Nat) (M E : List Nat) (e : Ending) (w' : World) : Prop :=
  ∃ X n cx, e = .returned (.tuple #[.slice X n cx, .int .i64 (stE D c)]) ∧ n = (stL D c).length ∧ RB w' X (stL D c) ∧ n ≤ cx ∧ DkP w g M E (stD D c) w'

set_option maxRecDepth 100000 in
set_option maxHeartbeats 2000000 in
theorem step_calls (g : Nat) (M E : List Nat) (D : St) (m : Cm) (w : World) (h : IsD w g M E D) (hm : m.ok w) (hp : D.p.length ≤ 1000) (haw : m.c.sv ≠ [] → ∀ b off, m.a = some ⟨b, off, none⟩ → b ∉ M) :
    Calls Try.prog 20 #[.pointer (some ⟨g, 0, none⟩), m.val] w (StepP D m.c w g M E) := by
  obtain ⟨hrd, hs1, hs2, hn2, hsl⟩ := hm
  obtain ⟨c, a, cap⟩ := m
  obtain ⟨kd, sc, n, sd, sv⟩ := c
  unfold Cm.val
  simp only at *
  have hk1 := heap_alloc_new w (.cells #[.int .i64 kd, .int .i64 sc, .int .i64 n, vb sd, .slice a sv.length cap] 36)
  have hb1 := below1 w (.cells #[.int .i64 kd, .int .i64 sc, .int .i64 n, vb sd, .slice a sv.length cap] 36)
  have HI1 := Lib.hid (h.below hb1)
  have HRD1 := Lib.hid (Rd.below hrd hb1)
  have hs1' : w.heap.size < (w.alloc (.cells #[.int .i64 kd, .int .i64 sc, .int .i64 n, vb sd, .slice a sv.length cap] 36)).heap.size := by simp
  have hRM : w.heap.size ∉ M := fun hx => by have := h.ml _ hx; omega
  have HB1 := Lib.hid hb1
  have HG : Hid (g ∈ M) := h.mg
  have HAW := Lib.hid haw
  have HEND : Hid (∀ D' w', DkP (w.alloc (.cells #[.int .i64 kd, .int .i64 sc, .int .i64 n, vb sd, .slice a sv.length cap] 36)) g M E D' w' → DkP w g M E D' w') := fun D' w' hd => DkP.trans (Chg.of_below HB1.out M) hd
  clear hrd hb1 h haw
  by_cases h01 : kd = 0 ∨ kd = 1
  · have HE : Hid (∀ e w', e = .returned (.tuple #[.slice none 0 0, .int .i64 (writeE D sc (dataB ⟨kd, sc, n, sd, sv⟩))]) → DkP (w.alloc (.cells #[.int .i64 kd, .int .i64 sc, .int .i64 n, vb sd, .slice a sv.length cap] 36)) g M E (writeD D sc (dataB ⟨kd, sc, n, sd, sv⟩)) w' → StepP D ⟨kd, sc, n, sd, sv⟩ w g M E e w') := by
      intro e w' he hd
      have h5 : ¬ kd = 5 := by omega
      refine ⟨none, 0, 0, ?_, ?_, ?_, Nat.le_refl _, ?_⟩
      · rw [he]; unfold stE; rw [if_pos h01]
      · unfold stL; rw [if_neg h5]; rfl
      · unfold stL; rw [if_neg h5]; exact RB.nil
      · unfold stD; rw [if_pos h01]; exact HEND.out _ _ hd
    have HDA : Hid (∀ w', Calls Try.prog 13 #[.agg #[.int .i64 kd, .int .i64 sc, .int .i64 n, vb sd, .slice a sv.length cap]] w' (NewL w' (dataB ⟨kd, sc, n, sd, sv⟩))) := fun w' => data_calls ⟨⟨kd, sc, n, sd, sv⟩, a, cap⟩ w'
    have hdl := dataB_len ⟨kd, sc, n, sd, sv⟩
    generalize dataB ⟨kd, sc, n, sd, sv⟩ = l at *
    generalize sv.length = sl at *
    have m0 : (w.alloc (.cells #[.int .i64 kd, .int .i64 sc, .int .i64 n, vb sd, .slice a sl cap] 36)).heap[w.heap.size]? = _ := hk1
    clear hk1
    rcases h01 with rfl | rfl
    all_goals
      go_enter Try.func20, Try.ntmps20
      go_wp2_with fail
      generalize w.alloc (.cells #[.int .i64 _, .int .i64 sc, .int .i64 n, vb sd, .slice a sl cap] 36) = w1 at *
      have y0 : ∀ w', Chg M w1 w' → w'.cell? ⟨w.heap.size, 0, none⟩ = some (.int .i64 _) := fun w' h => (h.cellAt m0 hRM).trans rfl
      have y1 : ∀ w', Chg M w1 w' → w'.cell? ⟨w.heap.size, 1, none⟩ = some (.int .i64 sc) := fun w' h => (h.cellAt m0 hRM).trans rfl
      have y2 : ∀ w', Chg M w1 w' → w'.cell? ⟨w.heap.size, 2, none⟩ = some (.int .i64 n) := fun w' h => (h.cellAt m0 hRM).trans rfl
      have y3 : ∀ w', Chg M w1 w' → w'.cell? ⟨w.heap.size, 3, none⟩ = some (vb sd) := fun w' h => (h.cellAt m0 hRM).trans rfl
      have y4 : ∀ w', Chg M w1 w' → w'.cell? ⟨w.heap.size, 4, none⟩ = some (.slice a sl cap) := fun w' h => (h.cellAt m0 hRM).trans rfl
      clear m0
      go_region_held3 (fun w' => Chg M w1 w') (first | exact (Chg.refl _ _).drew | assumption) (first | (go_at_call 13; refine (HDA.out w1.drew).mono ?_; rintro e w5 ⟨X, cx, rfl, ho5, hb5⟩; have HO5 := Lib.hid ho5; have HB5 := Lib.hid ((below_drew w1).trans hb5); have hs5 : Chg M w1 w5 := Chg.of_below HB5.out M; clear ho5 hb5) | (go_at_call 14; refine (write_calls g M E D sc X l.length cx l w5 (HI1.out.below HB5.out) rfl (by obtain ⟨_, _, e1, _, _, _, hr⟩ := own_form HO5.out; cases e1; exact hr) (by omega) hs1 hs2 (by omega)).mono ?_; rintro e w9 ⟨rfl, hd9⟩; have HD9 := Lib.hid (DkP.trans hs5 hd9); have hs9 : Chg M w1 w9 := HD9.out.choose_spec.choose_spec.2.1; clear hd9))
      have HF := Lib.hid (HE.out _ _ rfl HD9.out)
      clear y0 y1 y2 y3 y4 hs5 hs9
      generalize writeE D sc l = er at *
      go_wp2_with fail
      go_ret2
      exact HF.out
  · have q0 : (kd == 0) = false := by rw [beq_eq_false_iff_ne]; omega
    have q1 : (kd == 1) = false := by rw [beq_eq_false_iff_ne]; omega
    have HE : Hid (∀ e w', e = .returned (.tuple #[.slice none 0 0, .int .i64 (stE D ⟨kd, sc, n, sd, sv⟩)]) → kd ≠ 5 → DkP (w.alloc (.cells #[.int .i64 kd, .int .i64 sc, .int .i64 n, vb sd, .slice a sv.length cap] 36)) g M E (stD D ⟨kd, sc, n, sd, sv⟩) w' → StepP D ⟨kd, sc, n, sd, sv⟩ w g M E e w') := by
      intro e w' he h5 hd
      have hL : stL D ⟨kd, sc, n, sd, sv⟩ = [] := by unfold stL; rw [if_neg h5]
      exact ⟨none, 0, 0, he, by rw [hL]; rfl, by rw [hL]; exact RB.nil, Nat.le_refl _, HEND.out _ _ hd⟩
    have HEE : Hid (∀ z, kd ≠ 2 → kd ≠ 5 → z = 0 → z = stE D ⟨kd, sc, n, sd, sv⟩) := by
      intro z h2 h5 hz; unfold stE; rw [if_neg h01, if_neg h2, if_neg h5, hz]
    by_cases h2 : kd = 2
    · subst h2
      have HS := Lib.hid (sync_calls g M E D _ HI1.out)
      have HF : Hid (∀ w', DkP (w.alloc (.cells #[.int .i64 2, .int .i64 sc, .int .i64 n, vb sd, .slice a sv.length cap] 36)) g M E (syncD D) w' → StepP D ⟨2, sc, n, sd, sv⟩ w g M E (.returned (.tuple #[.slice none 0 0, .int .i64 (syncE D)])) w') := by
        intro w' hd
        refine HE.out _ _ ?_ (by decide) ?_
        · have : stE D ⟨2, sc, n, sd, sv⟩ = syncE D := rfl
          rw [this]
        · have : stD D ⟨2, sc, n, sd, sv⟩ = syncD D := rfl
          rw [this]; exact hd
      generalize sv.length = sl at *
      clear hk1 h01
      go_enter Try.func20, Try.ntmps20
      go_wp2_with fail
      refine HS.out.mono ?_
      rintro e w9 ⟨rfl, hd9⟩
      have HFF := Lib.hid (HF.out _ hd9)
      clear hd9
      generalize syncE D = er at *
      go_wp2_with fail
      go_ret2
      exact HFF.out
    · have q2 : (kd == 2) = false := by rw [beq_eq_false_iff_ne]; omega
      by_cases h3 : kd = 3
      · subst h3
        have HS := Lib.hid (failAfter_calls g M E D n _ HI1.out hn2)
        have HF : Hid (∀ w', DkP (w.alloc (.cells #[.int .i64 3, .int .i64 sc, .int .i64 n, vb sd, .slice a sv.length cap] 36)) g M E (failD D n) w' → StepP D ⟨3, sc, n, sd, sv⟩ w g M E (.returned (.tuple #[.slice none 0 0, .int .i64 0])) w') := by
          intro w' hd
          exact HE.out _ _ rfl (by decide) hd
        generalize sv.length = sl at *
        clear hk1 h01 h2
        go_enter Try.func20, Try.ntmps20
        go_wp2_with fail
        refine HS.out.mono ?_
        rintro e w9 ⟨rfl, hi9, hc9⟩
        have HFF := Lib.hid (HF.out _ (DkP.of_g hi9 HG.out hc9))
        clear hi9 hc9
        go_wp2_with fail
        go_ret2
        exact HFF.out
      · have q3 : (kd == 3) = false := by rw [beq_eq_false_iff_ne]; omega
        by_cases h4 : kd = 4
        · subst h4
          have HS := Lib.hid (crash_calls g M E D a sv.length cap sv _ HI1.out rfl HRD1.out HAW.out)
          have HF : Hid (∀ w', DkP (w.alloc (.cells #[.int .i64 4, .int .i64 sc, .int .i64 n, vb sd, .slice a sv.length cap] 36)) g M E (crashD D sv) w' → StepP D ⟨4, sc, n, sd, sv⟩ w g M E (.returned (.tuple #[.slice none 0 0, .int .i64 0])) w') := by
            intro w' hd
            exact HE.out _ _ rfl (by decide) hd
          generalize sv.length = sl at *
          clear hk1 h01 h2 h3
          go_enter Try.func20, Try.ntmps20
          go_wp2_with fail
          refine HS.out.mono ?_
          rintro e w9 ⟨rfl, hd9⟩
          have HFF := Lib.hid (HF.out _ hd9)
          clear hd9
          go_wp2_with fail
          go_ret2
          exact HFF.out
        · have q4 : (kd == 4) = false := by rw [beq_eq_false_iff_ne]; omega
          have HD : Hid (stD D ⟨kd, sc, n, sd, sv⟩ = D) := by show _ = _; unfold stD; rw [if_neg h01, if_neg h2, if_neg h3, if_neg h4]
          by_cases h5 : kd = 5
          · subst h5
            have HS := Lib.hid (read_calls g M E D sc n _ HI1.out hs1 hs2)
            have HF : Hid (∀ X nn c w', nn = (readL D sc n).length → w'.ownsRow (w.alloc (.cells #[.int .i64 5, .int .i64 sc, .int .i64 n, vb sd, .slice a sv.length cap] 36)).heap.size 5 1 (.slice X nn c) nn ((readL D sc n).map vb) → Below (w.alloc (.cells #[.int .i64 5, .int .i64 sc, .int .i64 n, vb sd, .slice a sv.length cap] 36)).heap.size (w.alloc (.cells #[.int .i64 5, .int .i64 sc, .int .i64 n, vb sd, .slice a sv.length cap] 36)) w' → StepP D ⟨5, sc, n, sd, sv⟩ w g M E (.returned (.tuple #[.slice X nn c, .int .i64 (readE D sc n)])) w') := by
              intro X nn c w' h1 h2 h3
              obtain ⟨_, _, e1, hnc, _, _, hr⟩ := own_form h2
              cases e1
              refine ⟨X, nn, c, rfl, h1, hr, hnc, ?_⟩
              rw [HD.out]
              exact HEND.out _ _ (DkP.of_below HI1.out h3)
            generalize sv.length = sl at *
            clear hk1 h01 h2 h3 h4 hs1'
            go_enter Try.func20, Try.ntmps20
            go_wp2_with fail
            refine HS.out.mono ?_
            rintro e w9 ⟨X, nn, cx, rfl, hnn, ho9, hb9⟩
            have HFF := Lib.hid (HF.out _ _ _ _ hnn ho9 hb9)
            clear hnn ho9 hb9
            generalize readE D sc n = er at *
            go_wp2_with fail
            go_ret2
            exact HFF.out
          · have q5 : (kd == 5) = false := by rw [beq_eq_false_iff_ne]; omega
            have HF : Hid (StepP D ⟨kd, sc, n, sd, sv⟩ w g M E (.returned (.tuple #[.slice none 0 0, .int .i64 0])) (w.alloc (.cells #[.int .i64 kd, .int .i64 sc, .int .i64 n, vb sd, .slice a sv.length cap] 36))) := by
              refine HE.out _ _ ?_ h5 ?_
              · rw [← HEE.out 0 h2 h5 rfl]
              · rw [HD.out]; exact .refl HI1.out
            generalize sv.length = sl at *
            clear hk1 h01 h2 h3 h4 h5
            go_enter Try.func20, Try.ntmps20
            go_wp2_with fail
            go_ret2
            exact HF.out
end Dk
end Go.Proofs.Ytoallpinpeolfaa
