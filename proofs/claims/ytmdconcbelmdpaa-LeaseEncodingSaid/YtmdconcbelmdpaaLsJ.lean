/- The walks of the laws LeaseGrace and LeaseRounds. -/
import Derived.Test.YtmdconcbelmdpaaLsI
namespace Go.Proofs.Ytmdconcbelmdpaa
open Go.RowKit
namespace Ls
open In (vi conB)

theorem RdC.at' {w : World} {b off : Nat} {cs : List Cl} (h : RdC w (some ⟨b, off, none⟩) cs) (k : Nat) (hk : k < cs.length) :
    w.cell? ⟨b, off + k * 4, none⟩ = some (vb cs[k].kind) ∧ w.cell? ⟨b, off + k * 4 + 1, none⟩ = some (.int .i64 cs[k].cl) ∧ w.cell? ⟨b, off + k * 4 + 2, none⟩ = some (.int .i64 cs[k].ro) ∧ w.cell? ⟨b, off + k * 4 + 3, none⟩ = some (.int .i64 cs[k].ti) := by
  obtain ⟨b', off', e, hc⟩ := h.cells (by omega)
  cases e
  exact hc k hk
theorem hear_has (L : St) (cl ro ti c : Int) : hasB (hear L cl ro ti) c = hasB L c := by unfold hasB; rw [hear_m]
theorem hear_t (L : St) (cl ro ti : Int) (i : Nat) : (hear L cl ro ti).t i = if okB L cl ro ti = true ∧ (i : Int) + 1 = cl then max (L.t i) ti else L.t i := by
  unfold hear; split
  · rename_i h; simp [h]
  · rename_i h; simp [h]
theorem hear_r (L : St) (cl ro ti : Int) (i : Nat) : (hear L cl ro ti).r i = if okB L cl ro ti = true ∧ (i : Int) + 1 = cl then max (L.r i) ro else L.r i := by
  unfold hear; split
  · rename_i h; simp [h]
  · rename_i h; simp [h]
theorem hear_last_ne (L : St) (cl ro ti c : Int) (h : c ≠ cl) : lastI (hear L cl ro ti) c = lastI L c := by
  unfold lastI; rw [hear_has]; split
  · rename_i hh; unfold hasB at hh; simp only [decide_eq_true_eq] at hh; rw [hear_t, if_neg (by rintro ⟨_, h2⟩; omega)]
  · rfl
theorem hear_round_ne (L : St) (cl ro ti c : Int) (h : c ≠ cl) : roundI (hear L cl ro ti) c = roundI L c := by
  unfold roundI; rw [hear_has]; split
  · rename_i hh; unfold hasB at hh; simp only [decide_eq_true_eq] at hh; rw [hear_r, if_neg (by rintro ⟨_, h2⟩; omega)]
  · rfl
theorem hear_last_le (L : St) (cl ro ti c : Int) : lastI L c ≤ lastI (hear L cl ro ti) c := by
  unfold lastI; rw [hear_has]; split
  · rw [hear_t]; split <;> omega
  · omega
theorem hear_round_le (L : St) (cl ro ti c : Int) : roundI L c ≤ roundI (hear L cl ro ti) c := by
  unfold roundI; rw [hear_has]; split
  · rw [hear_r]; split <;> omega
  · omega

theorem od_one (L : St) (T : Int) (i k : Nat) : od L T [(i : Int) + 1] k = if i < k ∧ 0 < T ∧ L.t i < T - 4 then [(i : Int) + 1] else [] := by
  induction k with
  | zero => simp [od]
  | succ k ih =>
    by_cases hk : k = i
    · subst hk
      have h0 : od L T [(k : Int) + 1] k = [] := by rw [ih, if_neg (by omega)]
      by_cases h : 0 < T ∧ L.t k < T - 4
      · rw [od_yes _ _ _ _ (by simp [dueB, conB, h]), h0, if_pos ⟨by omega, h⟩]; rfl
      · rw [od_no _ _ _ _ (by simp only [dueB, conB]; simp; intro a; omega), h0, if_neg (by rintro ⟨_, h2⟩; exact h h2)]
    · rw [od_no _ _ _ _ (by simp [dueB, conB]; omega), ih]
      by_cases h : 0 < T ∧ L.t i < T - 4
      · by_cases hik : i < k
        · rw [if_pos ⟨hik, h⟩, if_pos ⟨by omega, h⟩]
        · rw [if_neg (by omega), if_neg (by omega)]
      · rw [if_neg (by rintro ⟨_, h2⟩; exact h h2), if_neg (by rintro ⟨_, h2⟩; exact h h2)]

set_option maxRecDepth 100000 in
set_option maxHeartbeats 2000000 in
theorem grace_law (C : Option Addr) (n cap : Nat) (cs : List Cl) (cl ro ti la : Int) (w : World) (hn : cs.length = n) (_hnc : n ≤ cap) (_hcm : cap ≤ maxLen) (hr : RdC w C cs) (hf : ∀ c ∈ cs, c.fits)
    (hb1 : -9223372036854775808 ≤ cl) (hb2 : cl ≤ 9223372036854775807) :
    Calls Try.prog 5 #[.slice C n cap, .int .i64 cl, .int .i64 ro, .int .i64 ti, .int .i64 la] w (Yes w) := by
  unfold maxLen at _hcm
  have HN := Lib.hid hn
  have HR := Lib.hid hr
  have HF := Lib.hid hf
  clear hn hr hf
  by_cases hall : n ≤ 40 ∧ ti ≤ 1099511627776 ∧ 0 ≤ la ∧ la ≤ 20
  · obtain ⟨h40, h1, h2, h3⟩ := hall
    have d1 : decide (1099511627776 < ti) = false := by simp; omega
    have d2 : decide (la < 0) = false := by simp; omega
    have d3 : decide (20 < la) = false := by simp; omega
    go_enter Try.func5, Try.ntmps5
    go_wp2_with fail
    refine (awake_calls w).mono ?_
    rintro e w1 ⟨rfl, hb⟩
    have HB := Lib.hid hb
    clear hb
    go_wp2_with fail
    refine (run_calls 4 C n cap cs w1 HN.out h40 (HR.out.below HB.out) HF.out).mono ?_
    rintro e w2 ⟨g, v, rfl, hl, hr2, hb, hgg⟩
    have hLm : (runs (fresh 4) cs).m = 4 := runs_m _ _
    have HL := Lib.hid hl
    have HB2 := Lib.hid (HB.out.trans (hb.mono HB.out.size))
    have hgw : w.heap.size ≤ g := by have := HB.out.size; omega
    obtain ⟨_, A, ca, B, cb, rfl, _, _⟩ := hr2
    clear hl hb
    generalize runs (fresh 4) cs = L at *
    have HLm := Lib.hid hLm
    clear hLm
    go_wp2_with fail
    have hb3 := below1 w2 (.cells #[.slice A L.m ca, .slice B L.m cb, .int .i64 L.c] 27)
    generalize w2.alloc (.cells #[.slice A L.m ca, .slice B L.m cb, .int .i64 L.c] 27) = w3 at *
    have H3 : Hid (At w g L w3) := ⟨HL.out.below hb3, HB2.out.trans (hb3.mono HB2.out.size)⟩
    clear HL HB2 hb3
    refine (heard_calls g L cl ro ti w3 H3.out.1 hb2 hb1).mono ?_
    rintro e w4 ⟨rfl, hl, hc⟩
    have H4 : Hid (At w g (hear L cl ro ti) w4) := H3.out.chg hgw hl hc
    clear hl hc H3
    cases hok : okB L cl ro ti
    · have he : hearE L cl ro ti = 1 := by simp [hearE, hok]
      rw [he]
      clear he
      have hc : decide (cl < 1) = true ∨ (decide (cl < 1) = false ∧ decide (4 < cl) = true) ∨ (decide (cl < 1) = false ∧ decide (4 < cl) = false ∧ decide (ro < 1) = true) ∨
          (decide (cl < 1) = false ∧ decide (4 < cl) = false ∧ decide (ro < 1) = false ∧ decide (ti < 0) = true) := by
        unfold okB hasB at hok
        rw [HLm.out] at hok
        simp only [Bool.and_eq_false_iff, decide_eq_false_iff_not] at hok
        simp only [decide_eq_true_eq, decide_eq_false_iff_not]; omega
      clear hok
      rcases hc with d4 | ⟨d4, d5⟩ | ⟨d4, d5, d6⟩ | ⟨d4, d5, d6, d7⟩
      all_goals
        go_wp2_with fail
        go_ret
        exact ⟨rfl, H4.out.2⟩
    · have he : hearE L cl ro ti = 0 := by simp [hearE, hok]
      rw [he]
      clear he
      have hok' := hok
      unfold okB hasB at hok'
      rw [HLm.out] at hok'
      simp only [Bool.and_eq_true, decide_eq_true_eq] at hok'
      obtain ⟨⟨⟨hc1, hc2⟩, hro⟩, hti⟩ := hok'
      obtain ⟨i, rfl⟩ : ∃ i : Nat, cl = (i : Int) + 1 := ⟨(cl - 1).toNat, by omega⟩
      have hla : lastI (hear L ((i : Int) + 1) ro ti) ((i : Int) + 1) = max (L.t i) ti := by
        unfold lastI; rw [hear_has, show hasB L ((i : Int) + 1) = true by unfold hasB; rw [HLm.out]; simp; omega]
        simp [hear_t, hok]
      have hod : od (hear L ((i : Int) + 1) ro ti) (ti + la) [(i : Int) + 1] (hear L ((i : Int) + 1) ro ti).m = if max (L.t i) ti < ti + la - 4 then [(i : Int) + 1] else [] := by
        rw [od_one, hear_t, hear_m, HLm.out]
        simp only [hok, true_and, if_true]
        by_cases hq : max (L.t i) ti < ti + la - 4
        · rw [if_pos hq, if_pos ⟨by omega, by omega, hq⟩]
        · rw [if_neg hq, if_neg (by rintro ⟨_, _, h⟩; exact hq h)]
      have HLa := Lib.hid hla
      have HOd := Lib.hid hod
      have hmx : ti ≤ max (L.t i) ti := Int.le_max_right _ _
      generalize max (L.t i) ti = mx at *
      clear hok hla hod
      go_wp2_with fail
      refine (last_calls g _ ((i : Int) + 1) w4 H4.out.1).mono ?_
      rintro e w5 ⟨rfl, rfl⟩
      rw [HLa.out]
      go_wp2_with fail
      refine (overdue_calls g _ (ti + la) _ 1 1 [(i : Int) + 1] _ (H4.out.below (below1 _ _)).1 rfl (by omega) (Rd.new w4 [vi ((i : Int) + 1)] _ (0, 0)) (by omega)).mono ?_
      rintro e w6 ⟨X, c, rfl, hown, hb⟩
      have H6 := Lib.hid ((H4.out.below (below1 _ _)).below hb)
      rw [HOd.out] at hown ⊢
      obtain ⟨_, _, e1, _, _, _, rX⟩ := own_form hown
      cases e1
      have RX := Lib.hid rX
      clear hb hown rX H4 HOd
      by_cases h4 : la ≤ 4
      · rw [if_neg (show ¬ mx < ti + la - 4 by omega)] at RX ⊢
        have d4 : decide (la ≤ 4) = true := by simp; omega
        go_wp2_with fail
        go_ret
        exact ⟨rfl, H6.out.2⟩
      · have d4 : decide (la ≤ 4) = false := by simp; omega
        by_cases hq : mx < ti + la - 4
        · rw [if_pos hq] at RX ⊢
          have d5 : decide (mx < ti + la - 4) = true := by simp; omega
          go_wp2_with fail
          refine (In.ints_calls X _ 1 1 c 1 [(i : Int) + 1] [(i : Int) + 1] _ rfl rfl (by omega) (by omega) (Rd.below RX.out (below1 _ _)) (Rd.new w6 [vi ((i : Int) + 1)] _ (0, 0))).mono ?_
          rintro e w7 ⟨rfl, hb⟩
          rw [show In.eqB [(i : Int) + 1] [(i : Int) + 1] = true by simp [In.eqB]]
          have H7 := Lib.hid ((H6.out.below (below1 _ _)).below hb)
          clear hb H6 RX
          go_wp2_with fail
          go_ret
          exact ⟨rfl, H7.out.2⟩
        · rw [if_neg hq] at RX ⊢
          have d5 : decide (mx < ti + la - 4) = false := by simp; omega
          go_wp2_with fail
          refine (In.ints_calls X _ 0 1 c 1 [] [(i : Int) + 1] _ rfl rfl (by omega) (by omega) (Rd.below RX.out (below1 _ _)) (Rd.new w6 [vi ((i : Int) + 1)] _ (0, 0))).mono ?_
          rintro e w7 ⟨rfl, hb⟩
          rw [show In.eqB [] [(i : Int) + 1] = false by simp [In.eqB]]
          have H7 := Lib.hid ((H6.out.below (below1 _ _)).below hb)
          clear hb H6 RX
          go_wp2_with fail
          go_ret
          exact ⟨rfl, H7.out.2⟩
  · have hc : 40 < n ∨ (n ≤ 40 ∧ decide (1099511627776 < ti) = true) ∨ (n ≤ 40 ∧ decide (1099511627776 < ti) = false ∧ decide (la < 0) = true) ∨ (n ≤ 40 ∧ decide (1099511627776 < ti) = false ∧ decide (la < 0) = false ∧ decide (20 < la) = true) := by
      simp only [decide_eq_true_eq, decide_eq_false_iff_not]; omega
    clear hall
    rcases hc with h1 | ⟨h1, h2⟩ | ⟨h1, h2, h3⟩ | ⟨h1, h2, h3, h4⟩
    all_goals
      go_enter Try.func5, Try.ntmps5
      go_wp2_with fail
      refine (awake_calls w).mono ?_
      rintro e w1 ⟨rfl, hb⟩
      have HB := Lib.hid hb
      clear hb
      go_wp2_with fail
      go_ret
      exact ⟨rfl, HB.out⟩

set_option maxRecDepth 100000 in
set_option maxHeartbeats 2000000 in
theorem rounds_law (m : Int) (C : Option Addr) (n cap : Nat) (cs : List Cl) (w : World) (hn : cs.length = n) (_hnc : n ≤ cap) (_hcm : cap ≤ maxLen) (hr : RdC w C cs) (hf : ∀ c ∈ cs, c.fits) :
    Calls Try.prog 7 #[.int .i64 m, .slice C n cap] w (Yes w) := by
  unfold maxLen at _hcm
  have HN := Lib.hid hn
  have HR := Lib.hid hr
  have HF := Lib.hid hf
  clear hn hr hf
  by_cases h40 : n ≤ 40
  · go_enter Try.func7, Try.ntmps7
    go_wp2_with fail
    refine (awake_calls w).mono ?_
    rintro e w1 ⟨rfl, hb⟩
    have HB := Lib.hid hb
    clear hb
    go_wp2_with fail
    refine (new_calls m w1).mono ?_
    rintro e w2 ⟨rfl, hl, hb⟩
    have H2 : Hid (At w w1.heap.size (fresh m) w2) := ⟨hl, HB.out.trans (hb.mono HB.out.size)⟩
    have hgw : w.heap.size ≤ w1.heap.size := HB.out.size
    clear hl hb HB
    generalize w1.heap.size = g at *
    go_wp2_with fail
    go_loopw [6] (fun i wr => ∃ k : Nat, k ≤ n ∧ i = .int .i64 k ∧ ∃ L : St, L.c = k ∧ At w g L wr) (fun i _ => n - (intOf i).toNat)
    case atStart => exact ⟨0, Nat.zero_le _, rfl, _, rfl, H2.out⟩
    case round =>
      obtain ⟨k, hk, rfl, L, hLc, hat⟩ := hrel
      have HLC := Lib.hid hLc
      have HAt := Lib.hid hat
      clear hLc hat
      by_cases hlt : k < n
      · have hkl : k < cs.length := by have := HN.out; omega
        have hfk := HF.out cs[k] (List.getElem_mem hkl)
        obtain ⟨hf1, hf2⟩ := hfk
        have i0 : (0 : Int) ≤ (k : Int) := by omega
        have i1 : (k : Int) < (n : Int) := by omega
        obtain ⟨b, off, rfl, _⟩ := HR.out.cells (by omega)
        have hcells := fun w' (h : Below w.heap.size w w') => RdC.at' (HR.out.below h) k hkl
        have x1 : ∀ w', Below w.heap.size w w' → w'.cell? ⟨b, off + k * 4 + 1, none⟩ = some (.int .i64 cs[k].cl) := fun w' h => (hcells w' h).2.1
        have x2 : ∀ w', Below w.heap.size w w' → w'.cell? ⟨b, off + k * 4 + 2, none⟩ = some (.int .i64 cs[k].ro) := fun w' h => (hcells w' h).2.2.1
        have x3 : ∀ w', Below w.heap.size w w' → w'.cell? ⟨b, off + k * 4 + 3, none⟩ = some (.int .i64 cs[k].ti) := fun w' h => (hcells w' h).2.2.2
        clear hcells
        generalize cs[k] = c at *
        have hBr := HAt.out.2
        go_wp2_with fail
        go_region_held3 (fun w' => Below w.heap.size w w') (first | exact hBr.drew | assumption) (first | (go_at_call 16; refine (heard_calls g L c.cl c.ro c.ti wr.drew HAt.out.1 hf2 hf1).mono ?_; rintro e w5 ⟨rfl, hl5, hc5⟩; have H5 : Hid (At w g (hear L c.cl c.ro c.ti) w5) := At.chg (w1 := wr.drew) ⟨HAt.out.1, HAt.out.2.drew⟩ hgw hl5 hc5; have hs5 := H5.out.2; clear hl5 hc5))
        have HC5 : Hid ((hear L c.cl c.ro c.ti).c = k) := by show _ = _; rw [hear_c, HLC.out]
        clear hs5 x1 x2 x3 hBr
        generalize hear L c.cl c.ro c.ti = M at *
        go_wp2_with fail
        refine (next_calls g M w5 H5.out.1 (by rw [HC5.out]; omega) (by rw [HC5.out]; omega)).mono ?_
        rintro e w6 ⟨rfl, hl6, hc6⟩
        rw [HC5.out]
        have H6 := Lib.hid (H5.out.chg hgw hl6 hc6)
        clear hl6 hc6 H5
        go_wp2_with fail
        go_roundw
        case rel => exact ⟨k + 1, by omega, by go_num, _, by simp [HC5.out], H6.out⟩
        case measure => simp [intOf]; omega
      · go_wp2_with fail
        go_ret
        exact ⟨rfl, HAt.out.2⟩
  · go_enter Try.func7, Try.ntmps7
    go_wp2_with fail
    refine (awake_calls w).mono ?_
    rintro e w1 ⟨rfl, hb⟩
    have HB := Lib.hid hb
    clear hb
    go_wp2_with fail
    go_ret
    exact ⟨rfl, HB.out⟩
end Ls
end Go.Proofs.Ytmdconcbelmdpaa
