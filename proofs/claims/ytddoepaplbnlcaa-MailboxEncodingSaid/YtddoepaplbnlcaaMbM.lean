/- The walk of slices.Compact over identities. -/
import Derived.Test.YtddoepaplbnlcaaMbL
namespace Go.Proofs.Ytddoepaplbnlcaa
open Go.RowKit Go.Shelf
namespace Mb

def CompP (B : Nat) (v : Value) (l : List (Int × Int)) (w : World) (e : Ending) (w' : World) : Prop := ∃ A c, e = .returned (.slice A l.length c) ∧ w'.ownsRow B 30 2 (.slice A l.length c) l.length (cells2 l) ∧ App w v w' (.slice A l.length c)
theorem chg2 (w : World) (g d : Nat) (u0 u1 : Value) : Chg [g] w ((w.setCell ⟨g, d * 2, none⟩ u0).setCell ⟨g, d * 2 + 1, none⟩ u1) :=
  ((Chg.refl [g] w).setCell (p := ⟨g, d * 2, none⟩) (.inl List.mem_cons_self) u0).setCell (p := ⟨g, d * 2 + 1, none⟩) (.inl List.mem_cons_self) u1
theorem CmpR.same1 {B g n c k d k1 : Nat} {l : List (Int × Int)} {wr : World} (h : CmpR B g n c l k d wr) (hk : k < l.length) (h1 : k1 < l.length) (e : k = k1 + 1) (he : l[k] = l[k1]) : CmpR B g n c l (k + 1) d wr := by
  subst e; exact h.same hk he
theorem CmpR.next1 {B g n c k d k1 : Nat} {l : List (Int × Int)} {wr : World} (h : CmpR B g n c l k d wr) (hk : k < l.length) (h1 : k1 < l.length) (e : k = k1 + 1) (he : l[k] ≠ l[k1]) :
    CmpR B g n c l (k + 1) (d + 1) ((wr.setCell ⟨g, d * 2, none⟩ (.int .i64 l[k].1)).setCell ⟨g, d * 2 + 1, none⟩ (.int .i64 l[k].2)) := by
  subst e; exact h.next hk he
set_option maxRecDepth 100000 in
set_option maxHeartbeats 4000000 in
theorem compact_calls (B n c : Nat) (A : Option Addr) (l : List (Int × Int)) (w : World) (ho : w.ownsRow B 30 2 (.slice A n c) n (cells2 l)) (hn : n ≤ 1000000) (hl : l.length = n) :
    Calls Try.prog 45 #[.slice A n c] w (CompP B (.slice A n c) (dedup l) w) := by
  by_cases h2 : n < 2
  · have HP : Hid (CompP B (.slice A n c) (dedup l) w (.returned (.slice A n c)) w) := Lib.hid (by
      rw [dedup_small l (by omega)]
      exact ⟨A, c, by rw [hl], by rw [hl]; exact ho, by rw [hl]; exact App.refl _ _⟩)
    have d1 : (n : Int) < 2 := by omega
    clear ho hl
    go_enter Try.func45, Try.ntmps45
    go_wp2_with fail
    go_ret
    exact HP.out
  · obtain ⟨g, c', he, hBg, hnc, hcm, hgl⟩ := own_some ho (by omega)
    cases he
    have hcm' := hcm
    unfold maxLen at hcm'
    have HO := Lib.hid ho
    have HL := Lib.hid hl
    clear ho hl
    go_enter Try.func45, Try.ntmps45
    go_wp2_with fail
    go_loopw [3] (fun i wr => ∃ k : Nat, 1 ≤ k ∧ k ≤ n ∧ i = .int .i64 k ∧ dedup (l.take k) = l.take k ∧ wr.ownsRow B 30 2 (.slice (some ⟨g, 0, none⟩) n c) n (cells2 l) ∧ Chg [g] w wr) (fun i _ => n - (intOf i).toNat)
    case atStart => exact ⟨1, by omega, by omega, rfl, dedup_small _ (by rw [List.length_take]; omega), HO.out, Chg.refl _ _⟩
    case round =>
      obtain ⟨k, hk1, hk, rfl, hdd, hrow, hcg⟩ := hrel
      have HDD := Lib.hid hdd
      have HRW := Lib.hid hrow
      have HCG := Lib.hid hcg
      clear hdd hrow hcg
      have j0 : (0 : Int) ≤ (k : Int) := by omega
      have j2 : (1 : Int) ≤ (k : Int) := by omega
      by_cases hlt : k < n
      · have j1 : (k : Int) < (n : Int) := by omega
        have hkl : k < l.length := by have := HL.out; omega
        have hkl1 : k - 1 < l.length := by omega
        obtain ⟨_, _, _, _, _, _, hrd⟩ := own_formS HRW.out
        have hc1 := fun (j : Nat) (hj : j < l.length) => And.intro (own_cells HRW.out (j * 2) _ (flat_get idC_len l j 0 hj (by omega))).1 (own_cells HRW.out (j * 2 + 1) _ (flat_get idC_len l j 1 hj (by omega))).1
        obtain ⟨x0, x1⟩ := hc1 k hkl
        obtain ⟨y0, y1⟩ := hc1 (k - 1) hkl1
        have HT := Lib.hid (dedup_take l k hk1 hkl)
        have HE := Lib.hid (eq_pair l[k] l[k - 1])
        have HT2 : Hid (l[k] ≠ l[k - 1] → dedup (l.take (k + 1)) = l.take (k + 1)) := Lib.hid fun h => by rw [HT.out, if_neg h, HDD.out, List.take_succ_eq_append_getElem hkl]
        have HT3 : Hid (l[k] = l[k - 1] → ∀ w', Chg [] wr w' → CmpR B g n c l (k + 1) k w') := Lib.hid fun h w' hb => by
          have e := HT.out
          rw [if_pos h, HDD.out] at e
          refine ⟨by rw [e, List.length_take]; omega, by omega, ?_⟩
          rw [e, List.take_append_drop]
          exact hb.ownS HRW.out (by simp)
        obtain ⟨b, HB⟩ : ∃ b, Hid (decide (l[k] = l[k - 1]) = b) := ⟨decide (l[k] = l[k - 1]), rfl⟩
        rw [HB.out] at HE
        have hw1 : IntKind.i64.wrap ((k : Int) - 1) = (k : Int) - 1 := IntWalk.i64_in _ (by omega)
        have hw2 : ((k : Int) - 1).toNat = k - 1 := by omega
        have hw3 : (0 : Int) ≤ (k : Int) - 1 := by omega
        have heq := HE.out
        clear hc1 hrd HT
        generalize l[k] = zk at *
        generalize l[k - 1] = zj at *
        cases b with
        | false =>
          have HT4 := Lib.hid (HT2.out (of_decide_eq_false HB.out))
          clear HT2 HT3 HB
          go_wp2_with fail
          go_quiet (fail)
          clear hw1 hw2 hw3 heq
          have HR2 : Hid ((wr.drewN nq).ownsRow B 30 2 (.slice (some ⟨g, 0, none⟩) n c) n (cells2 l)) := HRW.out
          have HC2 := Lib.hid (HCG.out.drewN nq)
          go_wp2_with fail
          go_roundw
          case rel => exact ⟨k + 1, by omega, by omega, by go_num, HT4.out, HR2.out, HC2.out⟩
          case measure => simp [intOf]; omega
        | true =>
          have HT4 := Lib.hid (HT3.out (of_decide_eq_true HB.out))
          clear HT2 HT3 HB
          go_wp2_with fail
          go_quiet (fail)
          clear hw1 hw2 hw3 heq
          have HR2 := Lib.hid (HT4.out (wr.drewN nq) ((Chg.refl [] wr).drewN nq))
          have HC2 := Lib.hid (HCG.out.drewN nq)
          generalize wr.drewN nq = wq at *
          clear x0 x1 y0 y1 HT4 HRW HCG HO HDD
          obtain ⟨m, rfl⟩ : ∃ m, n = k + m := ⟨n - k, by omega⟩
          have hm1 : 1 ≤ m := by omega
          clear j0 j1 j2 HE hlt
          have hcs : ∀ w' : World, (Instr.slice 53 (.slice (some ⟨g, 0, none⟩) (k + m) c) (some (.int .i64 k)) none none).run Try.prog w' = .ok (.slice (some ⟨g, k * 2, none⟩) m (c - k)) w' := fun w' => by
            have h := run_cutS_l Try.underlying53 elem_i size_i (some ⟨g, 0, none⟩) (k + m) c k (by omega) w'
            rwa [cutS_some _ _ _ _ (by omega), show k + m - k = m by omega] at h
          go_wp2_with fail
          obtain ⟨wo, rfl⟩ : ∃ wo : World, wo = wr := ⟨_, rfl⟩
          go_loopw [3, 5] (fun i j wr => ∃ jj d : Nat, 1 ≤ jj ∧ jj ≤ m ∧ i = .int .i64 d ∧ j = .int .i64 jj ∧ CmpR B g (k + m) c l (k + jj) d wr ∧ Chg [g] w wr) (fun _ j _ => m - (intOf j).toNat)
          case atStart => exact ⟨1, k, by omega, by omega, rfl, rfl, HR2.out, HC2.out⟩
          case round =>
            obtain ⟨jj, d, hj1, hjm, rfl, rfl, hcr, hcg⟩ := hrel
            have HCR := Lib.hid hcr
            have HCG := Lib.hid hcg
            have hd1 := hcr.2.1
            clear hcr hcg
            have j0 : (0 : Int) ≤ (jj : Int) := by omega
            have j2 : (1 : Int) ≤ (jj : Int) := by omega
            by_cases hlt : jj < m
            · have j1 : (jj : Int) < (m : Int) := by omega
              have hjl : k + jj < l.length := by have := HL.out; omega
              have hjl1 : k + (jj - 1) < l.length := by omega
              obtain ⟨x0, x1⟩ := HCR.out.get (k + jj) (by omega) hjl
              obtain ⟨y0, y1⟩ := HCR.out.get (k + (jj - 1)) (by omega) hjl1
              have HSA := Lib.hid (fun (w' : World) (h : CmpR B g (k + m) c l (k + jj) d w') => h.same1 hjl hjl1 (by omega))
              have HNX := Lib.hid (fun (w' : World) (h : CmpR B g (k + m) c l (k + jj) d w') => h.next1 hjl hjl1 (by omega))
              have HE := Lib.hid (eq_pair l[k + jj] l[k + (jj - 1)])
              obtain ⟨b, HB⟩ : ∃ b, Hid (decide (l[k + jj] = l[k + (jj - 1)]) = b) := ⟨decide (l[k + jj] = l[k + (jj - 1)]), rfl⟩
              rw [HB.out] at HE
              have heq := HE.out
              generalize l[k + jj] = zk at *
              generalize l[k + (jj - 1)] = zj at *
              rw [show (k + jj) * 2 = k * 2 + jj * 2 by omega] at x0 x1
              rw [show (k + (jj - 1)) * 2 = k * 2 + (jj - 1) * 2 by omega] at y0 y1
              have hw1 : IntKind.i64.wrap ((jj : Int) - 1) = (jj : Int) - 1 := IntWalk.i64_in _ (by omega)
              have hw2 : ((jj : Int) - 1).toNat = jj - 1 := by omega
              have hw3 : (0 : Int) ≤ (jj : Int) - 1 := by omega
              cases b with
              | true =>
                go_wp2_with fail
                go_quiet (fail)
                clear hw1 hw2 hw3 heq
                have HR3 := Lib.hid (HSA.out _ HCR.out (of_decide_eq_true HB.out))
                have HR4 : Hid (CmpR B g (k + m) c l (k + (jj + 1)) d (wr.drewN nq)) := HR3.out
                have HC4 := Lib.hid (HCG.out.drewN nq)
                go_wp2_with fail
                go_roundw
                case rel => exact ⟨jj + 1, d, by omega, by omega, rfl, by go_num, HR4.out, HC4.out⟩
                case measure => simp [intOf]; omega
              | false =>
                go_wp2_with fail
                go_quiet (fail)
                clear hw1 hw2 hw3 heq
                have HCR2 : Hid (CmpR B g (k + m) c l (k + jj) d (wr.drewN nq)) := HCR.out
                have HR3 := Lib.hid (HNX.out _ HCR2.out (of_decide_eq_false HB.out))
                have HR4 : Hid (CmpR B g (k + m) c l (k + (jj + 1)) (d + 1) (((wr.drewN nq).setCell ⟨g, d * 2, none⟩ (.int .i64 zk.1)).setCell ⟨g, d * 2 + 1, none⟩ (.int .i64 zk.2))) := HR3.out
                have HC4 := Lib.hid ((HCG.out.drewN nq).trans' (chg2 (wr.drewN nq) g d (.int .i64 zk.1) (.int .i64 zk.2)))
                obtain ⟨v0, cg0, fg0⟩ := HCR2.out.free (d * 2 + 0) (by omega)
                obtain ⟨v1, cg1, fg1⟩ := HCR2.out.free (d * 2 + 1) (by omega)
                simp only [Nat.add_zero] at cg0 fg0
                have x0' : (wr.drewN nq).cell? ⟨g, k * 2 + jj * 2, none⟩ = some (.int .i64 zk.1) := x0
                have x1' : (wr.drewN nq).cell? ⟨g, k * 2 + jj * 2 + 1, none⟩ = some (.int .i64 zk.2) := x1
                generalize wr.drewN nq = wq2 at *
                have j5 : (0 : Int) ≤ (d : Int) := by omega
                have j6 : (d : Int) < ((k + m : Nat) : Int) := by omega
                clear x0 x1 y0 y1
                go_wp2_with fail
                go_roundw
                case rel => exact ⟨jj + 1, d + 1, by omega, by omega, by go_num, by go_num, HR4.out, HC4.out⟩
                case measure => simp [intOf]; omega
            · obtain rfl : jj = m := by omega
              obtain ⟨h1, h2', h3⟩ := HCR.out
              rw [List.take_of_length_le (Nat.le_of_eq HL.out)] at h1 h3
              have h4 := own_less h3 rfl d (by omega) (fun h => by omega)
              have e4 : (cells2 (dedup l ++ l.drop d)).take (d * 2) = cells2 (dedup l) := by
                have := flat_take idC_len (dedup l ++ l.drop d) d (by rw [List.length_append, h1]; omega)
                refine this.trans ?_
                rw [List.take_append_of_le_length (Nat.le_of_eq h1.symm), List.take_of_length_le (Nat.le_of_eq h1)]
                rfl
              rw [e4] at h4
              obtain ⟨w2, hr2, ho3, hw2⟩ := run_clearTail (P := Try.prog) 53 zI Try.underlying53 zero_i rfl zI_one h4 (k + jj - d) (by omega) (by omega)
              have HP : Hid (CompP B (.slice (some ⟨g, 0, none⟩) (k + jj) c) (dedup l) w (.returned (.slice (some ⟨g, 0, none⟩) d c)) w2) := by
                refine ⟨_, c, by rw [h1], ?_, ?_⟩
                · rw [h1]; exact ho3
                · rw [h1]
                  have hcg := HCG.out
                  exact ⟨⟨hw2.os.trans hcg.os, hw2.tape.trans hcg.tape, hw2.output.trans hcg.output, by rw [hw2.size]; exact hcg.size, fun m hm hne => (hw2.block m hne).trans (hcg.block m hm (fun hmm => hne (by simp only [List.mem_singleton] at hmm; rw [hmm]; rfl)))⟩, .inl rfl⟩
              have hc1 : ∀ w' : World, (Instr.slice 53 (.slice (some ⟨g, 0, none⟩) (k + jj) c) (some (.int .i64 d)) none none).run Try.prog w' = .ok (.slice (some ⟨g, d * 2, none⟩) (k + jj - d) (c - d)) w' := fun w' => by
                have h := run_cutS_l Try.underlying53 elem_i size_i (some ⟨g, 0, none⟩) (k + jj) c d (by omega) w'
                rwa [cutS_some _ _ _ _ (by omega)] at h
              have hc2 : ∀ w' : World, (Instr.slice 53 (.slice (some ⟨g, 0, none⟩) (k + jj) c) none (some (.int .i64 d)) none).run Try.prog w' = .ok (.slice (some ⟨g, 0, none⟩) d c) w' := fun w' => run_cutS_h Try.underlying53 elem_i (some ⟨g, 0, none⟩) (k + jj) c d (by omega) size_i w'
              have HR3 := Lib.hid hr2
              clear h1 h2' h3 h4 e4 hr2 ho3 hw2 hcs
              go_wp2_with (refine wpList_clear_run wr (by rfl) _ 53 (by rfl) _ (by rfl) (HR3.out _ _) ?_)
              go_ret
              exact HP.out
      · obtain rfl : k = n := by omega
        have e : dedup l = l := by
          have := HDD.out
          rwa [List.take_of_length_le (Nat.le_of_eq HL.out)] at this
        have HP : Hid (CompP B (.slice (some ⟨g, 0, none⟩) k c) (dedup l) w (.returned (.slice (some ⟨g, 0, none⟩) k c)) wr) := Lib.hid (by
          rw [e]
          have hcg := HCG.out
          exact ⟨_, c, by rw [HL.out], by rw [HL.out]; exact HRW.out, by rw [HL.out]; exact ⟨⟨hcg.os, hcg.tape, hcg.output, hcg.size, fun m hm hne => hcg.block m hm (fun hmm => hne (by simp only [List.mem_singleton] at hmm; rw [hmm]; rfl))⟩, .inl rfl⟩⟩)
        clear e
        go_wp2_with fail
        go_ret
        exact HP.out
end Mb
end Go.Proofs.Ytddoepaplbnlcaa
