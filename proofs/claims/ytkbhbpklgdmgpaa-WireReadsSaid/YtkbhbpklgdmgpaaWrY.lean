/- The walk of the law WireReads. -/
import Derived.Test.YtkbhbpklgdmgpaaWrX
import Derived.Test.YtkbhbpklgdmgpaaWrS
import Derived.Laws.StructEq
namespace Go.Proofs.Ytkbhbpklgdmgpaa
open Go.RowKit
namespace Wi
open Wr
attribute [local go_sem ↓] Go.wp_at_zero Go.wp_at_succ

theorem eq_idv (a b c d : Int) (w : World) : (Op.equalIn 9999 32 (.agg #[.int .i64 a, .int .i64 b]) (.agg #[.int .i64 c, .int .i64 d])).run Try.prog w = .ok (a == c && b == d) w := by
  have u3 := Try.underlying3
  have hS : Try.prog.underlying 32 = some (.struct (Try.prog.fieldsOf 32)) := by kernel_rfl
  have hp : Try.prog.stoodInHeld 32 = false := by kernel_rfl
  rw [show (9999 : Nat) = 9998 + 1 from rfl, run_equalIn_agg w 9998 32 _ _ hS hp]
  simp only [Program.fieldsOf, Try.underlying32]
  go_simp
  by_cases h1 : a = c <;> by_cases h2 : b = d <;> simp [h1, h2]

theorem eq_item (x : It) (w : World) : (Op.equalIn 10000 34 (.agg x.cells.toArray) (.agg x.cells.toArray)).run Try.prog w = .ok true w := by
  obtain ⟨kd, n, i, s, m, q, b⟩ := x
  unfold It.cells
  have hS : Try.prog.underlying 34 = some (.struct (Try.prog.fieldsOf 34)) := by kernel_rfl
  have hp : Try.prog.stoodInHeld 34 = false := by kernel_rfl
  have e1 := fun w => eq_idv m q m q w
  rw [show (10000 : Nat) = 9999 + 1 from rfl, run_equalIn_agg w 9999 34 _ _ hS hp]
  simp only [Program.fieldsOf, Try.underlying34]
  go_simp

theorem IsRr.dat {D : Nat} {w w' : World} {g : Nat} {r : Rs} (h : IsRr D w g r) (hb : Below w.heap.size w w') : IsRr D w' g r := h.below hb

/-- the guard of a law that reads: few calls over few bytes -/
theorem doneR_self (r : Rs) : (doneR r == doneR r) = true := by simp

set_option maxRecDepth 100000 in
set_option maxHeartbeats 4000000 in
theorem reads_law (w : World) (A : Option Addr) (n ca : Nat) (l : List UInt8) (hl : l.length = n) (hnc : n ≤ ca) (hcm : ca ≤ maxLen) (hr : RB w A l)
    (K : Option Addr) (m ck : Nat) (ks : List UInt8) (hn : ks.length = m) (_hmc : m ≤ ck) (hck : ck ≤ maxLen) (hk : RB w K ks) (most : Int) (hm1 : -9223372036854775808 ≤ most) (hm2 : most ≤ 9223372036854775807) :
    Calls Try.prog 6 #[.slice A n ca, .slice K m ck, .int .i64 most] w (Tru w) := by
  have HL := Lib.hid hl
  have HR := Lib.hid hr
  have HN := Lib.hid hn
  have HK := Lib.hid hk
  have hcm' := hcm
  have hck' := hck
  unfold maxLen at hcm' hck'
  clear hl hr hn hk
  by_cases hb : 5000 < n
  · have d1 : decide ((5000 : Int) < (n : Int)) = true := by simp; omega
    go_enter Try.func6, Try.ntmps6
    go_wp2_with fail; refine (awake_calls w).mono ?_; rintro e w1 ⟨rfl, hb⟩; have B1 := Lib.hid hb; clear hb; go_wp2_with fail
    go_ret
    exact ⟨rfl, B1.out⟩
  · have d1 : decide ((5000 : Int) < (n : Int)) = false := by simp; omega
    by_cases hb2 : 30 < m
    · have d2 : decide ((30 : Int) < (m : Int)) = true := by simp; omega
      go_enter Try.func6, Try.ntmps6
      go_wp2_with fail; refine (awake_calls w).mono ?_; rintro e w1 ⟨rfl, hb⟩; have B1 := Lib.hid hb; clear hb; go_wp2_with fail
      go_ret
      exact ⟨rfl, B1.out⟩
    · have d2 : decide ((30 : Int) < (m : Int)) = false := by simp; omega
      have hn5 : n ≤ 5000 := by omega
      have hm30 : m ≤ 30 := by omega
      clear hb hb2
      go_enter Try.func6, Try.ntmps6
      go_wp2_with fail; refine (awake_calls w).mono ?_; rintro e w1 ⟨rfl, hb⟩; have B1 := Lib.hid hb; clear hb; go_wp2_with fail
      refine (newReader_calls A n ca l w1 HL.out (RB.below HR.out B1.out) (by omega)).mono ?_
      rintro e w2 ⟨g, rfl, hr2, hg2, hb2⟩
      have B2 := Lib.hid (B1.out.trans (hb2.mono B1.out.size))
      have RD2 := Lib.hid hr2
      have hgw : w.heap.size ≤ g := by have := B1.out.size; omega
      have hg2' := hr2.lt
      clear hb2 hr2 hg2
      go_wp2_with fail
      have hM := heap_alloc_new w2 (.cells #[.slice A n ca, .int .i64 0] 47)
      have hb3 := below1 w2 (.cells #[.slice A n ca, .int .i64 0] 47)
      generalize w2.alloc (.cells #[.slice A n ca, .int .i64 0] 47) = w3 at *
      have RD3 := Lib.hid (RD2.out.below hb3)
      have B3 := Lib.hid (B2.out.trans (hb3.mono B2.out.size))
      have RR3 : Hid (IsRr w.heap.size w3 w2.heap.size ⟨l, 0⟩) :=
        ⟨A, ca, by show _ = some (Obj.cells #[.slice A l.length ca, .int .i64 0] _ _); rw [HL.out]; exact hM, by show l.length ≤ ca; rw [HL.out]; exact hnc, hcm, RB.below HR.out B3.out, fun hp b off e => RB.lt HR.out hp b off e, B2.out.size⟩
      have hgM : g < w2.heap.size := hg2'
      have hMw : w.heap.size ≤ w2.heap.size := B2.out.size
      clear hM hb3 RD2 B2 hg2'
      generalize w2.heap.size = M at *
      go_loopw [9] (fun i wr => ∃ k : Nat, k ≤ m ∧ i = .int .i64 k ∧ ∃ r, IsRd wr g r ∧ IsRr w.heap.size wr M r ∧ Below w.heap.size w wr) (fun i _ => m - (intOf i).toNat)
      case atStart => exact ⟨0, by omega, rfl, _, RD3.out, RR3.out, B3.out⟩
      case round =>
        obtain ⟨k, hk, rfl, r, hrd, hrr, hb⟩ := hrel
        have HB := Lib.hid hb
        by_cases hlt : k < m
        · have hkl : k < ks.length := by rw [HN.out]; exact hlt
          obtain ⟨b, off, rfl, hbw, hc⟩ := (RB.cells HK.out (by omega))
          have hck0 := hc k hkl
          have kd0 : w.cell? ⟨b, off + k, none⟩ = some (vb ks[k]) := hck0
          generalize ks[k] = kd at *
          obtain ⟨vi, r2, HV⟩ : ∃ v r2, Hid (readR (kd.toNat % 6) most r = (v, r2)) := ⟨_, _, rfl⟩
          have kc : ∀ w', Chg [g, M] wr w' → w'.cell? ⟨b, off + k, none⟩ = some (vb kd) := by
            intro w' h
            have h1 : Below w.heap.size w w' := HB.out.trans (h.below HB.out.size (by simp; omega))
            exact (h1.cell (p := ⟨b, off + k, none⟩) hbw).trans kd0
          have HE := Lib.hid (fun w' => eq_item vi w')
          have HC1 : Hid (∀ w', Chg [g, M] wr w' → IsRd w' g r → Calls Try.prog 22 #[.pointer (some ⟨g, 0, none⟩), vb kd, .int .i64 most] w' (DP w' g (.agg vi.cells.toArray) r2)) := by
            intro w' _ h
            have := read_calls g r kd most w' h hm1 hm2
            rw [HV.out] at this; exact this
          have HC2 : Hid (∀ w', IsRr w.heap.size w' M r → Calls Try.prog 23 #[.pointer (some ⟨M, 0, none⟩), vb kd, .int .i64 most] w' (RP w.heap.size w' M (.agg vi.cells.toArray) r2)) := by
            intro w' h
            have := expect_calls (D := w.heap.size) M r kd most w' h hm1 hm2
            rw [HV.out] at this; exact this
          have HRD := Lib.hid hrd
          have HRR := Lib.hid hrr
          have i0 : (0 : Int) ≤ (k : Int) := by omega
          have i1 : (k : Int) < (m : Int) := by omega
          obtain ⟨N2, HN2⟩ : ∃ x, Hid (x = r2.l.length) := ⟨_, rfl⟩
          have HLE : Hid (∀ w', IsRd w' g r2 → Calls Try.prog 21 #[.pointer (some ⟨g, 0, none⟩)] w' fun e w'' => e = .returned (.int .i64 (N2 : Int)) ∧ w' = w'') := fun w' h => by rw [HN2.out]; exact left_calls g r2 w' h
          have heq : ∀ w', (Op.equalIn 10000 34 (.agg vi.cells.toArray) (.agg vi.cells.toArray)).run Try.prog w' = .ok true w' := HE.out
          have hgd : Try.prog.eqGuardType Try.prog.depth 34 = false := by kernel_rfl
          clear hc hck0 hrd hrr hb HE
          generalize vi.cells.toArray = C at *
          go_upto_region 9 with fail
          have hd0 : Chg [g, M] wr wr.drew := (Chg.refl [g, M] wr).drew
          have kd1 := kc _ hd0
          have HKC := Lib.hid kc
          have HD0 := Lib.hid hd0
          clear kc hd0
          go_cut [62] (fun v wx => v = .bool false ∧ IsRd wx g r2 ∧ IsRr w.heap.size wx M r2 ∧ Below w.heap.size w wx)
          case first =>
            go_region_with (first | (go_at_call 22; refine (HC1.out _ HD0.out (HRD.out.below (below_drew _))).mono ?_; rintro e w4 ⟨rfl, hr4, hc4⟩; have HR4 := Lib.hid hr4; have HC4 := Lib.hid (HD0.out.trans' (hc4.mono (S' := [g, M]) (by simp))); have HRR4 := Lib.hid ((HRR.out.below (below_drew _)).chg hc4 (by simp; omega)); have kd4 := HKC.out w4 HC4.out; clear hr4 hc4) | (go_at_call 23; refine (HC2.out _ HRR4.out).mono ?_; rintro e w5 ⟨rfl, hr5, hc5⟩; have HC5 := Lib.hid (HC4.out.trans' (hc5.mono (S' := [g, M]) (by simp))); have HR5 := Lib.hid (HR4.out.chg hc5 (by simp; omega)); have HRR5 := Lib.hid hr5; obtain ⟨AX, cX, hgX, hrest⟩ := hr5; have m5 : w5.cell? ⟨M, 0, none⟩ = some (.slice AX N2 cX) := (by rw [HN2.out]; exact (cell_of_row _ _ 0 _ _ _ hgX).trans rfl); clear hrest hc5 hgX) | (go_at_call 21; refine (HLE.out _ HR5.out).mono ?_; rintro e w6 ⟨rfl, rfl⟩) | (go_at_call 19; refine (done_calls g r2 _ HR5.out).mono ?_; rintro e w6 ⟨rfl, rfl⟩) | (go_at_call 24; refine (rdDone_calls M r2 _ HRR5.out).mono ?_; rintro e w6 ⟨rfl, rfl⟩))
            all_goals
              go_wp2_with fail
              go_meet
              exact ⟨rfl, HR5.out, HRR5.out, HB.out.trans (HC5.out.below HB.out.size (by simp; omega))⟩
          case rest =>
          obtain ⟨hv, h1, h2, h3⟩ := hcut
          subst hv
          have HR6 := Lib.hid h1
          have HRR6 := Lib.hid h2
          have HB6 := Lib.hid h3
          clear h1 h2 h3
          go_wp2_with fail
          go_roundw
          case rel => exact ⟨k + 1, by omega, by go_num, r2, HR6.out, HRR6.out, HB6.out⟩
          case measure => simp [intOf]; omega
        · go_wp2_with fail
          go_ret
          exact ⟨rfl, HB.out⟩
end Wi
end Go.Proofs.Ytkbhbpklgdmgpaa
