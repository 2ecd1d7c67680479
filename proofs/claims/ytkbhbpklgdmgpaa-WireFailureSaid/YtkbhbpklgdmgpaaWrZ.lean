/- The walk of the law WireFailure. -/
import Derived.Test.YtkbhbpklgdmgpaaWrW
import Derived.Test.YtkbhbpklgdmgpaaWrS
import Derived.Laws.StructEq
namespace Go.Proofs.Ytkbhbpklgdmgpaa
open Go.RowKit
namespace Wi
open Wr
attribute [local go_sem ↓] Go.wp_at_zero Go.wp_at_succ

theorem eq_idz (a b c d : Int) (w : World) : (Op.equalIn 9999 32 (.agg #[.int .i64 a, .int .i64 b]) (.agg #[.int .i64 c, .int .i64 d])).run Try.prog w = .ok (a == c && b == d) w := by
  have u3 := Try.underlying3
  have hS : Try.prog.underlying 32 = some (.struct (Try.prog.fieldsOf 32)) := by kernel_rfl
  have hp : Try.prog.stoodInHeld 32 = false := by kernel_rfl
  rw [show (9999 : Nat) = 9998 + 1 from rfl, run_equalIn_agg w 9998 32 _ _ hS hp]
  simp only [Program.fieldsOf, Try.underlying32]
  go_simp
  by_cases h1 : a = c <;> by_cases h2 : b = d <;> simp [h1, h2]

theorem eq_zero (k : Int) (w : World) : (Op.equalIn 10000 34 (.agg #[.int .u8 k, .int .u64 0, .int .i64 0, .string ⟨#[]⟩, .int .i64 0, .int .i64 0, .bool false]) (.agg #[.int .u8 k, .int .u64 0, .int .i64 0, .string ⟨#[]⟩, .int .i64 0, .int .i64 0, .bool false])).run Try.prog w = .ok true w := by
  have hS : Try.prog.underlying 34 = some (.struct (Try.prog.fieldsOf 34)) := by kernel_rfl
  have hp : Try.prog.stoodInHeld 34 = false := by kernel_rfl
  have e1 := fun w => eq_idz 0 0 0 0 w
  rw [show (10000 : Nat) = 9999 + 1 from rfl, run_equalIn_agg w 9999 34 _ _ hS hp]
  simp only [Program.fieldsOf, Try.underlying34]
  go_simp

theorem readR_fail (k : Nat) (most : Int) (r : Rs) (h : r.e ≠ 0) : readR k most r = (⟨UInt8.ofNat k, 0, 0, ⟨#[]⟩, 0, 0, false⟩, r) ∨ 6 ≤ k := by
  have hu : uintR r = (0, r) := uintR_err r h
  have h2 : stringR r = ([], r) := by unfold stringR; rw [hu, if_pos h]
  have h3 : idR r = ((0, 0), r) := by unfold idR; rw [hu]; simp only [hu]; rw [if_pos (.inl h)]
  have h4 : boolR r = (false, r) := by unfold boolR; rw [if_pos h]
  have h5 : countR most r = (0, r) := by unfold countR; rw [hu, if_pos h]
  by_cases hk : 6 ≤ k
  · exact .inr hk
  · left
    have hcase : k = 0 ∨ k = 1 ∨ k = 2 ∨ k = 3 ∨ k = 4 ∨ k = 5 := by omega
    rcases hcase with rfl | rfl | rfl | rfl | rfl | rfl
    · show (_, _) = _; rw [hu]; rfl
    · show (_, _) = _; rw [hu]; simp [unzig]
    · show (_, _) = _; rw [h2]
    · show (_, _) = _; rw [h3]; rfl
    · show (_, _) = _; rw [h4]
    · show (_, _) = _; rw [h5]; rfl

def FRel (w : World) (g : Nat) (F : Int) (r : Rs) (wr : World) : Prop := IsRd wr g r ∧ Below w.heap.size w wr ∧ (F = 0 ∨ (F ≠ 0 ∧ r.l = [] ∧ r.e = F))

set_option maxRecDepth 100000 in
set_option maxHeartbeats 2000000 in
theorem failure_law (w : World) (A : Option Addr) (n ca : Nat) (l : List UInt8) (hl : l.length = n) (_hnc : n ≤ ca) (hcm : ca ≤ maxLen) (hr : RB w A l)
    (K : Option Addr) (m ck : Nat) (ks : List UInt8) (hn : ks.length = m) (_hmc : m ≤ ck) (hck : ck ≤ maxLen) (hk : RB w K ks) (most : Int) (hm1 : -9223372036854775808 ≤ most) (hm2 : most ≤ 9223372036854775807) :
    Calls Try.prog 7 #[.slice A n ca, .slice K m ck, .int .i64 most] w (Tru w) := by
  have HL := Lib.hid hl
  have HR := Lib.hid hr
  have HN := Lib.hid hn
  have HK := Lib.hid hk
  have hcm' := hcm
  have hck' := hck
  unfold maxLen at hcm' hck'
  clear hl hr hn hk
  by_cases hb : 5000 < n
  · have d1 : decide ((5000 : Int) < (n : Int)) = true := by simp; omega
    go_enter Try.func7, Try.ntmps7
    go_wp2_with fail; refine (awake_calls w).mono ?_; rintro e w1 ⟨rfl, hb⟩; have B1 := Lib.hid hb; clear hb; go_wp2_with fail
    go_ret
    exact ⟨rfl, B1.out⟩
  · have d1 : decide ((5000 : Int) < (n : Int)) = false := by simp; omega
    by_cases hb2 : 30 < m
    · have d2 : decide ((30 : Int) < (m : Int)) = true := by simp; omega
      go_enter Try.func7, Try.ntmps7
      go_wp2_with fail; refine (awake_calls w).mono ?_; rintro e w1 ⟨rfl, hb⟩; have B1 := Lib.hid hb; clear hb; go_wp2_with fail
      go_ret
      exact ⟨rfl, B1.out⟩
    · have d2 : decide ((30 : Int) < (m : Int)) = false := by simp; omega
      have hn5 : n ≤ 5000 := by omega
      clear hb hb2
      go_enter Try.func7, Try.ntmps7
      go_wp2_with fail; refine (awake_calls w).mono ?_; rintro e w1 ⟨rfl, hb⟩; have B1 := Lib.hid hb; clear hb; go_wp2_with fail
      refine (newReader_calls A n ca l w1 HL.out (RB.below HR.out B1.out) (by omega)).mono ?_
      rintro e w2 ⟨g, rfl, hr2, hg2, hb2⟩
      have B2 := Lib.hid (B1.out.trans (hb2.mono B1.out.size))
      have RD2 := Lib.hid hr2
      have hgw : w.heap.size ≤ g := by have := B1.out.size; omega
      clear hb2 hr2 hg2
      go_wp2_with fail
      go_loopw [8, 9] (fun f i wr => ∃ k : Nat, ∃ F : Int, ∃ r, k ≤ m ∧ i = .int .i64 k ∧ f = .int .i64 F ∧ FRel w g F r wr) (fun _ i _ => m - (intOf i).toNat)
      case atStart => exact ⟨0, 0, _, by omega, rfl, rfl, RD2.out, B2.out, .inl rfl⟩
      case round =>
        obtain ⟨k, F, r, hk, rfl, rfl, hrd, hb, hF⟩ := hrel
        have HB := Lib.hid hb
        have HRD := Lib.hid hrd
        have HFF := Lib.hid hF
        by_cases hlt : k < m
        · have hkl : k < ks.length := by rw [HN.out]; exact hlt
          obtain ⟨b, off, rfl, hbw, hc⟩ := (RB.cells HK.out (by omega))
          have kd0 : w.cell? ⟨b, off + k, none⟩ = some (vb ks[k]) := hc k hkl
          generalize ks[k] = kd at *
          have hkd := kd.toNat_lt
          have kc : wr.cell? ⟨b, off + k, none⟩ = some (vb kd) := (hb.cell (p := ⟨b, off + k, none⟩) hbw).trans kd0
          have HKD := Lib.hid kd0
          have i0 : (0 : Int) ≤ (k : Int) := by omega
          have i1 : (k : Int) < (m : Int) := by omega
          clear hc kd0 hrd hb hF
          have HC1 := Lib.hid (read_calls g r kd most wr HRD.out hm1 hm2)
          by_cases hF0 : F = 0
          · subst hF0
            obtain ⟨⟨k', n', i', s', m', q', b'⟩, r2, HV⟩ : ∃ v r2, Hid (readR (kd.toNat % 6) most r = (v, r2)) := ⟨_, _, rfl⟩
            rw [HV.out] at HC1
            unfold It.val It.cells at HC1
            simp only at HC1
            go_wp2_with fail
            refine HC1.out.mono ?_
            rintro e w3 ⟨rfl, hr3, hc3⟩
            have HR3 := Lib.hid hr3
            have HB3 := Lib.hid (HB.out.trans (hc3.below HB.out.size (by simp; omega)))
            clear hr3 hc3 kc
            go_wp2_with fail
            have hb4 := below1 w3 (.cells #[vb k', .int .u64 (n'.toNat : Int), .int .i64 i', .string s', .int .i64 m', .int .i64 q', .bool b'] 34)
            generalize w3.alloc (.cells #[vb k', .int .u64 (n'.toNat : Int), .int .i64 i', .string s', .int .i64 m', .int .i64 q', .bool b'] 34) = w4 at *
            have HR4 := Lib.hid (HR3.out.below hb4)
            have HB4 := Lib.hid (HB3.out.trans (hb4.mono HB3.out.size))
            clear hb4
            obtain ⟨D, HD⟩ : ∃ x, Hid (x = doneR r2) := ⟨_, rfl⟩
            obtain ⟨N2, HN2⟩ : ∃ x, Hid (x = r2.l.length) := ⟨_, rfl⟩
            have HLE : Hid (∀ w', IsRd w' g r2 → Calls Try.prog 21 #[.pointer (some ⟨g, 0, none⟩)] w' fun e w'' => e = .returned (.int .i64 (N2 : Int)) ∧ w' = w'') := fun w' h => by rw [HN2.out]; exact left_calls g r2 w' h
            have HDO : Hid (∀ w', IsRd w' g r2 → Calls Try.prog 19 #[.pointer (some ⟨g, 0, none⟩)] w' fun e w'' => e = .returned (.int .i64 D) ∧ w' = w'') := fun w' h => by rw [HD.out]; exact done_calls g r2 w' h
            go_quiet (fail)
            go_wp2_with fail
            have HR5 : Hid (IsRd (w4.drewN nq) g r2) := HR4.out.below (blw_drewN (Below.refl _ _) _)
            have HB5 : Hid (Below w.heap.size w (w4.drewN nq)) := blw_drewN HB4.out _
            generalize w4.drewN nq = w5 at *
            refine (HDO.out w5 HR5.out).mono ?_
            rintro e w6 ⟨rfl, rfl⟩
            by_cases hD : D = 0
            · have q1 : (D != 0) = false := by simpa using hD
              clear hD
              go_wp2_with fail
              go_roundw
              case rel => exact ⟨k + 1, 0, r2, by omega, by go_num, rfl, HR5.out, HB5.out, .inl rfl⟩
              case measure => simp [intOf]; omega
            · have q1 : (D != 0) = true := by simpa using hD
              have HDN := Lib.hid hD
              clear hD
              by_cases hN : N2 = 0
              · have HNN := Lib.hid hN
                have q2 : ((N2 : Int) == 0) = true := by rw [beq_iff_eq]; omega
                have HE : Hid (r2.l = [] ∧ r2.e = D) := by
                  have h1 : r2.l.length = 0 := HN2.out.symm.trans HNN.out
                  refine ⟨List.eq_nil_of_length_eq_zero h1, ?_⟩
                  rw [HD.out]; unfold doneR; rw [if_neg (by omega)]
                clear hN
                go_wp2_with (go_at_call 21; refine (HLE.out _ HR5.out).mono ?_; rintro e w6 ⟨rfl, rfl⟩)
                go_roundw
                case rel => exact ⟨k + 1, D, r2, by omega, by go_num, rfl, HR5.out, HB5.out, .inr ⟨HDN.out, HE.out⟩⟩
                case measure => simp [intOf]; omega
              · have q2 : ((N2 : Int) == 0) = false := by rw [beq_eq_false_iff_ne]; omega
                clear hN
                go_wp2_with (go_at_call 21; refine (HLE.out _ HR5.out).mono ?_; rintro e w6 ⟨rfl, rfl⟩)
                go_roundw
                case rel => exact ⟨k + 1, 0, r2, by omega, by go_num, rfl, HR5.out, HB5.out, .inl rfl⟩
                case measure => simp [intOf]; omega
          · have q0 : (F != 0) = true := by simpa using hF0
            have q0' : (F == 0) = false := by simpa using hF0
            have HE : Hid (r.l = [] ∧ r.e = F) := by
              rcases HFF.out with h | h
              · exact absurd h hF0
              · exact h.2
            have HNF := Lib.hid hF0
            have HV : Hid (readR (kd.toNat % 6) most r = (⟨UInt8.ofNat (kd.toNat % 6), 0, 0, ⟨#[]⟩, 0, 0, false⟩, r)) := by
              rcases readR_fail (kd.toNat % 6) most r (by rw [HE.out.2]; exact hF0) with h | h
              · exact h
              · omega
            have HKV : Hid (vb (UInt8.ofNat (kd.toNat % 6)) = .int .u8 ((kd.toNat : Int) % 6)) := by
              show Value.int .u8 ((UInt8.ofNat (kd.toNat % 6)).toNat : Int) = _
              rw [UInt8.toNat_ofNat', Nat.mod_eq_of_lt (by omega)]; rfl
            rw [HV.out] at HC1
            unfold It.val It.cells at HC1
            simp only at HC1
            rw [HKV.out, show vw 0 = .int .u64 0 from rfl] at HC1
            have HLE : Hid (∀ w', IsRd w' g r → Calls Try.prog 21 #[.pointer (some ⟨g, 0, none⟩)] w' fun e w'' => e = .returned (.int .i64 0) ∧ w' = w'') := fun w' h => by
              have := left_calls g r w' h; rw [HE.out.1] at this; exact this
            have HDO : Hid (∀ w', IsRd w' g r → Calls Try.prog 19 #[.pointer (some ⟨g, 0, none⟩)] w' fun e w'' => e = .returned (.int .i64 F) ∧ w' = w'') := fun w' h => by
              have := done_calls g r w' h
              rw [show doneR r = F by unfold doneR; rw [if_neg (by rintro ⟨h0, _⟩; rw [HE.out.2] at h0; exact HNF.out h0), HE.out.2]] at this; exact this
            have heq : ∀ w', (Op.equalIn 10000 34 (.agg #[.int .u8 ((kd.toNat : Int) % 6), .int .u64 0, .int .i64 0, .string ⟨#[]⟩, .int .i64 0, .int .i64 0, .bool false]) (.agg #[.int .u8 ((kd.toNat : Int) % 6), .int .u64 0, .int .i64 0, .string ⟨#[]⟩, .int .i64 0, .int .i64 0, .bool false])).run Try.prog w' = .ok true w' := fun w' => eq_zero _ w'
            have hgd : Try.prog.eqGuardType Try.prog.depth 34 = false := by kernel_rfl
            clear hF0
            go_wp2_with fail
            refine HC1.out.mono ?_
            rintro e w3 ⟨rfl, hr3, hc3⟩
            have HR3 := Lib.hid hr3
            have HB3 := Lib.hid (HB.out.trans (hc3.below HB.out.size (by simp; omega)))
            clear hr3 hc3 kc
            go_wp2_with fail
            have hb4 := below1 w3 (.cells #[.int .u8 ((kd.toNat : Int) % 6), .int .u64 0, .int .i64 0, .string ⟨#[]⟩, .int .i64 0, .int .i64 0, .bool false] 34)
            have hX4 := heap_alloc_new w3 (.cells #[.int .u8 ((kd.toNat : Int) % 6), .int .u64 0, .int .i64 0, .string ⟨#[]⟩, .int .i64 0, .int .i64 0, .bool false] 34)
            generalize w3.alloc (.cells #[.int .u8 ((kd.toNat : Int) % 6), .int .u64 0, .int .i64 0, .string ⟨#[]⟩, .int .i64 0, .int .i64 0, .bool false] 34) = w4 at *
            have HR4 := Lib.hid (HR3.out.below hb4)
            have HB4 := Lib.hid (HB3.out.trans (hb4.mono HB3.out.size))
            have kc4 : w4.cell? ⟨b, off + k, none⟩ = some (vb kd) := (HB4.out.cell (p := ⟨b, off + k, none⟩) hbw).trans HKD.out
            have x0 : w4.cell? ⟨w3.heap.size, 0, none⟩ = some _ := (cell_of_row _ _ 0 _ _ _ hX4).trans rfl
            have x1 : w4.cell? ⟨w3.heap.size, 1, none⟩ = some _ := (cell_of_row _ _ 1 _ _ _ hX4).trans rfl
            have x2 : w4.cell? ⟨w3.heap.size, 2, none⟩ = some _ := (cell_of_row _ _ 2 _ _ _ hX4).trans rfl
            have x3 : w4.cell? ⟨w3.heap.size, 3, none⟩ = some _ := (cell_of_row _ _ 3 _ _ _ hX4).trans rfl
            have x4 : w4.cell? ⟨w3.heap.size, 4, none⟩ = some _ := (cell_of_row _ _ 4 _ _ _ hX4).trans rfl
            have x5 : w4.cell? ⟨w3.heap.size, 5, none⟩ = some _ := (cell_of_row _ _ 5 _ _ _ hX4).trans rfl
            have x6 : w4.cell? ⟨w3.heap.size, 6, none⟩ = some _ := (cell_of_row _ _ 6 _ _ _ hX4).trans rfl
            clear hb4 hX4
            have HQL : Hid (∀ z, Calls Try.prog 21 #[.pointer (some ⟨g, 0, none⟩)] (w4.drewN z) fun e w' => e = .returned (.int .i64 0) ∧ w' = w4.drewN z) := fun z => (HLE.out _ (HR4.out.below (blw_drewN (Below.refl _ _) z))).mono fun _ _ ⟨h1, h2⟩ => ⟨h1, h2.symm⟩
            have HQD : Hid (∀ z, Calls Try.prog 19 #[.pointer (some ⟨g, 0, none⟩)] (w4.drewN z) fun e w' => e = .returned (.int .i64 F) ∧ w' = w4.drewN z) := fun z => (HDO.out _ (HR4.out.below (blw_drewN (Below.refl _ _) z))).mono fun _ _ ⟨h1, h2⟩ => ⟨h1, h2.symm⟩
            have tm : ((kd.toNat : Int)).tmod 6 = (kd.toNat : Int) % 6 := Int.tmod_eq_emod_of_nonneg (by omega)
            go_quiet ((first | (go_at_call 21; exact Calls.quiet_of_same (HQL.out _)) | (go_at_call 19; exact Calls.quiet_of_same (HQD.out _))))
            go_wp2_with fail
            have HR5 : Hid (IsRd (w4.drewN nq) g r) := HR4.out.below (blw_drewN (Below.refl _ _) _)
            have HB5 : Hid (Below w.heap.size w (w4.drewN nq)) := blw_drewN HB4.out _
            clear x0 x1 x2 x3 x4 x5 x6 kc4 tm
            generalize w4.drewN nq = w5 at *
            refine (HDO.out w5 HR5.out).mono ?_
            rintro e w6 ⟨rfl, rfl⟩
            go_wp2_with fail
            go_roundw
            case rel => exact ⟨k + 1, F, r, by omega, by go_num, rfl, HR5.out, HB5.out, .inr ⟨HNF.out, HE.out⟩⟩
            case measure => simp [intOf]; omega
        · go_wp2_with fail
          go_ret
          exact ⟨rfl, HB.out⟩
end Wi
end Go.Proofs.Ytkbhbpklgdmgpaa
