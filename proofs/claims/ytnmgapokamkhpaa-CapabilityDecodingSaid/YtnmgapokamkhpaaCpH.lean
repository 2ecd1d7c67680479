/- The walk of the law CapabilityDecoding. -/
import Derived.Test.YtnmgapokamkhpaaCpG
namespace Go.Proofs.Ytnmgapokamkhpaa
open Go.RowKit
namespace Cp
open Sip Wi Wr

set_option maxRecDepth 100000 in
theorem rdecode_calls (A : Option Addr) (n c : Nat) (l : List UInt8) (w : World) (hn : l.length = n) (hr : RB w A l) (hnc : n ≤ c) (hcm : c ≤ maxLen) :
    (∀ v, good l v → Calls Try.prog 14 #[.slice A n c] w fun e w' => e = .returned (.tuple #[.int .i64 (v : Int), .int .i64 0]) ∧ Below w.heap.size w w') ∧
    (bad l → Calls Try.prog 14 #[.slice A n c] w fun e w' => e = .returned (.tuple #[.int .i64 0, .int .i64 11]) ∧ Below w.heap.size w w') := by
  have HN := Lib.hid hn
  have hb1 := below1 w (.cells #[.slice A n c, .int .i64 0] 58)
  have hR1 := heap_alloc_new w (.cells #[.slice A n c, .int .i64 0] 58)
  obtain ⟨w1, HW1⟩ : ∃ x, Hid (w.alloc (.cells #[.slice A n c, .int .i64 0] 58) = x) := ⟨_, rfl⟩
  rw [HW1.out] at hb1 hR1
  have HR1 : Hid (IsRr w.heap.size w1 w.heap.size ⟨l, 0⟩) := by
    refine ⟨A, c, ?_, by show l.length ≤ c; rw [HN.out]; exact hnc, hcm, RB.below hr hb1, fun hp b off e => RB.lt hr hp b off e, Nat.le_refl _⟩
    show w1.heap[w.heap.size]? = some (.cells #[.slice A l.length c, .int .i64 0] _ _)
    rw [HN.out]; exact hR1
  have HB1 := Lib.hid hb1
  have HU := Lib.hid (rdUint_calls w.heap.size ⟨l, 0⟩ w1 HR1.out)
  have hlt := uintR_lt ⟨l, 0⟩
  clear hn hr hb1 hR1 HR1
  refine ⟨fun v hg => ?_, fun hb => ?_⟩
  · obtain ⟨g1, g2, hv⟩ := hg
    have HG1 := Lib.hid g1
    have HG2 := Lib.hid g2
    clear g1 g2 hlt
    have d1 : decide ((1048576 : Int) < (v : Int)) = false := by simp; omega
    go_enter Try.func14, Try.ntmps14
    go_upto_region 2 with (fail)
    rw [HW1.out]
    go_upto_region 3 with (go_at_call 23; refine HU.out.mono ?_; rintro e w2 ⟨rfl, hr2, hc2⟩)
    rw [HG2.out]
    have HB2 := Lib.hid (HB1.out.trans (hc2.below HB1.out.size (by simp)))
    have HD := Lib.hid (rdDone_calls w.heap.size _ w2 hr2)
    rw [HG1.out] at HD
    clear hr2 hc2
    have i1 : IntKind.i64.wrap (v : Int) = v := by rw [IntKind.wrap_i64]; omega
    go_wp2_with (go_at_call 24; refine HD.out.mono ?_; rintro e w3 ⟨rfl, rfl⟩)
    go_ret2
    exact ⟨rfl, HB2.out⟩
  · go_enter Try.func14, Try.ntmps14
    go_upto_region 2 with (fail)
    rw [HW1.out]
    go_upto_region 3 with (go_at_call 23; refine HU.out.mono ?_; rintro e w2 ⟨rfl, hr2, hc2⟩)
    have HB2 := Lib.hid (HB1.out.trans (hc2.below HB1.out.size (by simp)))
    have HD := Lib.hid (rdDone_calls w.heap.size _ w2 hr2)
    have hbd := hb
    unfold bad at hbd
    clear hr2 hc2 hb HU
    generalize uintR ⟨l, 0⟩ = r at *
    obtain ⟨v, r⟩ := r
    simp only at *
    by_cases h0 : doneR r = 0
    · have hv : 1048576 < v := by rcases hbd with h | h; exact absurd h0 h; exact h
      have d1 : decide ((1048576 : Int) < (v : Int)) = true := by simp; omega
      rw [h0] at HD
      clear hbd h0
      go_wp2_with (go_at_call 24; refine HD.out.mono ?_; rintro e w3 ⟨rfl, rfl⟩)
      go_ret2
      exact ⟨rfl, HB2.out⟩
    · have d1 : ((doneR r != 0) : Bool) = true := by simpa using h0
      clear hbd h0
      generalize doneR r = z at *
      go_wp2_with (go_at_call 24; refine HD.out.mono ?_; rintro e w3 ⟨rfl, rfl⟩)
      go_ret2
      exact ⟨rfl, HB2.out⟩

set_option maxRecDepth 100000 in
set_option maxHeartbeats 1000000 in
theorem decoding_law (w : World) (k0 k1 : BitVec 64) (A : Option Addr) (n c : Nat) (l : List UInt8) (hn : l.length = n) (hnc : n ≤ c) (hcm : c ≤ maxLen) (hr : RB w A l) :
    Calls Try.prog 5 #[.agg #[vw k0, vw k1], .slice A n c] w fun e w' => e = .returned (.bool true) ∧ Below w.heap.size w w' := by
  have HN := Lib.hid hn
  have HR := Lib.hid hr
  have AW := fun w => Lib.hid (awake_calls w)
  go_enter Try.func5, Try.ntmps5
  go_upto_region 1 with (fail)
  have hk : Hid ((w.alloc (.cells #[vw k0, vw k1] 24)).heap[w.heap.size]? = some (.cells #[vw k0, vw k1] 24 (0, 0))) := heap_alloc_new _ _
  have hbw := Lib.hid (below1 w (.cells #[vw k0, vw k1] 24))
  generalize w.alloc (.cells #[vw k0, vw k1] 24) = w1 at *
  have hs1 : w.heap.size < w1.heap.size := (Array.getElem?_eq_some_iff.1 hk.out).1
  clear hn hr
  go_upto_region 3 with (go_at_call 6; (with_reducible refine (AW w1).out.mono ?_); rintro e w2 ⟨rfl, hb2⟩)
  have HK2 := Lib.hid ((hb2.block _ hs1).trans hk.out)
  have B2 := Lib.hid (hbw.out.trans (hb2.mono hbw.out.size))
  have m0 : w2.cell? ⟨w.heap.size, 0, none⟩ = some (vw k0) := (cell_of_row _ _ 0 _ _ _ HK2.out).trans rfl
  have m1 : w2.cell? ⟨w.heap.size, 1, none⟩ = some (vw k1) := (cell_of_row _ _ 1 _ _ _ HK2.out).trans rfl
  clear hk hbw hb2 AW HK2
  have i0 : (0 : Int) ≤ (n : Int) := by omega
  by_cases h1 : 100 < n
  · have d1 : decide ((100 : Int) < (n : Int)) = true := by simp; omega
    go_wp2_with fail
    go_ret
    exact ⟨rfl, B2.out⟩
  · have d1 : decide ((100 : Int) < (n : Int)) = false := by simp; omega
    have hR2 : RB w2 A l := RB.below HR.out B2.out
    rcases good_or l with ⟨v, hg⟩ | hb
    · have HD1 := Lib.hid (decode_good k0 k1 A n c l v w2 HN.out hR2 (by omega) hg)
      have hv : v ≤ 1048576 := hg.2.2
      have HE := Lib.hid (good_enc l v hg)
      have HGG := Lib.hid hg
      clear hg h1
      go_upto_region 6 with (go_at_call 13; refine HD1.out.mono ?_; rintro e w3 ⟨g, rfl, hg3, hb3⟩)
      have HG3 := Lib.hid hg3
      have B3 := Lib.hid (B2.out.trans (hb3.mono B2.out.size))
      have HD2 := Lib.hid ((rdecode_calls A n c l w3 HN.out (RB.below HR.out B3.out) hnc hcm).1 v HGG.out)
      clear hg3 hb3 m0 m1 hR2
      go_upto_region 7 with (go_at_call 14; refine HD2.out.mono ?_; rintro e w4 ⟨rfl, hb4⟩)
      have HG4 := Lib.hid (HG3.out.below hb4)
      have B4 := Lib.hid (B3.out.trans (hb4.mono B3.out.size))
      have HI : ∀ w', Below w4.heap.size w4 w' → Hid (Calls Try.prog 11 #[.pointer (some ⟨g, 0, none⟩)] w' fun e w'' => e = .returned (.int .i64 (v : Int)) ∧ w' = w'') := fun w' h => issued_calls k0 k1 g v w' (HG4.out.below h)
      have HEN := fun w' (h : Below w4.heap.size w4 w') => Lib.hid (encode_calls k0 k1 g v w' (HG4.out.below h) hv)
      have HS := fun w' (h : Below w4.heap.size w4 w') X cx (hx : RB w' X (enc v)) => Lib.hid (same_calls X A (enc v).length n cx c (enc v) l w' rfl HN.out hx (RB.below HR.out (B4.out.trans (h.mono B4.out.size))))
      clear hb4
      go_upto_region 11 with (fail)
      go_wp2_with (first | (go_at_call 11; refine (HI _ (Below.refl _ _)).out.mono ?_; rintro e w5 ⟨rfl, rfl⟩) | (go_at_call 16; refine (HEN _ (Below.refl _ _)).out.mono ?_; rintro e w5 ⟨X, cx, rfl, hx5, B5⟩) | (go_at_call 15; (refine (HS w5 B5 X cx hx5).out.mono ?_; rw [← HE.out, show sameB l l = true by unfold sameB; simp]; rintro e w6 ⟨rfl, rfl⟩)))
      go_ret
      exact ⟨rfl, B4.out.trans (B5.mono B4.out.size)⟩
    · have HD1 := Lib.hid (decode_bad k0 k1 A n c l w2 HN.out hR2 (by omega) hb)
      have HBB := Lib.hid hb
      clear hb h1
      go_upto_region 6 with (go_at_call 13; refine HD1.out.mono ?_; rintro e w3 ⟨rfl, hb3⟩)
      have B3 := Lib.hid (B2.out.trans (hb3.mono B2.out.size))
      have HD2 := Lib.hid ((rdecode_calls A n c l w3 HN.out (RB.below HR.out B3.out) hnc hcm).2 HBB.out)
      clear hb3 m0 m1 hR2
      go_upto_region 7 with (go_at_call 14; refine HD2.out.mono ?_; rintro e w4 ⟨rfl, hb4⟩)
      have B4 := Lib.hid (B3.out.trans (hb4.mono B3.out.size))
      clear hb4
      go_wp2_with fail
      go_ret
      exact ⟨rfl, B4.out⟩
end Cp
end Go.Proofs.Ytnmgapokamkhpaa
