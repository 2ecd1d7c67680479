/- The walks of siphash.Derive and of the law SiphashKeys. -/
import Derived.Test.YthjplfflkdnfnaaSpL
import Derived.Laws.StructEq
import Derived.ChangeKeysEq
namespace Go.Proofs.Ythjplfflkdnfnaa
open Go.RowKit
namespace Sp
open Sip
attribute [local go_sem ↓] Go.wp_at_zero Go.wp_at_succ

set_option maxRecDepth 100000 in
set_option maxHeartbeats 1000000 in
theorem derive_calls (k0 : BitVec 64) (m : Int) (k1 : BitVec 64) (hm : IntKind.u64.wrap m = (k1.toNat : Int)) (hmb : -9223372036854775808 ≤ m ∧ m < 9223372036854775808) (s : ByteArray) (hs : s.size ≤ 1000) (w : World) :
    Calls Try.prog 19 #[vw k0, .string s, .int .i64 m] w fun e w' => e = .returned (.agg #[vw (sum k0 k1 (s.data.toList ++ [0])), vw (sum k0 k1 (s.data.toList ++ [1]))]) ∧ Below w.heap.size w w' := by
  have HM := Lib.hid hm
  obtain ⟨b1, b2⟩ := hmb
  clear hm
  obtain ⟨h0, H0⟩ : ∃ x, Hid (x = sum k0 k1 (s.data.toList ++ [0])) := ⟨_, Lib.hid rfl⟩
  obtain ⟨h1, H1⟩ : ∃ x, Hid (x = sum k0 k1 (s.data.toList ++ [1])) := ⟨_, Lib.hid rfl⟩
  rw [← H0.out, ← H1.out]
  go_enter Try.func19, Try.ntmps19
  go_wp2_with fail
  rw [HM.out]
  have hL := Lib.hid (heap3_a w (.cells #[.string s] 9) (.cells #[.int .u64 0, .int .u64 0] 26) (.cells #[vw k0, vw k1] 26))
  have hR := Lib.hid (heap3_b w (.cells #[.string s] 9) (.cells #[.int .u64 0, .int .u64 0] 26) (.cells #[vw k0, vw k1] 26))
  have hK := Lib.hid (heap3_c w (.cells #[.string s] 9) (.cells #[.int .u64 0, .int .u64 0] 26) (.cells #[vw k0, vw k1] 26))
  have hB := Lib.hid (below3n w (.cells #[.string s] 9) (.cells #[.int .u64 0, .int .u64 0] 26) (.cells #[vw k0, vw k1] 26))
  change Hid ((((w.alloc (.cells #[.string s] 9)).alloc (.cells #[.int .u64 0, .int .u64 0] 26)).alloc (.cells #[vw k0, vw k1] 26)).heap[w.heap.size]? = _) at hL
  change Hid ((((w.alloc (.cells #[.string s] 9)).alloc (.cells #[.int .u64 0, .int .u64 0] 26)).alloc (.cells #[vw k0, vw k1] 26)).heap[w.heap.size + 1]? = _) at hR
  change Hid ((((w.alloc (.cells #[.string s] 9)).alloc (.cells #[.int .u64 0, .int .u64 0] 26)).alloc (.cells #[vw k0, vw k1] 26)).heap[w.heap.size + 1 + 1]? = _) at hK
  show Calls _ _ _ (((w.alloc (.cells #[.string s] 9)).alloc (.cells #[.int .u64 0, .int .u64 0] 26)).alloc (.cells #[vw k0, vw k1] 26)) _
  generalize ((w.alloc (.cells #[.string s] 9)).alloc (.cells #[.int .u64 0, .int .u64 0] 26)).alloc (.cells #[vw k0, vw k1] 26) = w1 at *
  have hkl : w.heap.size + 1 + 1 < w1.heap.size := (Array.getElem?_eq_some_iff.1 hK.out).1
  refine (part_calls k0 k1 0 s _ _ w1 hK.out hL.out hs).mono ?_
  rintro e w2 ⟨rfl, hb2⟩
  rw [← H0.out]
  have K2 := Lib.hid ((hb2.block _ hkl).trans hK.out)
  have L2 := Lib.hid ((hb2.block _ (by omega)).trans hL.out)
  have R2 := Lib.hid ((hb2.block _ (by omega)).trans hR.out)
  have B2 := Lib.hid (hB.out.trans (hb2.mono hB.out.size))
  have hkl2 : w.heap.size + 1 + 1 < w2.heap.size := (Array.getElem?_eq_some_iff.1 K2.out).1
  clear hb2 hL hR hK hB hkl
  go_wp2_with fail
  refine (part_calls k0 k1 1 s _ _ w2 K2.out L2.out hs).mono ?_
  rintro e w3 ⟨rfl, hb3⟩
  rw [← H1.out]
  have R3 := (hb3.block _ (by omega)).trans R2.out
  have R3' := Lib.hid R3
  have B3 := Lib.hid (B2.out.trans (hb3.mono B2.out.size))
  have c0 : w3.cell? ⟨w.heap.size + 1, 0, none⟩ = some (.int .u64 0) := (cell_of_row _ _ 0 _ _ _ R3).trans rfl
  have c1 : w3.cell? ⟨w.heap.size + 1, 1, none⟩ = some (.int .u64 0) := (cell_of_row _ _ 1 _ _ _ R3).trans rfl
  have f0 : w3.frozen? ⟨w.heap.size + 1, 0, none⟩ = false := frozen_of_row _ _ _ _ _ R3
  have f1 : w3.frozen? ⟨w.heap.size + 1, 1, none⟩ = false := frozen_of_row _ _ _ _ _ R3
  clear hb3 R3
  go_wp2_with fail
  exact bodyPost_ret (results_cell_row rfl _ _ (w.heap.size + 1) 26 _ (0, 0) _ rfl (heap_setCell_same _ _ _ _ _ _ (heap_setCell_same _ _ _ _ _ _ R3'.out)) Try.underlying26 rfl (by kernel_rfl)) rfl ⟨rfl, (B3.out.setCell (p := ⟨w.heap.size + 1, 0, none⟩) (Nat.le_succ _) _).setCell (p := ⟨w.heap.size + 1, 1, none⟩) (Nat.le_succ _) _⟩

/-- the number as a word -/
def wd (m : Int) : BitVec 64 := BitVec.ofInt 64 m
theorem wd_wrap (m : Int) : IntKind.u64.wrap m = ((wd m).toNat : Int) := by
  rw [IntKind.wrap_u64]; unfold wd
  rw [BitVec.toNat_ofInt]
  omega

theorem eq_key (a b : BitVec 64) (w : World) : (Op.equalIn 10000 26 (.agg #[vw a, vw b]) (.agg #[vw a, vw b])).run Try.prog w = .ok true w := by
  obtain ⟨i, hi, h1, h2⟩ := info_parts (P := Try.prog) (e := 22) (z := .int .u64 0) (size := 1) (bytes := 8) (by kernel_rfl)
  rw [show (10000 : Nat) = 9999 + 1 from rfl, run_equalIn_array w 9999 _ _ Try.underlying26 hi]
  have hc : Try.prog.cellsOf 22 = 1 := by kernel_rfl
  have hr : List.range 2 = [0, 1] := rfl
  rw [hc, hr]
  have u3 := Try.underlying22
  simp only [Op.eqItems]
  go_simp

set_option maxRecDepth 100000 in
set_option maxHeartbeats 2000000 in
theorem keys_law (w : World) (k0 : BitVec 64) (s : ByteArray) (_hs : s.size ≤ 9223372036854775807) (m : Int) (hm1 : -9223372036854775808 ≤ m) (hm2 : m ≤ 9223372036854775807) :
    Calls Try.prog 8 #[vw k0, .string s, .int .i64 m] w fun e w' => e = .returned (.bool true) ∧ Below w.heap.size w w' := by
  by_cases h100 : s.size ≤ 100
  · have c100 : decide ((100 : Int) < (s.size : Int)) = false := by simp; omega
    have HD := fun w => Lib.hid (derive_calls k0 m (wd m) (wd_wrap m) ⟨hm1, by omega⟩ s (by omega) w)
    have HE := fun w => Lib.hid (rderive_calls k0 m (wd m) (wd_wrap m) s (by omega) w)
    have HW := Lib.hid (wd_wrap m)
    obtain ⟨k1, K1⟩ : ∃ x, Hid (x = wd m) := ⟨_, Lib.hid rfl⟩
    rw [← K1.out] at HW
    simp only [← K1.out] at HD HE
    clear hm1 hm2 K1
    obtain ⟨h0, H0⟩ : ∃ x, Hid (x = sum k0 k1 (s.data.toList ++ [0])) := ⟨_, Lib.hid rfl⟩
    obtain ⟨h1, H1⟩ : ∃ x, Hid (x = sum k0 k1 (s.data.toList ++ [1])) := ⟨_, Lib.hid rfl⟩
    simp only [← H0.out, ← H1.out] at HD HE
    have hcv := convB s
    have heq := eq_key h0 h1
    have HLN : Hid (s.data.toList.length = s.size) := Lib.hid (by simp)
    have HNW := fun w => Lib.hid (new_calls k0 k1 w)
    unfold key at HNW
    go_enter Try.func8, Try.ntmps8
    go_wp2_with fail; refine (awake_calls w).mono ?_; rintro e w1 ⟨rfl, hb⟩; have B1 := Lib.hid hb; clear hb; go_wp2_with fail
    refine (HD _).out.mono ?_
    rintro e w2 ⟨rfl, hb2⟩
    have B2 := Lib.hid (B1.out.trans (hb2.mono B1.out.size))
    clear hb2 HD
    go_wp2_with fail
    rw [HW.out]
    have hk := heap_alloc_new w2 (.cells #[vw h0, vw h1] 26)
    have B2' := Lib.hid (B2.out.trans ((below1 w2 (.cells #[vw h0, vw h1] 26)).mono B2.out.size))
    show Calls _ _ _ (w2.alloc (.cells #[vw h0, vw h1] 26)) _
    generalize w2.alloc (.cells #[vw h0, vw h1] 26) = w3 at *
    have hsk : w2.heap.size < w3.heap.size := (Array.getElem?_eq_some_iff.1 hk).1
    refine (HNW _).out.mono ?_
    rintro e w4 ⟨g, rfl, hh, hg, hb⟩
    have B4 := Lib.hid (B2'.out.trans (hb.mono B2'.out.size))
    have K4 := Lib.hid ((hb.block _ hsk).trans hk)
    have H4 := Lib.hid hh
    have hgl : g < w4.heap.size := (Array.getElem?_eq_some_iff.1 hh).1
    have hgw : w.heap.size ≤ g := Nat.le_trans B2'.out.size hg
    have hgk : w2.heap.size < g := by omega
    clear hb hk hh HNW hg HW
    go_wp2_with fail
    show Calls _ _ _ ((w4.alloc (.cells (bytesRow s (grownCap w4 s.size 0 5)) 5 ((bytesRow s (grownCap w4 s.size 0 5)).size, (bytesRow s (grownCap w4 s.size 0 5)).size + 1))).drew) _
    have hrw : RB ((w4.alloc (.cells (bytesRow s (grownCap w4 s.size 0 5)) 5 ((bytesRow s (grownCap w4 s.size 0 5)).size, (bytesRow s (grownCap w4 s.size 0 5)).size + 1))).drew) (some ⟨w4.heap.size, 0, none⟩) s.data.toList := by
      refine Rd.mk fun j v hv => ?_
      rw [Nat.zero_add]
      refine (cell_of_row _ _ _ _ _ _ (heap_alloc_new w4 _)).trans ?_
      rw [← bytes_take s w4 5, List.getElem?_take] at hv
      split at hv
      · simpa using hv
      · cases hv
    have hb : Below w4.heap.size w4 ((w4.alloc (.cells (bytesRow s (grownCap w4 s.size 0 5)) 5 ((bytesRow s (grownCap w4 s.size 0 5)).size, (bytesRow s (grownCap w4 s.size 0 5)).size + 1))).drew) := (below1 w4 _).drew
    have HRW := Lib.hid hrw
    have B5 := Lib.hid (B4.out.trans (hb.mono B4.out.size))
    have K5 := Lib.hid ((hb.block _ (by omega)).trans K4.out)
    have H5 := Lib.hid (H4.out.below hb)
    clear hrw hb
    generalize ((w4.alloc (.cells (bytesRow s (grownCap w4 s.size 0 5)) 5 ((bytesRow s (grownCap w4 s.size 0 5)).size, (bytesRow s (grownCap w4 s.size 0 5)).size + 1))).drew) = w5 at *
    refine (write_calls g (new k0 k1) _ s.size _ s.data.toList w5 H5.out HLN.out HRW.out (fun _ b off he => by injection he with he; injection he with he; omega) (by show 0 + s.size ≤ _; omega)).mono ?_
    rintro e w6 ⟨rfl, hh, hc⟩
    have B6 := Lib.hid (B5.out.trans (hc.below B5.out.size (by simpa using hgw)))
    have K6 := Lib.hid ((hc.blk K5.out (by simp; omega)))
    have H6 := Lib.hid hh
    have hg6 : g < w6.heap.size := (Array.getElem?_eq_some_iff.1 hh).1
    clear hh hc H5 K5 B5 HRW
    go_wp2_with fail
    show Calls _ _ _ (w6.alloc (.cells #[vb 0] 5)) _
    have hb := below1 w6 (.cells #[vb 0] 5)
    have HR7 : Hid (RB (w6.alloc (.cells #[vb 0] 5)) (some ⟨w6.heap.size, 0, none⟩) [0]) := Rd.one w6 _ _
    have B7 := Lib.hid (B6.out.trans (hb.mono B6.out.size))
    have K7 := Lib.hid ((hb.block _ (by omega)).trans K6.out)
    have H7 := Lib.hid (H6.out.below hb)
    clear hb
    generalize w6.alloc (.cells #[vb 0] 5) = w7 at *
    have hct : (wrs (new k0 k1) s.data.toList).count ≤ 1000 := by rw [wrs_count]; show 0 + _ ≤ _; rw [HLN.out]; omega
    refine (write_calls g _ _ 1 1 [0] w7 H7.out rfl HR7.out (fun _ b off he => by injection he with he; injection he with he; omega) (by omega)).mono ?_
    rintro e w8 ⟨rfl, hh, hc⟩
    rw [← wrs_append] at hh
    have B8 := Lib.hid (B7.out.trans (hc.below B7.out.size (by simpa using hgw)))
    have hk8 := hc.blk K7.out (by simp; omega)
    have hs8 : w2.heap.size < w8.heap.size := (Array.getElem?_eq_some_iff.1 hk8).1
    have K8 := Lib.hid hk8
    have H8 := Lib.hid hh
    have hct8 : (wrs (new k0 k1) (s.data.toList ++ [0])).count ≤ 1001 := by rw [wrs_count]; show 0 + _ ≤ _; rw [List.length_append, HLN.out]; simp; omega
    have m0 : ∀ w', Below w8.heap.size w8 w' → w'.cell? ⟨w2.heap.size, 0, none⟩ = some (vw h0) := fun w' h => (cell_of_row _ _ 0 _ _ _ ((h.block _ hs8).trans K8.out)).trans rfl
    have m1 : ∀ w', Below w8.heap.size w8 w' → w'.cell? ⟨w2.heap.size, 1, none⟩ = some (vw h1) := fun w' h => (cell_of_row _ _ 1 _ _ _ ((h.block _ hs8).trans K8.out)).trans rfl
    have KE : ∀ w', Below w8.heap.size w8 w' → Hid (Calls Try.prog 20 #[vw k0, .string s, .int .i64 m] w' fun e w'' => e = .returned (.agg #[vw h0, vw h1]) ∧ Below w8.heap.size w8 w'') := fun w' h => calls_below h (HE w').out
    have KS : ∀ w', Below w8.heap.size w8 w' → Hid (Calls Try.prog 18 #[.pointer (some ⟨g, 0, none⟩)] w' fun e w'' => e = .returned (vw h0) ∧ Below w8.heap.size w8 w'') := fun w' h => calls_below h (by rw [H0.out]; exact sumH_calls g _ w' (H8.out.below h) (by omega))
    clear hh hc H7 K7 B7 HR7 H6 K6 B6 H4 K4 hk8 hct HE hct8
    go_wp2_with fail
    go_region_held3 (fun w' => Below w8.heap.size w8 w') (first | exact (Below.refl _ _).drew | assumption) (first | (go_at_call 20; refine (KE _ (by assumption)).out.mono ?_; rintro e wX ⟨rfl, hsX⟩) | (go_at_call 18; refine (KS _ (by assumption)).out.mono ?_; rintro e wY ⟨rfl, hsY⟩))
    go_wp2_with fail
    go_ret
    exact ⟨rfl, B8.out.trans (hsY.mono B8.out.size)⟩
  · have c100 : decide ((100 : Int) < (s.size : Int)) = true := by simp; omega
    go_enter Try.func8, Try.ntmps8
    go_wp2_with fail; refine (awake_calls w).mono ?_; rintro e w1 ⟨rfl, hb⟩; have B1 := Lib.hid hb; clear hb; go_wp2_with fail
    go_ret
    exact ⟨rfl, B1.out⟩
end Sp
end Go.Proofs.Ythjplfflkdnfnaa
