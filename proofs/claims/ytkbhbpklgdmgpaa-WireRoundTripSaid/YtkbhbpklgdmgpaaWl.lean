/- The walk of the law WireLimits. -/
import Derived.Test.YtkbhbpklgdmgpaaWrW
import Derived.Test.YtkbhbpklgdmgpaaWrS
namespace Go.Proofs.Ytkbhbpklgdmgpaa
open Go.RowKit
namespace Wi
open Wr

theorem uintR_enc (n : Nat) (h : n < 18446744073709551616) (t : List UInt8) : uintR ⟨enc n ++ t, 0⟩ = (n, ⟨t, 0⟩) := by
  rw [uintR_some ⟨enc n ++ t, 0⟩ rfl (parse_enc n h t)]
  simp
theorem stringR_enc (t : List UInt8) (h : t.length < 18446744073709551616) (r : List UInt8) : stringR ⟨enc t.length ++ (t ++ r), 0⟩ = if 4096 < t.length then ([], failR 8) else (t, ⟨r, 0⟩) := by
  unfold stringR
  rw [uintR_enc _ h]
  simp only [ne_eq, not_true_eq_false, if_false]
  by_cases hl : 4096 < t.length
  · rw [if_pos hl, if_pos hl]
  · rw [if_neg hl, if_neg hl, if_neg (by simp)]
    simp
theorem made_bytes (n : Nat) : (madeCells #[.int .u8 0] n).toList = (List.replicate n (0 : UInt8)).map vb := by
  rw [toList_madeCells_one]
  simp

set_option maxRecDepth 100000 in
set_option maxHeartbeats 4000000 in
theorem limits_law (w : World) (size : Int) (_hs1 : -9223372036854775808 ≤ size) (_hs2 : size ≤ 9223372036854775807) (cx : BitVec 64) (most : Int) (hm1 : -9223372036854775808 ≤ most) (hm2 : most ≤ 9223372036854775807)
    (A : Option Addr) (n ca : Nat) (l : List UInt8) (hl : l.length = n) (_hnc : n ≤ ca) (hcm : ca ≤ maxLen) (hr : RB w A l) :
    Calls Try.prog 5 #[.int .i64 size, vw cx, .int .i64 most, .slice A n ca] w (Tru w) := by
  have HL := Lib.hid hl
  have HR := Lib.hid hr
  have hcx := cx.isLt
  obtain ⟨c, HX⟩ : ∃ n, Hid (n = cx.toNat) := ⟨_, rfl⟩
  rw [show vw cx = .int .u64 (c : Int) by rw [HX.out]]
  have hc : c < 18446744073709551616 := by rw [HX.out]; omega
  have hcm' := hcm
  unfold maxLen at hcm'
  clear hl hr hcx HX
  by_cases h0 : size < 0
  · have d1 : decide (size < 0) = true := by simpa using h0
    go_enter Try.func5, Try.ntmps5
    go_wp2_with fail; refine (awake_calls w).mono ?_; rintro e w1 ⟨rfl, hb⟩; have B1 := Lib.hid hb; clear hb; go_wp2_with fail
    go_ret
    exact ⟨rfl, B1.out⟩
  · have d1 : decide (size < 0) = false := by simpa using h0
    by_cases h5 : 5000 < size
    · have d2 : decide (5000 < size) = true := by simpa using h5
      go_enter Try.func5, Try.ntmps5
      go_wp2_with fail; refine (awake_calls w).mono ?_; rintro e w1 ⟨rfl, hb⟩; have B1 := Lib.hid hb; clear hb; go_wp2_with fail
      go_ret
      exact ⟨rfl, B1.out⟩
    · have d2 : decide (5000 < size) = false := by simpa using h5
      by_cases hb : 5000 < n
      · have d3 : decide ((5000 : Int) < (n : Int)) = true := by simp; omega
        go_enter Try.func5, Try.ntmps5
        go_wp2_with fail; refine (awake_calls w).mono ?_; rintro e w1 ⟨rfl, hb⟩; have B1 := Lib.hid hb; clear hb; go_wp2_with fail
        go_ret
        exact ⟨rfl, B1.out⟩
      · have d3 : decide ((5000 : Int) < (n : Int)) = false := by simp; omega
        have hn5 : n ≤ 5000 := by omega
        obtain ⟨k, rfl⟩ := Int.eq_ofNat_of_zero_le (show 0 ≤ size by omega)
        have hk5 : k ≤ 5000 := by omega
        clear h0 h5 hb _hs1 _hs2
        obtain ⟨i0, hi, hz0, hz1, hz2⟩ := info_parts info_u8
        have hmk : ∀ u : World, (Instr.makeSlice 24 (.int .i64 k) (.int .i64 k)).run Try.prog u =
            .ok (.slice (some ⟨u.heap.size, 0, none⟩) k k) (u.alloc (.cells (madeCells #[.int .u8 0] k) 5)) := fun u => by
          have h := run_make (P := Try.prog) u 24 5 i0 (.int .u8 0) Try.underlying24 hi hz0 .i64 .i64 k k (by omega) (Int.le_refl _) (by rw [hz2]; omega) (by omega)
          simpa [hz1, Value.cells] using h
        obtain ⟨zt, HZT⟩ : ∃ x : List UInt8, Hid (x = List.replicate k 0) := ⟨_, rfl⟩
        have HZL : Hid (zt.length = k) := by show _ = _; rw [HZT.out]; simp
        have HMB : Hid (∀ u : World, RB (u.alloc (.cells (madeCells #[.int .u8 0] k) 5)) (some ⟨u.heap.size, 0, none⟩) zt) := by
          intro u
          have h := Rd.new u (madeCells #[.int .u8 0] k).toList 5 (0, 0)
          rw [Array.toArray_toList, made_bytes, ← HZT.out] at h
          exact h
        obtain ⟨zs, HZ0⟩ : ∃ x : ByteArray, Hid (x = ⟨zt.toArray⟩) := ⟨_, rfl⟩
        have HZS : Hid (zs.size = k) := by show _ = _; rw [HZ0.out]; show zt.toArray.size = k; simpa using HZL.out
        have HZB : Hid (strB zs = zt) := by show _ = _; rw [HZ0.out]; show zt.toArray.toList = zt; simp
        have hcv : ∀ u : World, (convert 24 9 (.slice (some ⟨u.heap.size, 0, none⟩) k k)).run Try.prog (u.alloc (.cells (madeCells #[.int .u8 0] k) 5)) = .ok (.string zs) (u.alloc (.cells (madeCells #[.int .u8 0] k) 5)) := fun u => by
          rw [HZ0.out]
          exact run_str (P := Try.prog) k k 24 5 9 Try.underlying24 Try.underlying5 Try.underlying9 HZL.out (HMB.out u)
        clear hi hz0 hz1 hz2
        go_enter Try.func5, Try.ntmps5
        go_wp2_with fail; refine (awake_calls w).mono ?_; rintro e w1 ⟨rfl, hb⟩; have B1 := Lib.hid hb; clear hb; go_wp2_with fail
        have hb2 := below1 w1 (.cells (madeCells #[.int .u8 0] k) 5)
        generalize w1.alloc (.cells (madeCells #[.int .u8 0] k) 5) = w2 at *
        have B2 := Lib.hid (B1.out.trans (hb2.mono B1.out.size))
        clear hb2 hcv
        refine (appendString_calls w2.heap.size (.slice none 0 0) [] zs w2 (Ext.nil w2) (by simp) (Nat.le_refl _) (by rw [HZS.out]; omega)).mono ?_
        rintro e w3 ⟨v3, rfl, hx3⟩
        have B3 := Lib.hid (B2.out.trans ((Ext.below (Ext.nil w2) (Nat.le_refl _) hx3).mono B2.out.size))
        obtain ⟨X3, c3, rfl, _, _, hr3⟩ := hx3.read
        rw [HZS.out, HZB.out, List.nil_append] at hr3
        obtain ⟨n3, HN3⟩ : ∃ n, Hid (n = (enc k ++ zt).length) := ⟨_, rfl⟩
        rw [HZS.out, HZB.out, List.nil_append, ← HN3.out]
        have hn3 : n3 ≤ 6000 := by have h1 := enc_len k; have h2 := digits_len_le k; have h3 := HZL.out; rw [HN3.out, List.length_append]; omega
        have RX3 := Lib.hid hr3
        clear hx3 hr3
        go_wp2_with fail
        refine (newReader_calls X3 n3 c3 (enc k ++ zt) w3 HN3.out.symm RX3.out (by omega)).mono ?_
        rintro e w4 ⟨g, rfl, hr4, hg4, hb4⟩
        have B4 := Lib.hid (B3.out.trans (hb4.mono B3.out.size))
        have hgw : w.heap.size ≤ g := Nat.le_trans B3.out.size hg4
        have HS := Lib.hid (string_calls g ⟨enc k ++ zt, 0⟩ w4 hr4)
        have HSE : Hid (stringR ⟨enc k ++ zt, 0⟩ = if 4096 < k then ([], failR 8) else (zt, ⟨[], 0⟩)) := by
          show _ = _
          have h := stringR_enc zt (by rw [HZL.out]; omega) []
          rw [List.append_nil, HZL.out] at h
          exact h
        rw [HSE.out] at HS
        clear hr4 hg4 hb4
        go_wp2_with fail
        have hcount : Hid (countR most ⟨enc c ++ l, 0⟩ = if most < 0 ∨ most < (c : Int) then (0, failR 8) else if n < c then (0, failR 11) else (c, ⟨l, 0⟩)) := by
          show _ = _
          unfold countR
          rw [uintR_enc c hc l, HL.out]
          simp only [ne_eq, not_true_eq_false, if_false]
        by_cases h4 : 4096 < k
        rw [if_pos h4] at HS
        have d4 : decide ((k : Int) ≤ 4096) = false := by simp; omega
        have d5 : decide ((4096 : Int) < (k : Int)) = true := by simp; omega
        clear h4
        refine HS.out.mono ?_
        rintro e w5 ⟨rfl, hr5, hc5⟩
        have B5 := Lib.hid (B4.out.trans (hc5.below B4.out.size (by simp; omega)))
        have HD := Lib.hid (done_calls g _ w5 hr5)
        rw [show doneR (failR 8) = 8 from rfl] at HD
        clear hr5 hc5
        go_wp2_with (go_at_call 19; refine HD.out.mono ?_; rintro e w6 ⟨rfl, rfl⟩)
        rotate_left
        rw [if_neg h4] at HS
        have d4 : decide ((k : Int) ≤ 4096) = true := by simp; omega
        have d5 : decide ((4096 : Int) < (k : Int)) = false := by simp; omega
        clear h4
        unfold StrPost at HS
        simp only at HS
        rw [← HZ0.out] at HS
        refine HS.out.mono ?_
        rintro e w5 ⟨rfl, hr5, hc5⟩
        have B5 := Lib.hid (B4.out.trans (hc5.below B4.out.size (by simp; omega)))
        have HD := Lib.hid (done_calls g _ w5 hr5)
        rw [show doneR ⟨[], 0⟩ = 0 from rfl] at HD
        have e4 : ((zs.size : Int) != (k : Int)) = false := by rw [HZS.out]; simp
        have e4' : zs.size ≤ 9223372036854775807 := by rw [HZS.out]; omega
        clear hr5 hc5
        go_wp2_with (go_at_call 19; refine HD.out.mono ?_; rintro e w6 ⟨rfl, rfl⟩)
        clear e4 e4'
        all_goals
          clear HD d4 d5 HS
          refine (appendNat_calls w5.heap.size (.slice none 0 0) [] c hc w5 (Ext.nil w5) (by simp) (Nat.le_refl _)).mono ?_
          rintro e w6 ⟨v6, rfl, hx6⟩
          have B6 := Lib.hid (B5.out.trans ((Ext.below (Ext.nil w5) (Nat.le_refl _) hx6).mono B5.out.size))
          have hs6 : w5.heap.size ≤ w6.heap.size := hx6.size
          obtain ⟨X6, c6, rfl, ho6, _⟩ := hx6
          rw [List.nil_append] at ho6 ⊢
          have HO6 : Hid (OB w6 w5.heap.size (.slice X6 (enc c).length c6) (enc c)) := ho6
          obtain ⟨n6, HN6⟩ : ∃ n, Hid (n = (enc c).length) := ⟨_, rfl⟩
          rw [← HN6.out] at HO6 ⊢
          have hn6 : (enc c).length ≤ 9 := by have h1 := enc_len c; have h2 := digits_len_le c; omega
          clear ho6
          go_wp2_with (at_builtin; refine appB _ rfl (.tmp 61) (.tmp 62) rfl w5.heap.size _ (enc c) l rfl HO6.out A n ca rfl HL.out (RB.below HR.out B6.out) (by omega) hs6 ?_; intro X7 c7 n7 w7 HK7 hk7 hk7' HO7 HA7 HB7 hs7)
          have B7 := Lib.hid (B6.out.trans (HB7.out.mono B5.out.size))
          refine (newReader_calls X7 n7 c7 (enc c ++ l) w7 HK7.out.symm HO7.out.rb.1 (by omega)).mono ?_
          rintro e w8 ⟨g8, rfl, hr8, hg8, hb8⟩
          have B8 := Lib.hid (B7.out.trans (hb8.mono B7.out.size))
          have hgw8 : w.heap.size ≤ g8 := Nat.le_trans B7.out.size hg8
          have HCN := Lib.hid (count_calls g8 ⟨enc c ++ l, 0⟩ most w8 hr8 hm1 hm2)
          rw [hcount.out] at HCN
          clear hr8 hg8 hb8
          go_wp2_with fail
          by_cases hz : most < 0 ∨ most < (c : Int)
          · rw [if_pos hz] at HCN
            refine HCN.out.mono ?_
            rintro e w9 ⟨rfl, hr9, hc9⟩
            have B9 := Lib.hid (B8.out.trans (hc9.below B8.out.size (by simp; omega)))
            have HD9 := Lib.hid (done_calls g8 _ w9 hr9)
            rw [show doneR (failR 8) = 8 from rfl] at HD9
            clear hr9 hc9 HCN
            by_cases hz1 : most < 0
            · have e1 : decide (most < 0) = true := by simpa using hz1
              clear hz hz1
              go_wp2_with (go_at_call 19; refine HD9.out.mono ?_; rintro e w10 ⟨rfl, rfl⟩)
              go_ret
              exact ⟨rfl, B9.out⟩
            · have e1 : decide (most < 0) = false := by simpa using hz1
              have e2 : decide (most < (c : Int)) = true := by simp; omega
              have e3 : 0 ≤ most := by omega
              clear hz hz1
              go_wp2_with (go_at_call 19; refine HD9.out.mono ?_; rintro e w10 ⟨rfl, rfl⟩)
              go_ret
              exact ⟨rfl, B9.out⟩
          · rw [if_neg hz] at HCN
            have e1 : decide (most < 0) = false := by simp; omega
            have e2 : decide (most < (c : Int)) = false := by simp; omega
            have e3 : 0 ≤ most := by omega
            by_cases hl : n < c
            · rw [if_pos hl] at HCN
              have e4 : decide ((n : Int) < (c : Int)) = true := by simp; omega
              have e4' : decide (n < c) = true := by simpa using hl
              refine HCN.out.mono ?_
              rintro e w9 ⟨rfl, hr9, hc9⟩
              have B9 := Lib.hid (B8.out.trans (hc9.below B8.out.size (by simp; omega)))
              have HD9 := Lib.hid (done_calls g8 _ w9 hr9)
              rw [show doneR (failR 11) = 11 from rfl] at HD9
              clear hr9 hc9 HCN hz
              go_wp2_with (go_at_call 19; refine HD9.out.mono ?_; rintro e w10 ⟨rfl, rfl⟩)
              go_ret
              exact ⟨rfl, B9.out⟩
            · rw [if_neg hl] at HCN
              have e4 : decide ((n : Int) < (c : Int)) = false := by simp; omega
              have e4' : decide (n < c) = false := by simpa using hl
              have e5 : (c : Int) ≤ 9223372036854775807 := by omega
              refine HCN.out.mono ?_
              rintro e w9 ⟨rfl, hr9, hc9⟩
              have B9 := Lib.hid (B8.out.trans (hc9.below B8.out.size (by simp; omega)))
              have HD9 := Lib.hid (left_calls g8 _ w9 hr9)
              rw [show (⟨l, 0⟩ : Rs).l.length = n from HL.out] at HD9
              clear hr9 hc9 HCN hz
              go_wp2_with (go_at_call 21; refine HD9.out.mono ?_; rintro e w10 ⟨rfl, rfl⟩)
              go_ret
              exact ⟨rfl, B9.out⟩
end Wi
end Go.Proofs.Ytkbhbpklgdmgpaa
