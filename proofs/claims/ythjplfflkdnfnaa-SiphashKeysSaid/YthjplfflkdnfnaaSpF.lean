/- The walks of the examples of siphash: Key, Bytes, Vectors, awake; the laws SiphashSums and SiphashVectors. -/
import Derived.Test.YthjplfflkdnfnaaSpE
namespace Go.Proofs.Ythjplfflkdnfnaa
open Go.RowKit
namespace Sp
open Sip

theorem info_u8 : (Try.prog.info? 5).map (fun i => (i.zero, i.size, i.bytes)) = some (some (.int .u8 0), 1, 1) := by kernel_rfl

abbrev keyE : Value := .agg #[.int .u64 506097522914230528, .int .u64 1084818905618843912]
theorem keyE_eq : keyE = key k0e k1e := rfl

theorem key_calls (w : World) : Calls Try.prog 15 #[] w fun e w' => e = .returned keyE ∧ Below w.heap.size w w' := by
  go_enter Try.func15, Try.ntmps15
  go_wp2_with fail
  exact bodyPost_ret (results_cell_row rfl _ _ w.heap.size 26 _ (0, 0) _ rfl (heap_alloc_new _ _) Try.underlying26 rfl (by kernel_rfl)) rfl ⟨rfl, below1 _ _⟩

/-- a new slice with these bytes -/
def NewBytes (w : World) (l : List UInt8) (e : Ending) (w' : World) : Prop :=
  ∃ X c, e = .returned (.slice X l.length c) ∧ w'.ownsRow w.heap.size 5 1 (.slice X l.length c) l.length (l.map vb) ∧ Below w.heap.size w w'
def FillB (w : World) (l : List UInt8) (v : Value) (wr : World) : Prop :=
  ∃ X c, v = .slice X l.length c ∧ wr.ownsRow w.heap.size 5 1 (.slice X l.length c) l.length (l.map vb) ∧ Below w.heap.size w wr

theorem vb_ofNat (k : Nat) (h : k < 256) : (Value.int .u8 (k : Int)) = vb (UInt8.ofNat k) := by
  show _ = Value.int .u8 ((UInt8.ofNat k).toNat : Int)
  rw [UInt8.toNat_ofNat', Nat.mod_eq_of_lt (by omega)]

set_option maxRecDepth 100000 in
set_option maxHeartbeats 1000000 in
theorem bytes_calls (n : Nat) (w : World) (hn : n ≤ 100) : Calls Try.prog 13 #[.int .i64 n] w (NewBytes w (upto n)) := by
  go_enter Try.func13, Try.ntmps13
  go_wp2_with fail
  go_loopw [3, 4] (fun v i wr => ∃ k : Nat, k ≤ n ∧ i = .int .i64 k ∧ FillB w (upto k) v wr) (fun _ i _ => n - (intOf i).toNat)
  case atStart => exact ⟨0, Nat.zero_le _, rfl, _, 0, rfl, own_empty _ _ _ _ rfl (Nat.le_refl _), below1 _ _⟩
  case round =>
    obtain ⟨k, hk, rfl, X, c, rfl, hown, hb⟩ := hrel
    have HO := Lib.hid hown
    have HB := Lib.hid hb
    clear hown hb
    have HL := Lib.hid (upto_length k)
    by_cases hlt : k < n
    · have HE := Lib.hid (upto_succ k)
      have hll : (upto k).length ≤ 100 := by rw [upto_length]; omega
      generalize upto k = xs at *
      go_wp2_with (at_builtin; refine wpList_apps _ rfl (.tmp 11) (.tmp 14) 23 rfl w.heap.size 5 (.int .u8 0) 1 Try.underlying23 info_u8 rfl _ xs.length (xs.map vb) rfl (HO.out.alloc _) (some ⟨wr.heap.size, 0, none⟩) 1 1 [.int .u8 (k : Int)] rfl rfl (Rd.one wr _ _) (by simp [Value.oneCell']) (by simp only [maxLen]; omega) (by omega) (Nat.le_trans HB.out.size (by simp)) ?_; intro X' c' w1 hown1 happ1; have HO1 := Lib.hid hown1; have HA1 := Lib.hid happ1; clear hown1 happ1)
      go_roundw
      case rel =>
        refine ⟨k + 1, by omega, by go_num, ?_⟩
        rw [HE.out]
        have hl : (xs ++ [UInt8.ofNat k]).length = xs.length + 1 := by simp
        refine ⟨X', c', by rw [hl], ?_, ?_⟩
        · rw [hl, List.map_append]
          have := HO1.out
          rw [vb_ofNat k (by omega)] at this
          exact this
        · exact (HB.out.alloc HB.out.size _).trans (HA1.out.below (HO.out.alloc _) (Nat.le_trans HB.out.size (by simp)))
      case measure => simp [intOf]; omega
    · obtain rfl : k = n := by omega
      generalize upto k = xs at *
      go_wp2_with fail
      go_ret
      exact ⟨X, c, rfl, HO.out, HB.out⟩

theorem sumE_calls (A : Option Addr) (n cap : Nat) (l : List UInt8) (w : World) (hn : l.length = n) (hr : RB w A l) (hc : n ≤ 1000000) :
    Calls Try.prog 11 #[keyE, .slice A n cap] w fun e w' => e = .returned (vw (sum k0e k1e l)) ∧ Below w.heap.size w w' := by
  rw [keyE_eq]; exact sum_calls k0e k1e A n cap l w hn hr hc

set_option maxRecDepth 100000 in
set_option maxHeartbeats 1000000 in
theorem awake_calls (w : World) : Calls Try.prog 10 #[] w fun e w' => e = .returned (.bool true) ∧ Below w.heap.size w w' := by
  have HN : ∀ w', Hid (Calls Try.prog 11 #[keyE, .slice none 0 0] w' fun e w'' => e = .returned (.int .u64 8246050544436514353) ∧ Below w'.heap.size w' w'') := fun w' => by
    have h := sumE_calls none 0 0 [] w' rfl RB.nil (by omega)
    rw [vec_nil] at h
    exact h
  have H15 : ∀ w' X c, RB w' X (upto 15) → Hid (Calls Try.prog 11 #[keyE, .slice X 15 c] w' fun e w'' => e = .returned (.int .u64 11613035633349379557) ∧ Below w'.heap.size w' w'') := fun w' X c hx => by
    have h := sumE_calls X 15 c (upto 15) w' rfl hx (by omega)
    rw [vec_15] at h
    exact h
  go_enter Try.func10, Try.ntmps10
  go_wp2_with fail
  refine (key_calls w).mono ?_
  rintro e w1 ⟨rfl, hb⟩
  have B1 := Lib.hid hb
  clear hb
  go_wp2_with fail
  have hk := heap_alloc_new w1 (.cells #[.int .u64 506097522914230528, .int .u64 1084818905618843912] 26)
  have B2 := Lib.hid (B1.out.trans ((below1 w1 (.cells #[.int .u64 506097522914230528, .int .u64 1084818905618843912] 26)).mono B1.out.size))
  generalize w1.alloc (.cells #[.int .u64 506097522914230528, .int .u64 1084818905618843912] 26) = w2 at *
  have hs : w1.heap.size < w2.heap.size := (Array.getElem?_eq_some_iff.1 hk).1
  have m0 : ∀ w', Below w2.heap.size w2 w' → w'.cell? ⟨w1.heap.size, 0, none⟩ = some (.int .u64 506097522914230528) := fun w' h => (cell_of_row _ _ 0 _ _ _ ((h.block _ hs).trans hk)).trans rfl
  have m1 : ∀ w', Below w2.heap.size w2 w' → w'.cell? ⟨w1.heap.size, 1, none⟩ = some (.int .u64 1084818905618843912) := fun w' h => (cell_of_row _ _ 1 _ _ _ ((h.block _ hs).trans hk)).trans rfl
  clear hk
  go_region_held3 (fun w' => Below w2.heap.size w2 w') (first | exact (Below.refl _ _).drew | assumption) (first | (go_at_call 13; refine (bytes_calls 15 _ (by omega)).mono ?_; rintro e wX ⟨X, cX, rfl, hoX, hbX⟩; obtain ⟨_, _, eX, _, _, _, rX⟩ := own_form hoX; cases eX; have RX := Lib.hid rX; have hsX : Below w2.heap.size w2 wX := Below.trans (by assumption) (hbX.mono (Below.size (by assumption))); clear hoX hbX rX) | (go_at_call 11; first | (with_reducible refine (HN _).out.mono ?_; rintro e wY ⟨rfl, hbY⟩; have hsY : Below w2.heap.size w2 wY := Below.trans (by assumption) (hbY.mono (Below.size (by assumption))); clear hbY) | (refine (H15 _ X cX RX.out).out.mono ?_; rintro e wZ ⟨rfl, hbZ⟩; have hsZ : Below w2.heap.size w2 wZ := hsX.trans (hbZ.mono hsX.size); clear hbZ)))
  all_goals
    have B3 := Lib.hid (B2.out.trans (hsZ.mono B2.out.size))
    clear m0 m1
    go_wp2_with fail
    go_ret
    exact ⟨rfl, B3.out⟩


set_option maxRecDepth 100000 in
set_option maxHeartbeats 1000000 in
theorem sums_law (w : World) (k0 k1 : BitVec 64) (A : Option Addr) (n cap : Nat) (l : List UInt8) (hn : l.length = n) (hnc : n ≤ cap) (hcm : cap ≤ maxLen) (hr : RB w A l) :
    Calls Try.prog 3 #[vw k0, vw k1, .slice A n cap] w fun e w' => e = .returned (.bool true) ∧ Below w.heap.size w w' := by
  unfold maxLen at hcm
  have HN := Lib.hid hn
  have HR := Lib.hid hr
  clear hn hr
  by_cases h1000 : n ≤ 1000
  · go_enter Try.func3, Try.ntmps3
    go_wp2_with fail; refine (awake_calls w).mono ?_; rintro e w1 ⟨rfl, hb⟩; have B1 := Lib.hid hb; clear hb; go_wp2_with fail
    have hk := heap_alloc_new w1 (.cells #[vw k0, vw k1] 26); have B2 := Lib.hid (B1.out.trans ((below1 w1 (.cells #[vw k0, vw k1] 26)).mono B1.out.size))
    generalize w1.alloc (.cells #[vw k0, vw k1] 26) = w2 at *; have hs : w1.heap.size < w2.heap.size := (Array.getElem?_eq_some_iff.1 hk).1
    have m0 : ∀ w', Below w2.heap.size w2 w' → w'.cell? ⟨w1.heap.size, 0, none⟩ = some (vw k0) := fun w' h => (cell_of_row _ _ 0 _ _ _ ((h.block _ hs).trans hk)).trans rfl; have m1 : ∀ w', Below w2.heap.size w2 w' → w'.cell? ⟨w1.heap.size, 1, none⟩ = some (vw k1) := fun w' h => (cell_of_row _ _ 1 _ _ _ ((h.block _ hs).trans hk)).trans rfl
    have HP : ∀ w', Below w2.heap.size w2 w' → Hid (Calls Try.prog 11 #[.agg #[vw k0, vw k1], .slice A n cap] w' fun e w'' => e = .returned (vw (sum k0 k1 l)) ∧ Below w2.heap.size w2 w'') := fun w' h =>
      calls_below h (sum_calls k0 k1 A n cap l w' HN.out (RB.below HR.out (B2.out.trans (h.mono B2.out.size))) (by omega))
    have HQ : ∀ w', Below w2.heap.size w2 w' → Hid (Calls Try.prog 12 #[.agg #[vw k0, vw k1], .slice A n cap] w' fun e w'' => e = .returned (vw (sum k0 k1 l)) ∧ Below w2.heap.size w2 w'') := fun w' h => by
      have h := calls_below h (rsum_calls k0 k1 A n cap l w' HN.out (RB.below HR.out (B2.out.trans (h.mono B2.out.size))) (by omega))
      rw [← sum_eq] at h
      exact h
    generalize sum k0 k1 l = x at *
    have d0 : decide ((1000 : Int) < (n : Int)) = false := by simp; omega
    clear hk
    go_region_held3 (fun w' => Below w2.heap.size w2 w') (first | exact (Below.refl _ _).drew | assumption) (first | (go_at_call 11; refine (HP _ (by assumption)).out.mono ?_; rintro e wX ⟨rfl, hsX⟩) | (go_at_call 12; refine (HQ _ (by assumption)).out.mono ?_; rintro e wY ⟨rfl, hsY⟩))
    all_goals
      clear m0 m1 HP HQ
      go_wp2_with fail
      go_ret
      exact ⟨rfl, by first | exact B2.out.trans (hsY.mono B2.out.size) | exact B2.out.trans (hsX.mono B2.out.size)⟩
  · go_enter Try.func3, Try.ntmps3
    go_wp2_with fail; refine (awake_calls w).mono ?_; rintro e w1 ⟨rfl, hb⟩; have B1 := Lib.hid hb; clear hb; go_wp2_with fail
    have hk := heap_alloc_new w1 (.cells #[vw k0, vw k1] 26); have B2 := Lib.hid (B1.out.trans ((below1 w1 (.cells #[vw k0, vw k1] 26)).mono B1.out.size))
    generalize w1.alloc (.cells #[vw k0, vw k1] 26) = w2 at *; have hs : w1.heap.size < w2.heap.size := (Array.getElem?_eq_some_iff.1 hk).1
    clear hk
    have d0 : decide ((1000 : Int) < (n : Int)) = true := by simp; omega
    go_quiet (fail)
    go_wp2_with fail
    go_ret
    exact ⟨rfl, blw_drewN B2.out _⟩

theorem vectors_calls (w : World) : Calls Try.prog 17 #[] w fun e w' => e = .returned (.slice (some ⟨w.heap.size, 0, none⟩) 9 9) ∧ Rd w' (some ⟨w.heap.size, 0, none⟩) (vecs.map vw) ∧ Below w.heap.size w w' := by
  go_enter Try.func17, Try.ntmps17
  go_wp2_with fail
  go_ret
  exact ⟨rfl, Rd.new w (vecs.map vw) _ (0, 0), below1 _ _⟩

theorem newE_calls (w : World) :
    Calls Try.prog 14 #[keyE] w fun e w' => ∃ g, e = .returned (.pointer (some ⟨g, 0, none⟩)) ∧ IsH w' g (new k0e k1e) ∧ w.heap.size ≤ g ∧ Below w.heap.size w w' := by
  rw [keyE_eq]; exact new_calls k0e k1e w

set_option maxRecDepth 100000 in
set_option maxHeartbeats 1000000 in
theorem vectors_law (w : World) (x : UInt8) :
    Calls Try.prog 4 #[vb x] w fun e w' => e = .returned (.bool true) ∧ Below w.heap.size w w' := by
  obtain ⟨i, HI⟩ : ∃ i, Hid (i = x.toNat % 9) := ⟨_, rfl⟩
  have hi : i < 9 := by rw [HI.out]; omega
  have hx : (x.toNat : Int) % 9 = (i : Int) := by rw [HI.out]; omega
  have h255 : x.toNat ≤ 255 := by have := x.toNat_lt; omega
  have hu := upto_length i
  have HV : Hid (sum k0e k1e (upto i) = vecs.getD i 0) := vec_eq ⟨i, hi⟩
  have HS : Hid (sum k0e k1e (upto i) = sumH (wrs (new k0e k1e) (upto i))) := rfl
  have HC : Hid ((wrs (new k0e k1e) (upto i)).count ≤ 1000000) := by show _ ≤ _; rw [wrs_count]; show 0 + _ ≤ _; omega
  have HU := Lib.hid hu
  have HG : Hid ((vecs.map vw)[i]? = some (vw (vecs.getD i 0))) := by
    show _ = _
    have : i < vecs.length := hi
    simp [List.getElem?_eq_getElem this]
  clear hu
  go_enter Try.func4, Try.ntmps4
  go_wp2_with fail
  refine (awake_calls w).mono ?_
  rintro e w1 ⟨rfl, hb⟩
  have B1 := Lib.hid hb
  clear hb
  go_wp2_with fail
  rw [hx]
  clear hx
  refine (bytes_calls i w1 (by omega)).mono ?_
  rintro e w2 ⟨X, cX, rfl, ho, hb⟩
  rw [HU.out] at ho
  rw [HU.out]
  obtain ⟨_, _, eX, _, _, _, rX⟩ := own_form ho
  cases eX
  have RX := Lib.hid rX
  have B2 := Lib.hid (B1.out.trans (hb.mono B1.out.size))
  clear ho hb rX
  go_wp2_with fail
  refine (key_calls w2).mono ?_
  rintro e w3 ⟨rfl, hb⟩
  have B3 := Lib.hid (B2.out.trans (hb.mono B2.out.size))
  have RX3 := Lib.hid (Rd.below RX.out hb)
  clear hb
  go_wp2_with fail
  refine (newE_calls w3).mono ?_
  rintro e w4 ⟨g, rfl, hh, hg, hb⟩
  have B4 := Lib.hid (B3.out.trans (hb.mono B3.out.size))
  have RX4 := Lib.hid (Rd.below RX3.out hb)
  have H4 := Lib.hid hh
  have hgw : w.heap.size ≤ g := by have := B3.out.size; omega
  have HGX : Hid (0 < i → ∀ b off, X = some ⟨b, off, none⟩ → b ≠ g) := by
    rintro hp b off rfl
    obtain ⟨b', off', e, hlt, _⟩ := RB.cells (l := upto i) RX3.out (by rw [HU.out]; exact hp)
    cases e; omega
  clear hb hh
  go_wp2_with fail
  refine (write_calls g _ X i cX (upto i) w4 H4.out HU.out RX4.out HGX.out (by show 0 + i ≤ _; omega)).mono ?_
  rintro e w5 ⟨rfl, hh, hcg⟩
  have B5 := Lib.hid (B4.out.trans (hcg.below B4.out.size (by simpa using hgw)))
  have H5 := Lib.hid hh
  have RX5 : Hid (RB w5 X (upto i)) := by
    by_cases hp : 0 < i
    · exact hcg.rd RX4.out (fun b off e => by have := HGX.out hp b off e; simpa using this)
    · have : upto i = [] := List.eq_nil_of_length_eq_zero (by rw [HU.out]; omega)
      rw [this]; exact RB.nil
  clear hh hcg
  generalize wrs (new k0e k1e) (upto i) = hz at *
  go_wp2_with fail
  refine (vectors_calls w5).mono ?_
  rintro e w6 ⟨rfl, hv, hb⟩
  have B6 := Lib.hid (B5.out.trans (hb.mono B5.out.size))
  have RX6 := Lib.hid (RB.below RX5.out hb)
  have H6 := Lib.hid (H5.out.below hb)
  obtain ⟨b, off, e, _, hcv⟩ := Rd.cells hv (by simp [vecs])
  cases e
  have x0 := hcv i _ HG.out
  have i0 : (0 : Int) ≤ (i : Int) := by omega
  have i1 : (i : Int) < 9 := by omega
  clear hv hb hcv
  rw [← HV.out] at x0
  simp only [Nat.zero_add] at x0
  obtain ⟨y, HY⟩ : ∃ y, Hid (y = sum k0e k1e (upto i)) := ⟨_, rfl⟩
  rw [← HY.out] at x0
  go_wp2_with fail
  refine (key_calls w6).mono ?_
  rintro e w7 ⟨rfl, hb⟩
  have B7 := Lib.hid (B6.out.trans (hb.mono B6.out.size))
  have RX7 := Lib.hid (RB.below RX6.out hb)
  have H7 := Lib.hid (H6.out.below hb)
  clear hb x0
  go_wp2_with fail
  refine (sumE_calls X i cX (upto i) w7 HU.out RX7.out (by omega)).mono ?_
  rintro e w8 ⟨rfl, hb⟩
  rw [← HY.out]
  have B8 := Lib.hid (B7.out.trans (hb.mono B7.out.size))
  have H8 := Lib.hid (H7.out.below hb)
  clear hb
  go_wp2_with fail
  refine (sumH_calls g hz w8 H8.out HC.out).mono ?_
  rintro e w9 ⟨rfl, hb⟩
  rw [← HS.out, ← HY.out]
  have B9 := Lib.hid (B8.out.trans (hb.mono B8.out.size))
  clear hb
  go_wp2_with fail
  go_ret
  exact ⟨rfl, B9.out⟩
end Sp
end Go.Proofs.Ythjplfflkdnfnaa
