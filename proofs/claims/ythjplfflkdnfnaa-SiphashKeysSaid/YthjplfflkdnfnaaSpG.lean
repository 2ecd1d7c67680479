/- The walk of the law SiphashChunks. -/
import Derived.Test.YthjplfflkdnfnaaSpF
import Derived.Test.YthjplfflkdnfnaaCut
namespace Go.Proofs.Ythjplfflkdnfnaa
open Go.RowKit
namespace Sp
open Sip

theorem size_u8 : (Try.prog.info? 5).map (·.size) = some 1 := by kernel_rfl
theorem elem_u8 : Try.prog.elem 23 = 5 := by kernel_rfl

theorem RB.ge {w : World} {A : Option Addr} {l : List UInt8} {n : Nat} (h : RB w A l) (hn : l.length = n) (g : Nat) (hg : w.heap.size ≤ g) : 0 < n → ∀ b off, A = some ⟨b, off, none⟩ → b ≠ g := by
  rintro hp b off rfl
  obtain ⟨b', off', e, hlt, _⟩ := RB.cells h (by omega)
  cases e; omega

set_option maxRecDepth 100000 in
set_option maxHeartbeats 1000000 in
theorem chunks_law (w : World) (k0 k1 : BitVec 64) (A : Option Addr) (n cap : Nat) (l : List UInt8) (hn : l.length = n) (hnc : n ≤ cap) (hcm : cap ≤ maxLen) (hr : RB w A l)
    (C : Option Addr) (m ccap : Nat) (cu : List UInt8) (hm : cu.length = m) (hmc : m ≤ ccap) (hccm : ccap ≤ maxLen) (hrc : RB w C cu) :
    Calls Try.prog 5 #[vw k0, vw k1, .slice A n cap, .slice C m ccap] w fun e w' => e = .returned (.bool true) ∧ Below w.heap.size w w' := by
  unfold maxLen at hcm hccm
  have HN := Lib.hid hn
  have HR := Lib.hid hr
  have HM := Lib.hid hm
  have HRC := Lib.hid hrc
  clear hn hr hm hrc
  by_cases h600 : n ≤ 600
  · by_cases h40 : m ≤ 40
    · have c600 : decide ((600 : Int) < (n : Int)) = false := by simp; omega
      have c40 : decide ((40 : Int) < (m : Int)) = false := by simp; omega
      go_enter Try.func5, Try.ntmps5
      go_wp2_with fail; refine (awake_calls w).mono ?_; rintro e w1 ⟨rfl, hb⟩; have B1 := Lib.hid hb; clear hb; go_wp2_with fail
      refine (new_calls k0 k1 _).mono ?_
      rintro e w3 ⟨g, rfl, hh, hg, hb⟩
      have hk := heap_alloc_new w1 (.cells #[vw k0, vw k1] 26); have B2 := Lib.hid (B1.out.trans ((below1 w1 (.cells #[vw k0, vw k1] 26)).mono B1.out.size))
      generalize w1.alloc (.cells #[vw k0, vw k1] 26) = w2 at *
      have hs : w1.heap.size < w2.heap.size := (Array.getElem?_eq_some_iff.1 hk).1
      have B3 := Lib.hid (B2.out.trans (hb.mono B2.out.size))
      have HK3 := Lib.hid ((hb.block _ hs).trans hk)
      have H3 := Lib.hid hh
      have hgw : w.heap.size ≤ g := by have := B2.out.size; omega
      have hgk : w1.heap.size < g := by omega
      clear hh hb hk
      go_wp2_with fail
      go_loopw [11, 12] (fun a i wr => ∃ k t : Nat, k ≤ m ∧ t ≤ n ∧ i = .int .i64 k ∧ a = .int .i64 t ∧ IsH wr g (wrs (new k0 k1) (l.take t)) ∧ Chg [g] w3 wr) (fun _ i _ => m - (intOf i).toNat)
      case atStart => exact ⟨0, 0, Nat.zero_le _, Nat.zero_le _, rfl, rfl, H3.out, Chg.refl _ _⟩
      case round =>
        obtain ⟨k, t, hk, ht, rfl, rfl, hh, hcg⟩ := hrel
        have Hr := Lib.hid hh
        have Cr := Lib.hid hcg
        have Br := Lib.hid (B3.out.trans (hcg.below B3.out.size (by simpa using hgw)))
        clear hh hcg
        by_cases hlt : k < m
        · have hkl : k < cu.length := by have := HM.out; omega
          obtain ⟨b, off, rfl, _, hcc⟩ := RB.cells (RB.below HRC.out Br.out) (by omega)
          have x0 := hcc k hkl
          have i0 : (0 : Int) ≤ (k : Int) := by omega
          have i1 : (k : Int) < (m : Int) := by omega
          clear hcc
          generalize cu[k] = c at *
          have hc255 : c.toNat ≤ 255 := by have := c.toNat_lt; omega
          have key : ∀ t2 : Nat, t ≤ t2 → t2 ≤ n → ∀ A' len cap', A' = cutA A t cap → len = t2 - t → Hid (Calls Try.prog 16 #[.pointer (some ⟨g, 0, none⟩), .slice A' len cap'] wr fun e w' =>
              e = .returned (.tuple #[]) ∧ IsH w' g (wrs (new k0 k1) (l.take t2)) ∧ Chg [g] w3 w') := by
            rintro t2 h1 h2 A' len cap' rfl rfl
            have hlen : ((l.drop t).take (t2 - t)).length = t2 - t := by simp; have := HN.out; omega
            have hrd : RB w (cutA A t cap) ((l.drop t).take (t2 - t)) := RB.take (RB.cut HR.out t cap (by have := HN.out; omega)) _
            have hcount : (wrs (new k0 k1) (l.take t)).count ≤ 600 := by rw [wrs_count]; show 0 + _ ≤ _; simp; omega
            refine (write_calls g _ (cutA A t cap) (t2 - t) cap' _ wr Hr.out hlen (RB.below hrd Br.out) (RB.ge hrd hlen g hgw) (by omega)).mono ?_
            rintro e w' ⟨he, hh, hcg⟩
            refine ⟨he, ?_, Cr.out.trans' hcg⟩
            rw [← wrs_append] at hh
            rw [show l.take t2 = l.take t ++ (l.drop t).take (t2 - t) by rw [← List.take_add, Nat.add_sub_cancel' h1]]
            exact hh
          by_cases hct : cap = t
          · have hif : ∀ x y : Option Addr, (if cap = t then x else y) = x := fun x y => if_pos hct
            have HCT : Hid (A = cutA A t cap) := by show _ = _; unfold cutA; rw [if_pos hct]
            have htn : t = n := by omega
            have hmn : n ≤ t + c.toNat := by omega
            clear hct htn
            go_wp2_with fail
            refine (key n ht (Nat.le_refl _) _ _ _ HCT.out rfl).out.mono ?_
            rintro e w4 ⟨rfl, hh, hcg⟩
            have H4 := Lib.hid hh
            have C4 := Lib.hid hcg
            clear hh hcg
            go_wp2_with fail
            go_roundw
            case rel => exact ⟨k + 1, n, by omega, Nat.le_refl _, by go_num, rfl, H4.out, C4.out⟩
            case measure => simp [intOf]; omega
          · have HCT : Hid (Option.map (fun x => x.add t) A = cutA A t cap) := by show _ = _; unfold cutA; rw [if_neg hct]
            by_cases hmn : n ≤ t + c.toNat
            · go_wp2_with fail
              refine (key n ht (Nat.le_refl _) _ _ _ HCT.out rfl).out.mono ?_
              rintro e w4 ⟨rfl, hh, hcg⟩
              have H4 := Lib.hid hh
              have C4 := Lib.hid hcg
              clear hh hcg
              go_wp2_with fail
              go_roundw
              case rel => exact ⟨k + 1, n, by omega, Nat.le_refl _, by go_num, rfl, H4.out, C4.out⟩
              case measure => simp [intOf]; omega
            · go_wp2_with fail
              refine (key (t + c.toNat) (by omega) (by omega) _ _ _ HCT.out (by omega)).out.mono ?_
              rintro e w4 ⟨rfl, hh, hcg⟩
              have H4 := Lib.hid hh
              have C4 := Lib.hid hcg
              clear hh hcg
              go_wp2_with fail
              go_roundw
              case rel => exact ⟨k + 1, t + c.toNat, by omega, by omega, by go_num, by go_num, H4.out, C4.out⟩
              case measure => simp [intOf]; omega
        · have HS : Hid (sum k0 k1 l = sumH (wrs (new k0 k1) l)) := rfl
          have HC : Hid ((wrs (new k0 k1) l).count ≤ 1000000) := by show _ ≤ _; rw [wrs_count]; show 0 + _ ≤ _; have := HN.out; omega
          have key : ∀ A' len cap', A' = cutA A t cap → len = n - t → Hid (Calls Try.prog 16 #[.pointer (some ⟨g, 0, none⟩), .slice A' len cap'] wr fun e w' =>
              e = .returned (.tuple #[]) ∧ IsH w' g (wrs (new k0 k1) l) ∧ Chg [g] w3 w') := by
            rintro A' len cap' rfl rfl
            have hlen : (l.drop t).length = n - t := by simp; have := HN.out; omega
            have hrd : RB w (cutA A t cap) (l.drop t) := RB.cut HR.out t cap (by have := HN.out; omega)
            have hcount : (wrs (new k0 k1) (l.take t)).count ≤ 600 := by rw [wrs_count]; show 0 + _ ≤ _; simp; omega
            refine (write_calls g _ (cutA A t cap) (n - t) cap' _ wr Hr.out hlen (RB.below hrd Br.out) (RB.ge hrd hlen g hgw) (by omega)).mono ?_
            rintro e w' ⟨he, hh, hcg⟩
            refine ⟨he, ?_, Cr.out.trans' hcg⟩
            rw [← wrs_append, List.take_append_drop] at hh
            exact hh
          by_cases hct : cap = t
          · have hif : ∀ x y : Option Addr, (if cap = t then x else y) = x := fun x y => if_pos hct
            have HCT : Hid (A = cutA A t cap) := by show _ = _; unfold cutA; rw [if_pos hct]
            clear hct
            go_wp2_with fail
            refine (key _ _ _ HCT.out rfl).out.mono ?_
            rintro e w4 ⟨rfl, hh, hcg⟩
            have H4 := Lib.hid hh
            have B4 := Lib.hid (B3.out.trans (hcg.below B3.out.size (by simpa using hgw)))
            have hk4 := hcg.blk HK3.out (by simp; omega)
            have hs4 : w1.heap.size < w4.heap.size := (Array.getElem?_eq_some_iff.1 hk4).1
            have m0 : ∀ w', Below w4.heap.size w4 w' → w'.cell? ⟨w1.heap.size, 0, none⟩ = some (vw k0) := fun w' h => (cell_of_row _ _ 0 _ _ _ ((h.block _ hs4).trans hk4)).trans rfl
            have m1 : ∀ w', Below w4.heap.size w4 w' → w'.cell? ⟨w1.heap.size, 1, none⟩ = some (vw k1) := fun w' h => (cell_of_row _ _ 1 _ _ _ ((h.block _ hs4).trans hk4)).trans rfl
            have HP : ∀ w', Below w4.heap.size w4 w' → Hid (Calls Try.prog 11 #[.agg #[vw k0, vw k1], .slice A n cap] w' fun e w'' => e = .returned (vw (sum k0 k1 l)) ∧ Below w4.heap.size w4 w'') := fun w' h =>
              calls_below h (sum_calls k0 k1 A n cap l w' HN.out (RB.below HR.out (B4.out.trans (h.mono B4.out.size))) (by omega))
            have HQ : ∀ w', Below w4.heap.size w4 w' → Hid (Calls Try.prog 18 #[.pointer (some ⟨g, 0, none⟩)] w' fun e w'' => e = .returned (vw (sum k0 k1 l)) ∧ Below w4.heap.size w4 w'') := fun w' h => by
              rw [HS.out]; exact calls_below h (sumH_calls g _ w' (H4.out.below h) HC.out)
            clear hh hcg hk4 key
            generalize sum k0 k1 l = x at *
            go_wp2_with fail
            go_region_held3 (fun w' => Below w4.heap.size w4 w') (first | exact (Below.refl _ _).drew | assumption) (first | (go_at_call 11; refine (HP _ (by assumption)).out.mono ?_; rintro e wX ⟨rfl, hsX⟩) | (go_at_call 18; refine (HQ _ (by assumption)).out.mono ?_; rintro e wY ⟨rfl, hsY⟩))
            all_goals
              clear m0 m1 HP HQ
              go_wp2_with fail
              go_ret
              exact ⟨rfl, by first | exact B4.out.trans (hsY.mono B4.out.size) | exact B4.out.trans (hsX.mono B4.out.size)⟩
          · have HCT : Hid (Option.map (fun x => x.add t) A = cutA A t cap) := by show _ = _; unfold cutA; rw [if_neg hct]
            go_wp2_with fail
            refine (key _ _ _ HCT.out rfl).out.mono ?_
            rintro e w4 ⟨rfl, hh, hcg⟩
            have H4 := Lib.hid hh
            have B4 := Lib.hid (B3.out.trans (hcg.below B3.out.size (by simpa using hgw)))
            have hk4 := hcg.blk HK3.out (by simp; omega)
            have hs4 : w1.heap.size < w4.heap.size := (Array.getElem?_eq_some_iff.1 hk4).1
            have m0 : ∀ w', Below w4.heap.size w4 w' → w'.cell? ⟨w1.heap.size, 0, none⟩ = some (vw k0) := fun w' h => (cell_of_row _ _ 0 _ _ _ ((h.block _ hs4).trans hk4)).trans rfl
            have m1 : ∀ w', Below w4.heap.size w4 w' → w'.cell? ⟨w1.heap.size, 1, none⟩ = some (vw k1) := fun w' h => (cell_of_row _ _ 1 _ _ _ ((h.block _ hs4).trans hk4)).trans rfl
            have HP : ∀ w', Below w4.heap.size w4 w' → Hid (Calls Try.prog 11 #[.agg #[vw k0, vw k1], .slice A n cap] w' fun e w'' => e = .returned (vw (sum k0 k1 l)) ∧ Below w4.heap.size w4 w'') := fun w' h =>
              calls_below h (sum_calls k0 k1 A n cap l w' HN.out (RB.below HR.out (B4.out.trans (h.mono B4.out.size))) (by omega))
            have HQ : ∀ w', Below w4.heap.size w4 w' → Hid (Calls Try.prog 18 #[.pointer (some ⟨g, 0, none⟩)] w' fun e w'' => e = .returned (vw (sum k0 k1 l)) ∧ Below w4.heap.size w4 w'') := fun w' h => by
              rw [HS.out]; exact calls_below h (sumH_calls g _ w' (H4.out.below h) HC.out)
            clear hh hcg hk4 key
            generalize sum k0 k1 l = x at *
            go_wp2_with fail
            go_region_held3 (fun w' => Below w4.heap.size w4 w') (first | exact (Below.refl _ _).drew | assumption) (first | (go_at_call 11; refine (HP _ (by assumption)).out.mono ?_; rintro e wX ⟨rfl, hsX⟩) | (go_at_call 18; refine (HQ _ (by assumption)).out.mono ?_; rintro e wY ⟨rfl, hsY⟩))
            all_goals
              clear m0 m1 HP HQ
              go_wp2_with fail
              go_ret
              exact ⟨rfl, by first | exact B4.out.trans (hsY.mono B4.out.size) | exact B4.out.trans (hsX.mono B4.out.size)⟩
    · go_enter Try.func5, Try.ntmps5
      go_wp2_with fail; refine (awake_calls w).mono ?_; rintro e w1 ⟨rfl, hb⟩; have B1 := Lib.hid hb; clear hb; go_wp2_with fail
      go_ret
      exact ⟨rfl, B1.out⟩
  · go_enter Try.func5, Try.ntmps5
    go_wp2_with fail; refine (awake_calls w).mono ?_; rintro e w1 ⟨rfl, hb⟩; have B1 := Lib.hid hb; clear hb; go_wp2_with fail
    go_ret
    exact ⟨rfl, B1.out⟩
end Sp
end Go.Proofs.Ythjplfflkdnfnaa
