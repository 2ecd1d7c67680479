/- The walk of the law SiphashContinues. -/
import Derived.Test.YthjplfflkdnfnaaSpH
import Derived.Test.YthjplfflkdnfnaaOpenN
namespace Go.Proofs.Ythjplfflkdnfnaa
open Go.RowKit
namespace Sp
open Sip

/-- what the loop keeps -/
def ContRel (w w5 : World) (g K : Nat) (k0 k1 : BitVec 64) (acc : List UInt8) (v : Value) (wr : World) : Prop :=
  ∃ X c, v = .slice X acc.length c ∧ wr.ownsRow w5.heap.size 5 1 (.slice X acc.length c) acc.length (acc.map vb) ∧ IsH wr g (wrs (new k0 k1) acc) ∧ wr.heap[K]? = some (.cells #[vw k0, vw k1] 26 (0, 0)) ∧ Below w.heap.size w wr ∧ w5.heap.size ≤ wr.heap.size

set_option maxRecDepth 100000 in
set_option maxHeartbeats 2000000 in
theorem continues_law (w : World) (k0 k1 : BitVec 64) (A : Option Addr) (n cap : Nat) (rows : List Bs) (hn : rows.length = n) (hnc : n ≤ cap) (hcm : cap ≤ maxLen) (hr : Rd w A (rows.map Bs.val)) (hok : ∀ r ∈ rows, r.ok w) :
    Calls Try.prog 6 #[vw k0, vw k1, .slice A n cap] w fun e w' => e = .returned (.bool true) ∧ Below w.heap.size w w' := by
  unfold maxLen at hcm
  have HN := Lib.hid hn
  have HR := Lib.hid hr
  have HOK := Lib.hid hok
  clear hn hr hok
  by_cases h40 : n ≤ 40
  · have c40 : decide ((40 : Int) < (n : Int)) = false := by simp; omega
    go_enter Try.func6, Try.ntmps6
    go_wp2_with fail; refine (awake_calls w).mono ?_; rintro e w1 ⟨rfl, hb⟩; have B1 := Lib.hid hb; clear hb; go_wp2_with fail
    refine (new_calls k0 k1 _).mono ?_
    rintro e w3 ⟨g, rfl, hh, hg, hb⟩
    have hk := heap_alloc_new w1 (.cells #[vw k0, vw k1] 26); have B2 := Lib.hid (B1.out.trans ((below1 w1 (.cells #[vw k0, vw k1] 26)).mono B1.out.size))
    generalize w1.alloc (.cells #[vw k0, vw k1] 26) = w2 at *
    have hs : w1.heap.size < w2.heap.size := (Array.getElem?_eq_some_iff.1 hk).1
    have B3 := Lib.hid (B2.out.trans (hb.mono B2.out.size))
    have HK3 := Lib.hid ((hb.block _ hs).trans hk)
    have H3 := Lib.hid hh
    have hgw : w.heap.size ≤ g := by have := B2.out.size; omega
    have hgk : w1.heap.size < g := by omega
    have hs3 : w1.heap.size < w3.heap.size := by have := hb.size; omega
    have hg3 : g < w3.heap.size := (Array.getElem?_eq_some_iff.1 hh).1
    have m0 : ∀ w', Below w3.heap.size w3 w' → w'.cell? ⟨w1.heap.size, 0, none⟩ = some (vw k0) := fun w' h => (cell_of_row _ _ 0 _ _ _ ((h.block _ hs3).trans HK3.out)).trans rfl
    have m1 : ∀ w', Below w3.heap.size w3 w' → w'.cell? ⟨w1.heap.size, 1, none⟩ = some (vw k1) := fun w' h => (cell_of_row _ _ 1 _ _ _ ((h.block _ hs3).trans HK3.out)).trans rfl
    have HP : ∀ w', Below w3.heap.size w3 w' → Hid (Calls Try.prog 12 #[.agg #[vw k0, vw k1], .slice none 0 0] w' fun e w'' => e = .returned (vw (sum k0 k1 [])) ∧ Below w3.heap.size w3 w'') := fun w' h => by
      have h := calls_below h (rsum_calls k0 k1 none 0 0 [] w' rfl RB.nil (by omega))
      rw [← sum_eq] at h
      exact h
    have HQ : ∀ w', Below w3.heap.size w3 w' → Hid (Calls Try.prog 18 #[.pointer (some ⟨g, 0, none⟩)] w' fun e w'' => e = .returned (vw (sum k0 k1 [])) ∧ Below w3.heap.size w3 w'') := fun w' h =>
      calls_below h (sumH_calls g (new k0 k1) w' (H3.out.below h) (by show 0 ≤ _; omega))
    clear hh hb hk
    generalize sum k0 k1 [] = x at *
    go_wp2_with fail
    go_region_held3 (fun w' => Below w3.heap.size w3 w') (first | exact (Below.refl _ _).drew | assumption) (first | (go_at_call 12; refine (HP _ (by assumption)).out.mono ?_; rintro e wX ⟨rfl, hsX⟩) | (go_at_call 18; refine (HQ _ (by assumption)).out.mono ?_; rintro e wY ⟨rfl, hsY⟩))
    have H5 := Lib.hid (H3.out.below hsX)
    have B5 := Lib.hid (B3.out.trans (hsX.mono B3.out.size))
    have HK5 := Lib.hid ((hsX.block _ hs3).trans HK3.out)
    have hs5 : w3.heap.size ≤ wX.heap.size := hsX.size
    clear m0 m1 HP HQ hsX hsY HK3 H3 B3 B2 B1
    obtain ⟨w5, rfl⟩ : ∃ w5 : World, w5 = wX := ⟨_, rfl⟩
    go_wp2_with fail
    have H6 : Hid (ContRel w w5 g w1.heap.size k0 k1 [] (.slice (some ⟨w5.heap.size, 0, none⟩) 0 0) (w5.alloc (.cells #[] 5))) :=
      ⟨_, 0, rfl, own_empty _ _ _ _ rfl (Nat.le_refl _), H5.out.below (below1 _ _), (Below.heap_alloc _ _ _ (by omega)).trans HK5.out, B5.out.trans ((below1 _ _).mono B5.out.size), by simp⟩
    go_loopw [9, 10] (fun v i wr => ∃ k : Nat, k ≤ n ∧ i = .int .i64 k ∧ ∃ acc : List UInt8, acc.length ≤ 40 * k ∧ ContRel w w5 g w1.heap.size k0 k1 acc v wr) (fun _ i _ => n - (intOf i).toNat)
    case atStart => exact ⟨0, Nat.zero_le _, rfl, [], by simp, H6.out⟩
    case round =>
      obtain ⟨k, hk, rfl, acc, hacc, X, c, rfl, hown, hh, hkk, hbb, hsz⟩ := hrel
      have HO := Lib.hid hown
      have HH := Lib.hid hh
      have HK := Lib.hid hkk
      have HB := Lib.hid hbb
      clear hown hh hkk hbb
      by_cases hlt : k < n
      · have hkl : k < rows.length := by have := HN.out; omega
        obtain ⟨b, off, rfl, hbw, hcl⟩ := Rd.cells HR.out (by simp; omega)
        have x0 : ∀ w', Below w.heap.size w w' → w'.cell? ⟨b, off + k, none⟩ = some rows[k].val := fun w' h => (h.cell (p := ⟨b, off + k, none⟩) hbw).trans (hcl k _ (by simp [hkl]))
        obtain ⟨ho1, ho2, ho3⟩ := HOK.out rows[k] (List.getElem_mem hkl)
        unfold maxLen at ho2
        have i0 : (0 : Int) ≤ (k : Int) := by omega
        have i1 : (k : Int) < (n : Int) := by omega
        have HX0 := Lib.hid x0
        have HE : Hid (rows[k].val = .slice rows[k].A rows[k].l.length rows[k].c) := rfl
        clear hcl x0
        generalize rows[k] = r at *
        obtain ⟨rA, rc, rl⟩ := r
        simp only at ho1 ho2 ho3 HE
        have y0 := HX0.out wr HB.out
        rw [HE.out] at y0
        have HRL := Lib.hid ho3
        clear ho3
        by_cases hrl : rl.length ≤ 40
        · have d40 : decide ((40 : Int) < (rl.length : Int)) = false := by simp; omega
          have hcnt : (wrs (new k0 k1) acc).count ≤ 1600 := by rw [wrs_count]; show 0 + _ ≤ _; omega
          go_wp2_with fail
          refine (write_calls g _ rA rl.length rc rl wr HH.out rfl (RB.below HRL.out HB.out) (RB.ge HRL.out rfl g hgw) (by omega)).mono ?_
          rintro e w6 ⟨rfl, hh, hcg⟩
          rw [← wrs_append] at hh
          have HH6 := Lib.hid hh
          have HK6 := Lib.hid (hcg.blk HK.out (by simp; omega))
          have B6 := Lib.hid (HB.out.trans (hcg.below HB.out.size (by simp; omega)))
          have HO6 := Lib.hid (hcg.own HO.out (fun b hb => by have := (HO.out.lt b hb).1; simp; omega))
          have hs6 : w5.heap.size ≤ w6.heap.size := Nat.le_trans hsz hcg.size
          have y6 := HX0.out w6 B6.out
          rw [HE.out] at y6
          have hgr : g < w5.heap.size := by omega
          have hkr : w1.heap.size < w5.heap.size := by omega
          clear hh hcg y0 HH HK HB HO
          go_upto_region 17 with (at_builtin; refine wpList_apps _ rfl (.tmp 50) (.tmp 54) 23 rfl w5.heap.size 5 (.int .u8 0) 1 Try.underlying23 info_u8 rfl _ acc.length (acc.map vb) rfl HO6.out rA rl.length rc (rl.map vb) rfl (by simp) (RB.below HRL.out B6.out) (vb_one _) (by simp only [maxLen]; omega) (by omega) hs6 ?_; intro X7 c7 w7 hown7 happ7; have HO7 := Lib.hid hown7; have HP7 := Lib.hid happ7; clear hown7 happ7)
          have hb7 := HP7.out.below HO6.out hs6
          have HH7 : Hid (IsH w7 g (wrs (new k0 k1) (acc ++ rl))) := (hb7.block _ hgr).trans HH6.out
          have HK7 := Lib.hid ((hb7.block _ hkr).trans HK6.out)
          have B7 := Lib.hid (B6.out.trans (hb7.mono (by have := B5.out.size; omega)))
          have hs7 : w5.heap.size ≤ w7.heap.size := Nat.le_trans hs6 HP7.out.size
          obtain ⟨acc2, HA2⟩ : ∃ acc2, Hid (acc2 = acc ++ rl) := ⟨_, rfl⟩
          have hl2 : acc2.length = acc.length + rl.length := by rw [HA2.out]; simp
          have ho7 : w7.ownsRow w5.heap.size 5 1 (.slice X7 acc2.length c7) acc2.length (acc2.map vb) := by
            rw [hl2, HA2.out, List.map_append]; exact HO7.out
          have HO7' := Lib.hid ho7
          rw [← HA2.out] at HH7
          obtain ⟨_, _, eX, _, _, _, rX⟩ := own_form ho7
          cases eX
          have RX := Lib.hid rX
          have hacc2 : acc2.length ≤ 40 * (k + 1) := by rw [hl2]; omega
          rw [← hl2]
          have HS : Hid (sum k0 k1 acc2 = sumH (wrs (new k0 k1) acc2)) := rfl
          have HSE := Lib.hid (sum_eq k0 k1 acc2)
          have HC : Hid ((wrs (new k0 k1) acc2).count ≤ 1000000) := by show _ ≤ _; rw [wrs_count]; show 0 + _ ≤ _; omega
          have z0 : w7.cell? ⟨w1.heap.size, 0, none⟩ = some (vw k0) := (cell_of_row _ _ 0 _ _ _ HK7.out).trans rfl
          have z1 : w7.cell? ⟨w1.heap.size, 1, none⟩ = some (vw k1) := (cell_of_row _ _ 1 _ _ _ HK7.out).trans rfl
          clear hb7 ho7 rX HO7 HP7 HO6 HH6 HK6 B6 hl2 y6
          have hk7 : w1.heap.size < w7.heap.size := by omega
          have hg7 : g < w7.heap.size := by omega
          go_wp2_with fail
          refine (rsum_calls k0 k1 X7 acc2.length c7 acc2 w7 rfl RX.out (by omega)).mono ?_
          rintro e w8 ⟨rfl, hb⟩
          rw [← HSE.out, HS.out]
          have HSm : ∀ w', IsH w' g (wrs (new k0 k1) acc2) → Hid (Calls Try.prog 18 #[.pointer (some ⟨g, 0, none⟩)] w' fun e w'' => e = .returned (vw (sumH (wrs (new k0 k1) acc2))) ∧ Below w'.heap.size w' w'') := fun w' h => sumH_calls g _ w' h HC.out
          have HH8 := Lib.hid (HH7.out.below hb)
          have HK8 := Lib.hid ((hb.block _ hk7).trans HK7.out)
          have B8 := Lib.hid (B7.out.trans (hb.mono B7.out.size))
          have HO8 := Lib.hid (own_below HO7'.out hb)
          have hs8 : w7.heap.size ≤ w8.heap.size := hb.size
          clear hb z0 z1 HO7' HH7 HK7 B7
          generalize sumH (wrs (new k0 k1) acc2) = y at *
          go_wp2_with fail
          refine (HSm w8 HH8.out).out.mono ?_
          rintro e w9 ⟨rfl, hb⟩
          have HH9 := Lib.hid (HH8.out.below hb)
          have HK9 := Lib.hid ((hb.block w1.heap.size (by omega)).trans HK8.out)
          have B9 := Lib.hid (B8.out.trans (hb.mono B8.out.size))
          have HO9 := Lib.hid (own_below HO8.out hb)
          have hs9 : w8.heap.size ≤ w9.heap.size := hb.size
          clear hb HO8 HH8 HK8 B8
          go_wp2_with fail
          refine (HSm w9 HH9.out).out.mono ?_
          rintro e wA ⟨rfl, hb⟩
          have HR : Hid (ContRel w w5 g w1.heap.size k0 k1 acc2 (.slice X7 acc2.length c7) wA) :=
            ⟨X7, c7, rfl, own_below HO9.out hb, HH9.out.below hb, (hb.block w1.heap.size (by omega)).trans HK9.out, B9.out.trans (hb.mono B9.out.size), by have := hb.size; omega⟩
          clear hb HO9 HH9 HK9 B9 HSm
          go_wp2_with fail
          go_roundw
          case rel => exact ⟨k + 1, by omega, by go_num, acc2, hacc2, HR.out⟩
          case measure => simp [intOf]; omega
        · have d40 : decide ((40 : Int) < (rl.length : Int)) = true := by simp; omega
          go_wp2_with fail
          go_ret
          exact ⟨rfl, HB.out⟩
      · go_wp2_with fail
        go_ret
        exact ⟨rfl, HB.out⟩
  · go_enter Try.func6, Try.ntmps6
    go_wp2_with fail; refine (awake_calls w).mono ?_; rintro e w1 ⟨rfl, hb⟩; have B1 := Lib.hid hb; clear hb; go_wp2_with fail
    go_ret
    exact ⟨rfl, B1.out⟩
end Sp
end Go.Proofs.Ythjplfflkdnfnaa
