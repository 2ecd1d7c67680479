/- The walks of the reference's Number, collides and awake. -/
import Derived.Test.YtnmgapokamkhpaaCpC
import Derived.Deep.QuietTactic
import Derived.BigQuiet
namespace Go.Proofs.Ytnmgapokamkhpaa
open Go.RowKit
namespace Cp
open Sip
attribute [local go_sem ↓] Go.wp_at_zero Go.wp_at_succ

set_option maxRecDepth 100000 in
theorem rnum_calls (k0 k1 : BitVec 64) (s : Nat) (hs : s < 4611686018427387904) (w : World) :
    Calls Try.prog 10 #[.agg #[vw k0, vw k1], .int .i64 (s : Int)] w fun e w' => e = .returned (vw (num k0 k1 s)) ∧ Below w.heap.size w w' := by
  have HR := fun w => Lib.hid (Sp.rnumber_calls k0 k1 (BitVec.ofNat 64 s) w)
  have e : (BitVec.ofNat 64 s).toNat = s := by rw [BitVec.toNat_ofNat]; exact Nat.mod_eq_of_lt (by omega)
  unfold Sp.key vw at HR
  simp only [e] at HR
  have HE : ∀ w, Hid (Calls Try.prog 19 #[.agg #[vw k0, vw k1], .int .u64 (s : Int)] w fun e w' => e = .returned (vw (num k0 k1 s)) ∧ Below w.heap.size w w') := HR
  clear HR e
  go_enter Try.func10, Try.ntmps10
  go_wp2_with fail
  refine (HE _).out.mono ?_
  rintro e w1 ⟨rfl, hb⟩
  have HB := Lib.hid ((below1 w _).trans (hb.mono (by simp)))
  clear hb HE
  go_wp2_with fail
  go_ret
  exact ⟨rfl, HB.out⟩

/-- the first n numbers are not 0, and different -/
def okTo (k0 k1 : BitVec 64) (n : Nat) : Prop := ∀ i, 1 ≤ i → i ≤ n → num k0 k1 i ≠ 0#64 ∧ ∀ k, 1 ≤ k → k < i → num k0 k1 k ≠ num k0 k1 i
def CollP (k0 k1 : BitVec 64) (n : Nat) (w : World) (e : Ending) (w' : World) : Prop := ∃ b : Bool, e = .returned (.bool b) ∧ (b = false → okTo k0 k1 n) ∧ Below w.heap.size w w'

set_option maxRecDepth 100000 in
set_option maxHeartbeats 2000000 in
theorem collides_calls (k0 k1 : BitVec 64) (n : Nat) (hn : n ≤ 1000) (w : World) :
    Calls Try.prog 7 #[.agg #[vw k0, vw k1], .int .i64 (n : Int)] w (CollP k0 k1 n w) := by
  have HNM := fun s (hs : s ≤ 2000) w => Lib.hid (rnum_calls k0 k1 s (by omega) w)
  go_enter Try.func7, Try.ntmps7
  go_wp2_with fail
  have hk : Hid ((w.alloc (.cells #[vw k0, vw k1] 24)).heap[w.heap.size]? = some (.cells #[vw k0, vw k1] 24 (0, 0))) := heap_alloc_new _ _
  have hb := Lib.hid (below1 w (.cells #[vw k0, vw k1] 24))
  show Code.wp _ _ _ _ (w.alloc (.cells #[vw k0, vw k1] 24))
  generalize w.alloc (.cells #[vw k0, vw k1] 24) = w0 at *
  go_loopw [5, 6, 7] (fun i _ _ wr => ∃ j : Nat, 1 ≤ j ∧ j ≤ n + 1 ∧ i = .int .i64 (j : Int) ∧ okTo k0 k1 (j - 1) ∧ wr.heap[w.heap.size]? = some (.cells #[vw k0, vw k1] 24 (0, 0)) ∧ Below w.heap.size w wr) (fun i _ _ _ => n + 1 - (intOf i).toNat)
  case atStart => exact ⟨1, by omega, by omega, rfl, fun i h1 h2 => by omega, hk.out, hb.out⟩
  case round =>
    obtain ⟨j, hj1, hj2, rfl, hok, hkk, hbb⟩ := hrel
    have HO := Lib.hid hok
    have HK := Lib.hid hkk
    have HB := Lib.hid hbb
    have m0 : wr.cell? ⟨w.heap.size, 0, none⟩ = some (vw k0) := (cell_of_row _ _ 0 _ _ _ hkk).trans rfl
    have m1 : wr.cell? ⟨w.heap.size, 1, none⟩ = some (vw k1) := (cell_of_row _ _ 1 _ _ _ hkk).trans rfl
    have hsw : w.heap.size < wr.heap.size := (Array.getElem?_eq_some_iff.1 hkk).1
    clear hok hkk hbb
    by_cases hjn : j ≤ n
    · go_wp2_with fail
      refine (HNM j (by omega) wr).out.mono ?_
      rintro e w1 ⟨rfl, hb1⟩
      have HK1 := Lib.hid ((hb1.block _ hsw).trans HK.out)
      have HB1 := Lib.hid (HB.out.trans (hb1.mono (by omega)))
      obtain ⟨x, HX⟩ : ∃ x, Hid (x = num k0 k1 j) := ⟨_, Lib.hid rfl⟩
      rw [← HX.out]
      clear m0 m1 hb1
      by_cases h0 : x = 0#64
      · have d0 : (((x.toNat : Int) == 0) : Bool) = true := by rw [h0]; rfl
        clear h0
        go_wp2_with fail
        go_ret
        exact ⟨true, rfl, (fun h => by cases h), HB1.out⟩
      · have d0 : (((x.toNat : Int) == 0) : Bool) = false := by rw [beq_eq_false_iff_ne]; intro e; exact h0 (BitVec.eq_of_toNat_eq (by simpa using e))
        have H0 := Lib.hid h0
        clear h0
        go_wp2_with fail
        obtain ⟨wo, rfl⟩ : ∃ wo : World, wo = wr := ⟨_, rfl⟩
        go_loopw [7] (fun i wr => ∃ k : Nat, 1 ≤ k ∧ k ≤ j ∧ i = .int .i64 (k : Int) ∧ (∀ q, 1 ≤ q → q < k → num k0 k1 q ≠ x) ∧ wr.heap[w.heap.size]? = some (.cells #[vw k0, vw k1] 24 (0, 0)) ∧ Below w.heap.size w wr) (fun i _ => j - (intOf i).toNat)
        case atStart => exact ⟨1, by omega, by omega, rfl, fun q h1 h2 => by omega, HK1.out, HB1.out⟩
        case round =>
          obtain ⟨k, hk1, hk2, rfl, hq, hkk, hbb⟩ := hrel
          have HQ := Lib.hid hq
          have HK2 := Lib.hid hkk
          have HB2 := Lib.hid hbb
          have m0 : wr.cell? ⟨w.heap.size, 0, none⟩ = some (vw k0) := (cell_of_row _ _ 0 _ _ _ hkk).trans rfl
          have m1 : wr.cell? ⟨w.heap.size, 1, none⟩ = some (vw k1) := (cell_of_row _ _ 1 _ _ _ hkk).trans rfl
          have hsw2 : w.heap.size < wr.heap.size := (Array.getElem?_eq_some_iff.1 hkk).1
          clear hq hkk hbb
          by_cases hkj : k < j
          · go_wp2_with fail
            refine (HNM k (by omega) wr).out.mono ?_
            rintro e w2 ⟨rfl, hb2⟩
            have HK3 := Lib.hid ((hb2.block _ hsw2).trans HK2.out)
            have HB3 := Lib.hid (HB2.out.trans (hb2.mono (by omega)))
            clear m0 m1 hb2
            by_cases hxy : num k0 k1 k = x
            · have d1 : ((((num k0 k1 k).toNat : Int) == (x.toNat : Int)) : Bool) = true := by rw [hxy]; simp
              clear hxy
              go_wp2_with fail
              go_ret
              exact ⟨true, rfl, (fun h => by cases h), HB3.out⟩
            · have d1 : ((((num k0 k1 k).toNat : Int) == (x.toNat : Int)) : Bool) = false := by rw [vw_beq]; simpa using hxy
              have HXY := Lib.hid hxy
              clear hxy
              go_wp2_with fail
              go_roundw
              case rel => exact ⟨k + 1, by omega, by omega, by go_num, fun q h1 h2 => by
                by_cases hqk : q = k
                · subst hqk; exact HXY.out
                · exact HQ.out q h1 (by omega), HK3.out, HB3.out⟩
              case measure => simp [intOf]; omega
          · obtain rfl : k = j := by omega
            go_wp2_with fail
            go_roundw
            case rel => exact ⟨k + 1, by omega, by omega, by go_num, fun i h1 h2 => by
              by_cases hik : i = k
              · subst hik
                rw [← HX.out]
                exact ⟨H0.out, fun q q1 q2 => HQ.out q q1 q2⟩
              · exact HO.out i h1 (by omega), HK2.out, HB2.out⟩
            case measure => simp [intOf]; omega
    · obtain rfl : j = n + 1 := by omega
      go_wp2_with fail
      go_ret
      exact ⟨false, rfl, fun _ => HO.out, HB.out⟩
end Cp
end Go.Proofs.Ytnmgapokamkhpaa
