/- The walks of slices.Index and slices.Contains on []int, and of refmeshref06.Ints. -/
import Derived.Test.YtmdconcbelmdpaaRows
import Derived.Test.YtmdconcbelmdpaaMem
import Derived.Outline
import Derived.WalkLawsBesides
import Derived.WalkSpells
import Derived.Deep.QuietTactic
import Derived.BigQuiet
namespace Go.Proofs.Ytmdconcbelmdpaa
open Go.RowKit
namespace In

abbrev vi (z : Int) : Value := .int .i64 z
def idx (zs : List Int) (z : Int) : Int := if z ∈ zs then (zs.idxOf z : Int) else -1
def conB (zs : List Int) (z : Int) : Bool := decide (z ∈ zs)

theorem idx_at (zs : List Int) (z : Int) (k : Nat) (hk : k < zs.length) (h : z ∉ zs.take k) (he : z = zs[k]) : idx zs z = k := by
  have hm : z ∈ zs := he ▸ List.getElem_mem hk
  unfold idx
  rw [if_pos hm]
  congr 1
  have hs : zs = zs.take k ++ zs[k] :: zs.drop (k + 1) := by simp
  rw [hs, List.idxOf_append, if_neg h, ← he, List.idxOf_cons_self]
  simp; omega
theorem idx_no (zs : List Int) (z : Int) (h : z ∉ zs) : idx zs z = -1 := by unfold idx; rw [if_neg h]
theorem idx_con (zs : List Int) (z : Int) : decide (0 ≤ idx zs z) = conB zs z := by
  unfold idx conB
  by_cases h : z ∈ zs
  · rw [if_pos h]; simp [h]
  · rw [if_neg h]; simp [h]

set_option maxHeartbeats 400000 in
theorem index_calls (A : Option Addr) (n cap : Nat) (zs : List Int) (z : Int) (w : World) (hn : zs.length = n) (hm : n ≤ 9223372036854775807) (hr : Rd w A (zs.map vi)) : Calls Try.prog 42 #[.slice A n cap, .int .i64 z] w fun e w' => e = .returned (.int .i64 (idx zs z)) ∧ w = w' := by
  have HR := Lib.hid hr
  have HN := Lib.hid hn
  clear hr hn
  go_enter Try.func42, Try.ntmps42
  go_wp2_with fail
  go_loop [8] (fun i => ∃ k : Nat, k ≤ n ∧ i = .int .i64 k ∧ z ∉ zs.take k) (fun i => n - (intOf i).toNat)
  case atStart => exact ⟨0, Nat.zero_le _, rfl, by simp⟩
  case round =>
    obtain ⟨k, hk, rfl, hno⟩ := hrel
    have HO := Lib.hid hno
    clear hno
    by_cases hlt : k < n
    · have hkl : k < zs.length := by have := HN.out; omega
      obtain ⟨b, off, rfl, _, hc⟩ := Rd.cells HR.out (by simp; omega)
      have h1 := hc k (vi zs[k]) (by simp [hkl])
      have i0 : (0 : Int) ≤ (k : Int) := by omega
      have i1 : (k : Int) < (n : Int) := by omega
      clear hc
      by_cases he : z = zs[k]
      · have HI := Lib.hid (idx_at zs z k hkl HO.out he)
        rw [← he] at h1
        clear he
        go_wp2_with fail
        go_ret
        exact ⟨by rw [HI.out]; rfl, rfl⟩
      · have hd : (z == zs[k]) = false := by simpa using he
        have HX : Hid (z ∉ zs.take (k + 1)) := by
          show _
          rw [List.take_succ_eq_append_getElem hkl, List.mem_append]
          rintro (h | h)
          · exact HO.out h
          · exact he (by simpa using h)
        generalize zs[k] = zk at *
        clear he
        go_wp2_with fail
        go_round
        case rel => exact ⟨k + 1, by omega, by go_num, HX.out⟩
        case measure => simp [intOf]; omega
    · obtain rfl : k = n := by omega
      have HI := Lib.hid (idx_no zs z (by have := HO.out; rwa [List.take_of_length_le (by have := HN.out; omega)] at this))
      go_wp2_with fail
      go_ret
      exact ⟨by rw [HI.out]; rfl, rfl⟩

theorem contains_calls (A : Option Addr) (n cap : Nat) (zs : List Int) (z : Int) (w : World) (hn : zs.length = n) (hm : n ≤ 9223372036854775807) (hr : Rd w A (zs.map vi)) :
    Calls Try.prog 29 #[.slice A n cap, .int .i64 z] w fun e w' => e = .returned (.bool (conB zs z)) ∧ w = w' := by
  have HI := Lib.hid (index_calls A n cap zs z w hn hm hr)
  have HC := Lib.hid (idx_con zs z)
  clear hn hr
  generalize idx zs z = x at *
  go_enter Try.func29, Try.ntmps29
  go_wp2_with fail
  refine HI.out.mono ?_
  rintro e w' ⟨rfl, rfl⟩
  go_wp2_with fail
  go_ret
  exact ⟨by rw [← HC.out]; rfl, rfl⟩

def eqB (xs ys : List Int) : Bool := decide (xs = ys)
set_option maxHeartbeats 400000 in
theorem ints_calls (A B : Option Addr) (n m ca cb : Nat) (xs ys : List Int) (w : World) (hn : xs.length = n) (hm : ys.length = m) (hx : n ≤ 9223372036854775807) (hy : m ≤ 9223372036854775807)
    (ra : Rd w A (xs.map vi)) (rb : Rd w B (ys.map vi)) :
    Calls Try.prog 13 #[.slice A n ca, .slice B m cb] w fun e w' => e = .returned (.bool (eqB xs ys)) ∧ Below w.heap.size w w' := by
  have RA := Lib.hid ra
  have RB' := Lib.hid rb
  have HN := Lib.hid hn
  have HM := Lib.hid hm
  by_cases hnm : n = m
  · subst hnm
    clear ra rb hn hm
    go_enter Try.func13, Try.ntmps13
    go_wp2_with fail
    go_loopw [5] (fun i wr => ∃ k : Nat, k ≤ n ∧ i = .int .i64 k ∧ xs.take k = ys.take k ∧ Below w.heap.size w wr) (fun i _ => n - (intOf i).toNat)
    case atStart => exact ⟨0, Nat.zero_le _, rfl, by simp, Below.refl _ _⟩
    case round =>
      obtain ⟨k, hk, rfl, heq, hb⟩ := hrel
      have HO := Lib.hid heq
      have HB := Lib.hid hb
      clear heq hb
      by_cases hlt : k < n
      · have hkl : k < xs.length := by have := HN.out; omega
        have hkm : k < ys.length := by have := HM.out; omega
        obtain ⟨b, off, rfl, _, hc⟩ := Rd.cells (Rd.below RA.out HB.out) (by simp; omega)
        have h1 := hc k (vi xs[k]) (by simp [hkl])
        obtain ⟨b', off', rfl, _, hc'⟩ := Rd.cells (Rd.below RB'.out HB.out) (by simp; omega)
        have h2 := hc' k (vi ys[k]) (by simp [hkm])
        have i0 : (0 : Int) ≤ (k : Int) := by omega
        have i1 : (k : Int) < (n : Int) := by omega
        clear hc hc'
        by_cases he : xs[k] = ys[k]
        · have HX : Hid (xs.take (k + 1) = ys.take (k + 1)) := by
            show _ = _
            rw [List.take_succ_eq_append_getElem hkl, List.take_succ_eq_append_getElem hkm, HO.out, he]
          rw [← he] at h2
          generalize xs[k] = zk at *
          clear he
          go_wp2_with fail
          go_quiet (fail)
          go_wp2_with fail
          go_roundw
          case rel => exact ⟨k + 1, by omega, by go_num, HX.out, blw_drewN HB.out _⟩
          case measure => simp [intOf]; omega
        · have hd : (xs[k] != ys[k]) = true := by simpa using he
          have HX : Hid (eqB xs ys = false) := by
            show _ = _
            unfold eqB; rw [decide_eq_false_iff_not]; rintro rfl; exact he rfl
          generalize xs[k] = zk at *
          generalize ys[k] = yk at *
          clear he
          go_wp2_with fail
          go_quiet (fail)
          go_wp2_with fail
          go_ret
          exact ⟨by rw [HX.out]; rfl, blw_drewN HB.out _⟩
      · obtain rfl : k = n := by omega
        have HX : Hid (eqB xs ys = true) := by
          show _ = _
          have := HO.out
          rw [List.take_of_length_le (by have := HN.out; omega), List.take_of_length_le (by have := HM.out; omega)] at this
          simp [eqB, this]
        go_wp2_with fail
        go_ret
        exact ⟨by rw [HX.out]; rfl, HB.out⟩
  · have HX : Hid (eqB xs ys = false) := by
      show _ = _
      unfold eqB; rw [decide_eq_false_iff_not]; rintro rfl; omega
    rw [HX.out]
    have hd : ((n : Int) != (m : Int)) = true := by simp; omega
    clear ra rb hn hm HX hnm
    go_enter Try.func13, Try.ntmps13
    go_wp2_with fail
    go_ret
    exact ⟨rfl, Below.refl _ _⟩
end In
end Go.Proofs.Ytmdconcbelmdpaa
