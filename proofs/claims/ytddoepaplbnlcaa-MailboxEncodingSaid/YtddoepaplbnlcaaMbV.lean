/- The walks of refmeshref06.Ints, refmeshref21.Same. -/
import Derived.Test.YtddoepaplbnlcaaMbU
namespace Go.Proofs.Ytddoepaplbnlcaa
open Go.RowKit Go.Shelf
namespace Mb

theorem eq_take_all {α : Type} {l l' : List α} {k : Nat} (h : l.take k = l'.take k) (h1 : l.length ≤ k) (h2 : l'.length ≤ k) : l = l' := by
  rwa [List.take_of_length_le h1, List.take_of_length_le h2] at h
theorem take_snoc_eq {α : Type} {l l' : List α} {k : Nat} (h : l.take k = l'.take k) (h1 : k < l.length) (h2 : k < l'.length) (e : l[k] = l'[k]) : l.take (k + 1) = l'.take (k + 1) := by
  rw [List.take_succ_eq_append_getElem h1, List.take_succ_eq_append_getElem h2, h, e]
def BoolB (b : Bool) (w : World) (e : Ending) (w' : World) : Prop := e = .returned (.bool b) ∧ Below w.heap.size w w'
set_option maxRecDepth 100000 in
set_option maxHeartbeats 2000000 in
theorem ints_calls (A B : Option Addr) (n m ca cb : Nat) (l l' : List Int) (w : World) (hn : l.length = n) (hm : l'.length = m) (ra : Rd w A (l.map (Value.int .i64))) (rb : Rd w B (l'.map (Value.int .i64))) (hnb : n ≤ 9223372036854775807) (hmb : m ≤ 9223372036854775807) :
    Calls Try.prog 19 #[.slice A n ca, .slice B m cb] w (BoolB (decide (l = l')) w) := by
  by_cases hnm : n = m
  · subst hnm
    have HN := Lib.hid hn
    have HM := Lib.hid hm
    have RA := Lib.hid ra
    have RB := Lib.hid rb
    clear hn hm ra rb
    go_enter Try.func19, Try.ntmps19
    go_wp2_with fail
    go_loopw [5] (fun i wr => ∃ k : Nat, k ≤ n ∧ i = .int .i64 k ∧ l.take k = l'.take k ∧ Below w.heap.size w wr) (fun i _ => n - (intOf i).toNat)
    case atStart => exact ⟨0, by omega, rfl, by simp, Below.refl _ _⟩
    case round =>
      obtain ⟨k, hk, rfl, ht, hb⟩ := hrel
      have HT := Lib.hid ht
      have HB := Lib.hid hb
      clear ht hb
      have j0 : (0 : Int) ≤ (k : Int) := by omega
      by_cases hlt : k < n
      · have j1 : (k : Int) < (n : Int) := by omega
        have h1 : k < l.length := by rw [HN.out]; exact hlt
        have h2 : k < l'.length := by rw [HM.out]; exact hlt
        obtain ⟨ba, oa, ea, x0⟩ := (RA.out.below HB.out) k _ (by rw [List.getElem?_map, List.getElem?_eq_getElem h1]; rfl)
        obtain ⟨bb, ob, eb, y0⟩ := (RB.out.below HB.out) k _ (by rw [List.getElem?_map, List.getElem?_eq_getElem h2]; rfl)
        subst ea eb
        by_cases he : l[k] = l'[k]
        · have HT2 := Lib.hid (take_snoc_eq HT.out h1 h2 he)
          rw [← he] at y0
          clear he
          generalize l[k] = z at *
          go_wp2_with fail
          go_quiet (fail)
          have HB2 := Lib.hid (blw_drewN HB.out nq)
          go_wp2_with fail
          go_roundw
          case rel => exact ⟨k + 1, by omega, by go_num, HT2.out, HB2.out⟩
          case measure => simp [intOf]; omega
        · have HE : Hid (decide (l = l') = false) := Lib.hid (decide_eq_false (fun e => by subst e; exact he rfl))
          have n1 : (l[k] != l'[k]) = true := by rw [bne_iff_ne]; exact he
          have n2 : (l[k] == l'[k]) = false := by rw [beq_eq_false_iff_ne]; exact he
          generalize l[k] = z at *
          generalize l'[k] = z' at *
          clear he
          go_wp2_with fail
          go_quiet (fail)
          have HB2 := Lib.hid (blw_drewN HB.out nq)
          go_wp2_with fail
          go_ret
          exact ⟨by rw [HE.out]; rfl, HB2.out⟩
      · obtain rfl : k = n := by omega
        have HE : Hid (decide (l = l') = true) := Lib.hid (decide_eq_true (eq_take_all HT.out (Nat.le_of_eq HN.out) (Nat.le_of_eq HM.out)))
        go_wp2_with fail
        go_ret
        exact ⟨by rw [HE.out]; rfl, HB.out⟩
  · have HE : Hid (decide (l = l') = false) := Lib.hid (decide_eq_false (fun e => hnm (by rw [← hn, ← hm, e])))
    have n1 : ((n : Int) != (m : Int)) = true := by rw [bne_iff_ne]; omega
    have n2 : ((n : Int) == (m : Int)) = false := by rw [beq_eq_false_iff_ne]; omega
    clear hn hm ra rb
    go_enter Try.func19, Try.ntmps19
    go_wp2_with fail
    go_ret
    exact ⟨by rw [HE.out]; rfl, Below.refl _ _⟩
set_option maxRecDepth 100000 in
set_option maxHeartbeats 2000000 in
theorem sameI_calls (A B : Option Addr) (n m ca cb : Nat) (l l' : List (Int × Int)) (w : World) (hn : l.length = n) (hm : l'.length = m) (ra : Rd w A (cells2 l)) (rb : Rd w B (cells2 l')) (hnb : n ≤ 9223372036854775807) (hmb : m ≤ 9223372036854775807) :
    Calls Try.prog 34 #[.slice A n ca, .slice B m cb] w (BoolB (decide (l = l')) w) := by
  by_cases hnm : n = m
  · subst hnm
    have HN := Lib.hid hn
    have HM := Lib.hid hm
    have RA := Lib.hid ra
    have RB := Lib.hid rb
    clear hn hm ra rb
    go_enter Try.func34, Try.ntmps34
    go_wp2_with fail
    go_loopw [5] (fun i wr => ∃ k : Nat, k ≤ n ∧ i = .int .i64 k ∧ l.take k = l'.take k ∧ Below w.heap.size w wr) (fun i _ => n - (intOf i).toNat)
    case atStart => exact ⟨0, by omega, rfl, by simp, Below.refl _ _⟩
    case round =>
      obtain ⟨k, hk, rfl, ht, hb⟩ := hrel
      have HT := Lib.hid ht
      have HB := Lib.hid hb
      clear ht hb
      have j0 : (0 : Int) ≤ (k : Int) := by omega
      by_cases hlt : k < n
      · have j1 : (k : Int) < (n : Int) := by omega
        have h1 : k < l.length := by rw [HN.out]; exact hlt
        have h2 : k < l'.length := by rw [HM.out]; exact hlt
        obtain ⟨ba, oa, ea, _, x0, x1⟩ := rd2 (RA.out.below HB.out) k h1
        obtain ⟨bb, ob, eb, _, y0, y1⟩ := rd2 (RB.out.below HB.out) k h2
        subst ea eb
        by_cases he : l[k] = l'[k]
        · have HT2 := Lib.hid (take_snoc_eq HT.out h1 h2 he)
          rw [← he] at y0 y1
          clear he
          generalize l[k] = z at *
          go_wp2_with fail
          go_quiet (fail)
          have HB2 := Lib.hid (blw_drewN HB.out nq)
          go_wp2_with fail
          go_roundw
          case rel => exact ⟨k + 1, by omega, by go_num, HT2.out, HB2.out⟩
          case measure => simp [intOf]; omega
        · have HE : Hid (decide (l = l') = false) := Lib.hid (decide_eq_false (fun e => by subst e; exact he rfl))
          have heq := eq_pair l[k] l'[k]
          rw [decide_eq_false he] at heq
          generalize l[k] = z at *
          generalize l'[k] = z' at *
          clear he
          go_wp2_with fail
          go_quiet (fail)
          have HB2 := Lib.hid (blw_drewN HB.out nq)
          go_wp2_with fail
          go_ret
          exact ⟨by rw [HE.out]; rfl, HB2.out⟩
      · obtain rfl : k = n := by omega
        have HE : Hid (decide (l = l') = true) := Lib.hid (decide_eq_true (eq_take_all HT.out (Nat.le_of_eq HN.out) (Nat.le_of_eq HM.out)))
        go_wp2_with fail
        go_ret
        exact ⟨by rw [HE.out]; rfl, HB.out⟩
  · have HE : Hid (decide (l = l') = false) := Lib.hid (decide_eq_false (fun e => hnm (by rw [← hn, ← hm, e])))
    have n1 : ((n : Int) != (m : Int)) = true := by rw [bne_iff_ne]; omega
    have n2 : ((n : Int) == (m : Int)) = false := by rw [beq_eq_false_iff_ne]; omega
    clear hn hm ra rb
    go_enter Try.func34, Try.ntmps34
    go_wp2_with fail
    go_ret
    exact ⟨by rw [HE.out]; rfl, Below.refl _ _⟩
end Mb
end Go.Proofs.Ytddoepaplbnlcaa
