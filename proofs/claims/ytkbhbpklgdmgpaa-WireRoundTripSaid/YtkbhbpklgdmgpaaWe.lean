/- The walk of refmeshlaw02.readable and the law WireRoundTrip. -/
import Derived.Test.YtkbhbpklgdmgpaaWc
import Derived.Laws.StructEq
namespace Go.Proofs.Ytkbhbpklgdmgpaa
open Go.RowKit
namespace Wi
open Wr

theorem eq_id10 (a b c d : Int) (w : World) : (Op.equalIn 10000 32 (.agg #[.int .i64 a, .int .i64 b]) (.agg #[.int .i64 c, .int .i64 d])).run Try.prog w = .ok (a == c && b == d) w := by
  have u3 := Try.underlying3
  have hS : Try.prog.underlying 32 = some (.struct (Try.prog.fieldsOf 32)) := by kernel_rfl
  have hp : Try.prog.stoodInHeld 32 = false := by kernel_rfl
  rw [show (10000 : Nat) = 9999 + 1 from rfl, run_equalIn_agg w 9999 32 _ _ hS hp]
  simp only [Program.fieldsOf, Try.underlying32]
  go_simp
  by_cases h1 : a = c <;> by_cases h2 : b = d <;> simp [h1, h2]

def BoolP (b : Bool) (w : World) (e : Ending) (w' : World) : Prop := e = .returned (.bool b) ∧ Below w.heap.size w w'

set_option maxRecDepth 100000 in
set_option maxHeartbeats 2000000 in
theorem readable_calls (x : It) (w : World) (hs : x.s.size ≤ maxLen) : Calls Try.prog 25 #[x.val] w (BoolP (readB x) w) := by
  obtain ⟨kd, n, i, s, m, q, b⟩ := x
  unfold maxLen at hs
  simp only at hs
  obtain ⟨rb, HRB⟩ : ∃ x, Hid (readB ⟨kd, n, i, s, m, q, b⟩ = x) := ⟨_, rfl⟩
  have hrb := HRB.out
  unfold readB at hrb
  simp only at hrb
  unfold It.val It.cells
  simp only
  have HB := Lib.hid (below1 w (.cells #[vb kd, .int .u64 (n.toNat : Int), .int .i64 i, .string s, .int .i64 m, .int .i64 q, .bool b] 34))
  by_cases h2 : kd.toNat % 5 = 2
  · rw [if_pos h2] at hrb
    have d0 : (kd.toNat : Int) % 5 = 2 := by omega
    by_cases h : s.size ≤ 4096
    · have d1 : decide ((s.size : Int) ≤ 4096) = true := by simp; omega
      have hh : decide (s.size ≤ 4096) = true := by simpa using h
      rw [hh] at hrb
      subst hrb
      clear h2 h hh
      rw [HRB.out]; go_enter Try.func25, Try.ntmps25; go_wp2_with fail; go_ret; exact ⟨rfl, HB.out⟩
    · have d1 : decide ((s.size : Int) ≤ 4096) = false := by simp; omega
      have hh : decide (s.size ≤ 4096) = false := by simpa using h
      rw [hh] at hrb
      subst hrb
      clear h2 h hh
      rw [HRB.out]; go_enter Try.func25, Try.ntmps25; go_wp2_with fail; go_ret; exact ⟨rfl, HB.out⟩
  · rw [if_neg h2] at hrb
    have d2 : (((kd.toNat : Int) % 5) == 2) = false := by rw [beq_eq_false_iff_ne]; omega
    by_cases h3 : kd.toNat % 5 = 3
    · have d0 : (kd.toNat : Int) % 5 = 3 := by omega
      have hgd : Try.prog.eqGuardType Try.prog.depth 32 = false := by kernel_rfl
      have heq := fun w' => eq_id10 m q 0 0 w'
      by_cases hz : m = 0 ∧ q = 0
      · rw [if_neg (by rintro ⟨_, h⟩; exact h hz)] at hrb
        obtain ⟨rfl, rfl⟩ := hz
        subst hrb
        clear h2 h3 d2
        rw [HRB.out]; go_enter Try.func25, Try.ntmps25; go_wp2_with fail; go_ret; exact ⟨rfl, HB.out⟩
      · rw [if_pos ⟨h3, hz⟩] at hrb
        have hzz : (m == 0 && q == 0) = false := by
          rw [Bool.and_eq_false_iff]
          by_cases h : m = 0
          · right; rw [beq_eq_false_iff_ne]; exact fun h' => hz ⟨h, h'⟩
          · left; rw [beq_eq_false_iff_ne]; exact h
        have heq' : ∀ w', (Op.equalIn 10000 32 (.agg #[.int .i64 m, .int .i64 q]) (.agg #[.int .i64 0, .int .i64 0])).run Try.prog w' = .ok false w' := fun w' => by rw [eq_id10, hzz]
        clear heq hzz h2 h3 d2 hz
        by_cases hv : 1 ≤ m ∧ m ≤ 8 ∧ 1 ≤ q ∧ q ≤ 1099511627775
        · have hh : decide (1 ≤ m ∧ m ≤ 8 ∧ 1 ≤ q ∧ q ≤ 1099511627775) = true := decide_eq_true hv
          rw [hh] at hrb
          subst hrb
          obtain ⟨h1, h2, h3, h4⟩ := hv
          have e1 : decide (1 ≤ m) = true := decide_eq_true h1
          have e2 : decide (m ≤ 8) = true := decide_eq_true h2
          have e3 : decide (1 ≤ q) = true := decide_eq_true h3
          have e4 : decide (q ≤ 1099511627775) = true := decide_eq_true h4
          clear hh
          rw [HRB.out]; go_enter Try.func25, Try.ntmps25; go_wp2_with fail; go_ret; exact ⟨rfl, HB.out⟩
        · have hh : decide (1 ≤ m ∧ m ≤ 8 ∧ 1 ≤ q ∧ q ≤ 1099511627775) = false := decide_eq_false hv
          rw [hh] at hrb
          subst hrb
          clear hh
          by_cases h1 : 1 ≤ m
          · have e1 : decide (1 ≤ m) = true := decide_eq_true h1
            by_cases h2 : m ≤ 8
            · have e2 : decide (m ≤ 8) = true := decide_eq_true h2
              by_cases h3 : 1 ≤ q
              · have e3 : decide (1 ≤ q) = true := decide_eq_true h3
                have e4 : decide (q ≤ 1099511627775) = false := decide_eq_false (fun h4 => hv ⟨h1, h2, h3, h4⟩)
                clear hv
                rw [HRB.out]; go_enter Try.func25, Try.ntmps25; go_wp2_with fail; go_ret; exact ⟨rfl, HB.out⟩
              · have e3 : decide (1 ≤ q) = false := decide_eq_false h3
                clear hv h3
                rw [HRB.out]; go_enter Try.func25, Try.ntmps25; go_wp2_with fail; go_ret; exact ⟨rfl, HB.out⟩
            · have e2 : decide (m ≤ 8) = false := decide_eq_false h2
              clear hv h2
              rw [HRB.out]; go_enter Try.func25, Try.ntmps25; go_wp2_with fail; go_ret; exact ⟨rfl, HB.out⟩
          · have e1 : decide (1 ≤ m) = false := decide_eq_false h1
            clear hv h1
            rw [HRB.out]; go_enter Try.func25, Try.ntmps25; go_wp2_with fail; go_ret; exact ⟨rfl, HB.out⟩
    · rw [if_neg (fun h => h3 h.1)] at hrb
      have d3 : (((kd.toNat : Int) % 5) == 3) = false := by rw [beq_eq_false_iff_ne]; omega
      subst hrb
      clear h2 h3
      rw [HRB.out]; go_enter Try.func25, Try.ntmps25; go_wp2_with fail; go_ret; exact ⟨rfl, HB.out⟩
end Wi
end Go.Proofs.Ytkbhbpklgdmgpaa
