/- The walks of refmeshref02's Bool, ID, Done of the reader. -/
import Derived.Test.YtnmgapokamkhpaaRrD
import Derived.Test.YtnmgapokamkhpaaWrP
namespace Go.Proofs.Ytnmgapokamkhpaa
open Go.RowKit
namespace Wi
open Wr
variable {D : Nat}

/-- ID -/
def idR (r : Rs) : (Nat × Nat) × Rs :=
  if (uintR (uintR r).2).2.e ≠ 0 ∨ ((uintR r).1 = 0 ∧ (uintR (uintR r).2).1 = 0) then ((0, 0), (uintR (uintR r).2).2)
  else if 1 ≤ (uintR r).1 ∧ (uintR r).1 ≤ 8 ∧ 1 ≤ (uintR (uintR r).2).1 ∧ (uintR (uintR r).2).1 ≤ 1099511627775 then (((uintR r).1, (uintR (uintR r).2).1), (uintR (uintR r).2).2)
  else ((0, 0), failR 11)

set_option maxRecDepth 100000 in
theorem rdDone_calls (g : Nat) (r : Rs) (w : World) (h : IsRr D w g r) : Calls Try.prog 24 #[.pointer (some ⟨g, 0, none⟩)] w fun e w' => e = .returned (.int .i64 (doneR r)) ∧ w = w' := by
  obtain ⟨A, c, hg, _⟩ := h
  obtain ⟨l, er⟩ := r
  simp only at hg
  have c0 : w.cell? ⟨g, 0, none⟩ = some (.slice A l.length c) := (cell_of_row _ _ 0 _ _ _ hg).trans rfl
  have c1 : w.cell? ⟨g, 1, none⟩ = some (.int .i64 er) := (cell_of_row _ _ 1 _ _ _ hg).trans rfl
  clear hg
  by_cases he : er = 0
  · subst he
    by_cases hl : 0 < l.length
    · have HD : Hid (doneR ⟨l, 0⟩ = 11) := by show _ = _; unfold doneR; rw [if_pos ⟨rfl, hl⟩]
      rw [HD.out]
      have d0 : decide ((0 : Int) < (l.length : Int)) = true := by rw [decide_eq_true_eq]; omega
      generalize l.length = n at *
      go_enter Try.func24, Try.ntmps24
      go_wp2_with fail
      go_ret
      exact ⟨rfl, rfl⟩
    · have HD : Hid (doneR ⟨l, 0⟩ = 0) := by show _ = _; unfold doneR; rw [if_neg (by rintro ⟨_, h⟩; exact hl h)]
      rw [HD.out]
      have d0 : decide ((0 : Int) < (l.length : Int)) = false := by rw [decide_eq_false_iff_not]; omega
      generalize l.length = n at *
      go_enter Try.func24, Try.ntmps24
      go_wp2_with fail
      go_ret
      exact ⟨rfl, rfl⟩
  · have HD : Hid (doneR ⟨l, er⟩ = er) := by show _ = _; unfold doneR; rw [if_neg (by rintro ⟨h, _⟩; exact he h)]
    rw [HD.out]
    have q1 : (er == 0) = false := by simpa using he
    clear he
    go_enter Try.func24, Try.ntmps24
    go_wp2_with fail
    go_ret
    exact ⟨rfl, rfl⟩

end Wi
end Go.Proofs.Ytnmgapokamkhpaa
