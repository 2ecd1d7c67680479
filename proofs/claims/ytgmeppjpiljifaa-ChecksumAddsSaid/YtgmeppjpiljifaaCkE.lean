/- The walk of refmeshlaw04.awake: the examples hold. -/
import Derived.Test.YtgmeppjpiljifaaCkD
import Derived.Lib.SlBytesConst
namespace Go.Proofs.Ytgmeppjpiljifaa
open Go.RowKit
namespace Ck

theorem ex1 : vw (Crc.sum [49, 50, 51, 52, 53, 54, 55, 56, 57]) = .int .u64 11051210869376104954 := by kernel_rfl
theorem ex2 : vw (Crc.sum []) = .int .u64 0 := by kernel_rfl

set_option maxRecDepth 100000 in
theorem awake_calls (w : World) :
    Calls Try.prog 12 #[] w fun e w' => e = .returned (.bool true) ∧ Below w.heap.size w w' := by
  have kc := fun (w : World) (C : Array Value) (n c : Nat) => Lib.run_convert_bytes_const (P := Try.prog) w 23 5 C n c Try.underlying23 Try.underlying5
  go_enter Try.func12, Try.ntmps12
  go_wp2_with fail
  refine (sum_calls _ 9 9 [49, 50, 51, 52, 53, 54, 55, 56, 57] _ rfl (by simp [maxLen]) (Rd.new _ _ _ _)).mono ?_
  rintro e w1 ⟨rfl, hb1⟩
  have hb1' : Below w.heap.size w w1 := ((Below.refl _ _).alloc (Nat.le_refl _) _).trans (hb1.mono (by simp))
  clear hb1
  rw [ex1]
  go_wp2_with fail
  refine (sum_calls none 0 0 [] _ rfl (by simp [maxLen]) RB.nil).mono ?_
  rintro e w2 ⟨rfl, hb2⟩
  have hb2' : Below w.heap.size w w2 := hb1'.trans (hb2.mono hb1'.size)
  clear hb2 hb1'
  rw [ex2]
  go_wp2_with fail
  refine (seal_calls _ 1 1 [97] _ rfl (by omega) (Rd.new _ _ _ _)).mono ?_
  rintro e w3 ⟨v, rfl, hown, hb3⟩
  have hb3' : Below w.heap.size w w3 := (hb2'.alloc hb2'.size _).trans (hb3.mono (Nat.le_trans hb2'.size (by simp)))
  clear hb3 hb2'
  obtain ⟨A, cap, rfl, _⟩ := own_form hown
  clear hown
  go_wp2_with fail
  go_ret
  exact ⟨rfl, hb3'⟩
end Ck
end Go.Proofs.Ytgmeppjpiljifaa
