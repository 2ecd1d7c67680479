/- The walk of refmeshlaw26.same. -/
import Derived.Test.YtmdconcbelmdpaaLsC
namespace Go.Proofs.Ytmdconcbelmdpaa
open Go.RowKit
namespace Ls

set_option maxRecDepth 100000 in
set_option maxHeartbeats 400000 in
theorem same_calls (g : Nat) (v : Value) (L : St) (w : World) (hL : IsL w g L) (hR : IsR w v L) :
    Calls Try.prog 12 #[.pointer (some ⟨g, 0, none⟩), v] w fun e w' => e = .returned (.bool true) ∧ Below w.heap.size w w' := by
  have HL := Lib.hid hL
  have HR := Lib.hid hR
  obtain ⟨_, A, ca, B, cb, rfl, _, _⟩ := hR
  clear hL
  go_enter Try.func12, Try.ntmps12
  go_wp2_with fail
  go_loopw [5] (fun i wr => ∃ k : Nat, k ≤ 11 ∧ i = .int .i64 ((k : Int) - 1) ∧ wr.heap[w.heap.size]? = some (.cells #[.slice A L.m ca, .slice B L.m cb, .int .i64 L.c] 27 (0, 0)) ∧ Below w.heap.size w wr) (fun i _ => (10 - intOf i).toNat)
  case atStart => exact ⟨0, by omega, rfl, heap_alloc_new _ _, (Below.refl _ _).alloc (Nat.le_refl _) _⟩
  case round =>
    obtain ⟨k, hk, rfl, hbx, hb⟩ := hrel
    have HB := Lib.hid hb
    have HBX := Lib.hid hbx
    have m0 : wr.cell? ⟨w.heap.size, 0, none⟩ = some (.slice A L.m ca) := (cell_of_row _ _ 0 _ _ _ hbx).trans rfl
    have m1 : wr.cell? ⟨w.heap.size, 1, none⟩ = some (.slice B L.m cb) := (cell_of_row _ _ 1 _ _ _ hbx).trans rfl
    have m2 : wr.cell? ⟨w.heap.size, 2, none⟩ = some (.int .i64 L.c) := (cell_of_row _ _ 2 _ _ _ hbx).trans rfl
    clear hb hbx
    by_cases hlt : k < 11
    · have hd : decide ((k : Int) - 1 ≤ 9) = true := by simp; omega
      go_wp2_with fail
      refine (get_calls _ L ((k : Int) - 1) wr (HR.out.below HB.out)).mono ?_
      rintro e w1 ⟨rfl, hb1⟩
      have HB1 := Lib.hid (HB.out.trans (hb1.mono HB.out.size))
      have HBX1 := Lib.hid ((hb1.block w.heap.size (Array.getElem?_eq_some_iff.1 HBX.out).1).trans HBX.out)
      clear hb1 m0 m1 m2 HB HBX
      go_wp2_with fail
      refine (last_calls g L ((k : Int) - 1) w1 (HL.out.below HB1.out)).mono ?_
      rintro e w2 ⟨rfl, rfl⟩
      go_wp2_with fail
      refine (round_calls g L ((k : Int) - 1) w1 (HL.out.below HB1.out)).mono ?_
      rintro e w2 ⟨rfl, rfl⟩
      go_wp2_with fail
      go_roundw
      case rel => exact ⟨k + 1, by omega, by go_num, HBX1.out, HB1.out⟩
      case measure => simp [intOf]; omega
    · obtain rfl : k = 11 := by omega
      go_wp2_with fail
      go_ret
      exact ⟨rfl, HB.out⟩
end Ls
end Go.Proofs.Ytmdconcbelmdpaa
