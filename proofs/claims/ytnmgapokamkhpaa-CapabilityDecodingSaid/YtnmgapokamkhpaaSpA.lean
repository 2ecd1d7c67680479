/- The walks of siphash's rounds. -/
import Derived.Test.YtnmgapokamkhpaaRows
import Derived.Test.YtnmgapokamkhpaaMem
import Derived.Test.YtnmgapokamkhpaaSip
import Derived.Outline
import Derived.WalkLawsBesides
import Derived.WalkSpells
import Derived.Deep.DeepFit
import Derived.Deep.WholeRow
import Derived.Deep.QuietTactic
import Derived.BigQuiet
import Derived.Deep.RegionHeld3
import Derived.Deep.RegionWith
import Derived.Deep.DrawnRows
namespace Go.Proofs.Ytnmgapokamkhpaa
open Go.RowKit
namespace Sp
open Sip
attribute [local go_sem ↓] Go.wp_at_zero Go.wp_at_succ

theorem shl_bv (x : BitVec 64) (k : Nat) : IntKind.u64.wrap ((x.toNat : Int) * ((2 ^ k : Nat) : Int)) = ((x <<< k).toNat : Int) := by
  rw [IntKind.wrap_u64, BitVec.toNat_shiftLeft, Nat.shiftLeft_eq, Int.natCast_emod, Int.natCast_mul]; rfl
theorem add_bv' (x y : BitVec 64) : ((x.toNat : Int) + (y.toNat : Int)) % 18446744073709551616 = ((x + y).toNat : Int) := by
  rw [BitVec.toNat_add, Int.natCast_emod, Int.natCast_add]; rfl
theorem add_bv (x y : BitVec 64) : IntKind.u64.wrap ((x.toNat : Int) + (y.toNat : Int)) = ((x + y).toNat : Int) := by
  rw [IntKind.wrap_u64, BitVec.toNat_add, Int.natCast_emod, Int.natCast_add]; rfl

set_option maxRecDepth 100000 in
theorem rot13_calls (x : BitVec 64) (w : World) :
    Calls Try.prog 46 #[vw x, .int .i64 13] w fun e w' => e = .returned (vw (rot x 13)) ∧ w = w' := by
  have hand : bits .and .u64 13 63 = 13 := by decide
  go_enter Try.func46, Try.ntmps46
  go_wp2_with fail
  go_ret
  refine ⟨?_, rfl⟩
  show Ending.returned (.int .u64 (bits .or .u64 (IntKind.u64.wrap ((x.toNat : Int) * 8192)) ((x.toNat : Int) / 2251799813685248))) = _
  rw [show IntKind.u64.wrap ((x.toNat : Int) * (8192 : Int)) = ((x <<< 13).toNat : Int) from shl_bv x 13, show (x.toNat : Int) / (2251799813685248 : Int) = ((x >>> 51).toNat : Int) from shr_bv x 51, or_bv]
  rfl
set_option maxRecDepth 100000 in
theorem rot16_calls (x : BitVec 64) (w : World) :
    Calls Try.prog 46 #[vw x, .int .i64 16] w fun e w' => e = .returned (vw (rot x 16)) ∧ w = w' := by
  have hand : bits .and .u64 16 63 = 16 := by decide
  go_enter Try.func46, Try.ntmps46
  go_wp2_with fail
  go_ret
  refine ⟨?_, rfl⟩
  show Ending.returned (.int .u64 (bits .or .u64 (IntKind.u64.wrap ((x.toNat : Int) * 65536)) ((x.toNat : Int) / 281474976710656))) = _
  rw [show IntKind.u64.wrap ((x.toNat : Int) * (65536 : Int)) = ((x <<< 16).toNat : Int) from shl_bv x 16, show (x.toNat : Int) / (281474976710656 : Int) = ((x >>> 48).toNat : Int) from shr_bv x 48, or_bv]
  rfl
set_option maxRecDepth 100000 in
theorem rot17_calls (x : BitVec 64) (w : World) :
    Calls Try.prog 46 #[vw x, .int .i64 17] w fun e w' => e = .returned (vw (rot x 17)) ∧ w = w' := by
  have hand : bits .and .u64 17 63 = 17 := by decide
  go_enter Try.func46, Try.ntmps46
  go_wp2_with fail
  go_ret
  refine ⟨?_, rfl⟩
  show Ending.returned (.int .u64 (bits .or .u64 (IntKind.u64.wrap ((x.toNat : Int) * 131072)) ((x.toNat : Int) / 140737488355328))) = _
  rw [show IntKind.u64.wrap ((x.toNat : Int) * (131072 : Int)) = ((x <<< 17).toNat : Int) from shl_bv x 17, show (x.toNat : Int) / (140737488355328 : Int) = ((x >>> 47).toNat : Int) from shr_bv x 47, or_bv]
  rfl
set_option maxRecDepth 100000 in
theorem rot21_calls (x : BitVec 64) (w : World) :
    Calls Try.prog 46 #[vw x, .int .i64 21] w fun e w' => e = .returned (vw (rot x 21)) ∧ w = w' := by
  have hand : bits .and .u64 21 63 = 21 := by decide
  go_enter Try.func46, Try.ntmps46
  go_wp2_with fail
  go_ret
  refine ⟨?_, rfl⟩
  show Ending.returned (.int .u64 (bits .or .u64 (IntKind.u64.wrap ((x.toNat : Int) * 2097152)) ((x.toNat : Int) / 8796093022208))) = _
  rw [show IntKind.u64.wrap ((x.toNat : Int) * (2097152 : Int)) = ((x <<< 21).toNat : Int) from shl_bv x 21, show (x.toNat : Int) / (8796093022208 : Int) = ((x >>> 43).toNat : Int) from shr_bv x 43, or_bv]
  rfl
set_option maxRecDepth 100000 in
theorem rot32_calls (x : BitVec 64) (w : World) :
    Calls Try.prog 46 #[vw x, .int .i64 32] w fun e w' => e = .returned (vw (rot x 32)) ∧ w = w' := by
  have hand : bits .and .u64 32 63 = 32 := by decide
  go_enter Try.func46, Try.ntmps46
  go_wp2_with fail
  go_ret
  refine ⟨?_, rfl⟩
  show Ending.returned (.int .u64 (bits .or .u64 (IntKind.u64.wrap ((x.toNat : Int) * 4294967296)) ((x.toNat : Int) / 4294967296))) = _
  rw [show IntKind.u64.wrap ((x.toNat : Int) * (4294967296 : Int)) = ((x <<< 32).toNat : Int) from shl_bv x 32, show (x.toNat : Int) / (4294967296 : Int) = ((x >>> 32).toNat : Int) from shr_bv x 32, or_bv]
  rfl

/-- four words at the head of a block -/
def Q4 (w : World) (g : Nat) (t : TypeId) (s : S4) (tl : List Value) : Prop := w.heap[g]? = some (.cells (vw s.a :: vw s.b :: vw s.c :: vw s.d :: tl).toArray t (0, 0))
theorem Q4.at0 {w : World} {g : Nat} {t : TypeId} {s : S4} {tl : List Value} (h : Q4 w g t s tl) : w.cell? ⟨g, 0, none⟩ = some (vw s.a) := (cell_of_row _ _ 0 _ _ _ h).trans rfl
theorem Q4.at1 {w : World} {g : Nat} {t : TypeId} {s : S4} {tl : List Value} (h : Q4 w g t s tl) : w.cell? ⟨g, 1, none⟩ = some (vw s.b) := (cell_of_row _ _ 1 _ _ _ h).trans rfl
theorem Q4.at2 {w : World} {g : Nat} {t : TypeId} {s : S4} {tl : List Value} (h : Q4 w g t s tl) : w.cell? ⟨g, 2, none⟩ = some (vw s.c) := (cell_of_row _ _ 2 _ _ _ h).trans rfl
theorem Q4.at3 {w : World} {g : Nat} {t : TypeId} {s : S4} {tl : List Value} (h : Q4 w g t s tl) : w.cell? ⟨g, 3, none⟩ = some (vw s.d) := (cell_of_row _ _ 3 _ _ _ h).trans rfl
theorem Q4.fr {w : World} {g j : Nat} {t : TypeId} {s : S4} {tl : List Value} (h : Q4 w g t s tl) : w.frozen? ⟨g, j, none⟩ = false := frozen_of_row _ _ _ _ _ h
theorem Q4.set0 {w : World} {g : Nat} {t : TypeId} {s : S4} {tl : List Value} (h : Q4 w g t s tl) (x : BitVec 64) : Q4 (w.setCell ⟨g, 0, none⟩ (vw x)) g t { s with a := x } tl := (heap_setCell_same _ _ _ _ _ _ h).trans (by simp)
theorem Q4.set1 {w : World} {g : Nat} {t : TypeId} {s : S4} {tl : List Value} (h : Q4 w g t s tl) (x : BitVec 64) : Q4 (w.setCell ⟨g, 1, none⟩ (vw x)) g t { s with b := x } tl := (heap_setCell_same _ _ _ _ _ _ h).trans (by simp)
theorem Q4.set2 {w : World} {g : Nat} {t : TypeId} {s : S4} {tl : List Value} (h : Q4 w g t s tl) (x : BitVec 64) : Q4 (w.setCell ⟨g, 2, none⟩ (vw x)) g t { s with c := x } tl := (heap_setCell_same _ _ _ _ _ _ h).trans (by simp)
theorem Q4.set3 {w : World} {g : Nat} {t : TypeId} {s : S4} {tl : List Value} (h : Q4 w g t s tl) (x : BitVec 64) : Q4 (w.setCell ⟨g, 3, none⟩ (vw x)) g t { s with d := x } tl := (heap_setCell_same _ _ _ _ _ _ h).trans (by simp)
theorem chg_set (w : World) (g j : Nat) (x : Value) : Chg [g] w (w.setCell ⟨g, j, none⟩ x) := (Chg.refl [g] w).setCell (p := ⟨g, j, none⟩) (.inl (by simp)) x

set_option maxRecDepth 100000 in
theorem half01_calls (g : Nat) (t : TypeId) (s : S4) (tl : List Value) (w : World) (h : Q4 w g t s tl) :
    Calls Try.prog 45 #[.pointer (some ⟨g, 0, none⟩), .int .i64 0, .int .i64 1, .int .i64 13] w fun e w' => e = .returned (.tuple #[]) ∧ Q4 w' g t { s with a := s.a + s.b, b := rot s.b 13 ^^^ (s.a + s.b) } tl ∧ Chg [g] w w' := by
  have c1 := h.at0
  have c2 := h.at1
  have f1 := h.fr (j := 0)
  have HQ := Lib.hid h
  clear h
  go_enter Try.func45, Try.ntmps45
  go_wp2_with fail
  go_region
  obtain ⟨x, HX⟩ : ∃ x, Hid (x = s.a + s.b) := ⟨_, rfl⟩
  rw [add_bv, ← HX.out]
  have HQ1 : Hid (Q4 (w.setCell ⟨g, 0, none⟩ (vw x)).drew g t { s with a := x } tl) := HQ.out.set0 _
  have HC1 : Hid (Chg [g] w (w.setCell ⟨g, 0, none⟩ (vw x)).drew) := (chg_set _ _ _ _).drew
  clear HQ c1 c2 f1
  generalize (w.setCell ⟨g, 0, none⟩ (vw x)).drew = w1 at *
  have c1 := HQ1.out.at0
  have c2 := HQ1.out.at1
  have f2 := HQ1.out.fr (j := 1)
  go_wp2_with fail
  go_region_with (go_at_call 46; refine (rot13_calls _ _).mono ?_; rintro e w' ⟨rfl, rfl⟩)
  all_goals
    rw [xor_bv]
    go_end0
    rw [← HX.out]
    exact ⟨rfl, HQ1.out.set1 _, (HC1.out.trans' (chg_set _ _ _ _)).drew⟩

set_option maxRecDepth 100000 in
theorem half23_calls (g : Nat) (t : TypeId) (s : S4) (tl : List Value) (w : World) (h : Q4 w g t s tl) :
    Calls Try.prog 45 #[.pointer (some ⟨g, 0, none⟩), .int .i64 2, .int .i64 3, .int .i64 16] w fun e w' => e = .returned (.tuple #[]) ∧ Q4 w' g t { s with c := s.c + s.d, d := rot s.d 16 ^^^ (s.c + s.d) } tl ∧ Chg [g] w w' := by
  have c1 := h.at2
  have c2 := h.at3
  have f1 := h.fr (j := 2)
  have HQ := Lib.hid h
  clear h
  go_enter Try.func45, Try.ntmps45
  go_wp2_with fail
  go_region
  obtain ⟨x, HX⟩ : ∃ x, Hid (x = s.c + s.d) := ⟨_, rfl⟩
  rw [add_bv, ← HX.out]
  have HQ1 : Hid (Q4 (w.setCell ⟨g, 2, none⟩ (vw x)).drew g t { s with c := x } tl) := HQ.out.set2 _
  have HC1 : Hid (Chg [g] w (w.setCell ⟨g, 2, none⟩ (vw x)).drew) := (chg_set _ _ _ _).drew
  clear HQ c1 c2 f1
  generalize (w.setCell ⟨g, 2, none⟩ (vw x)).drew = w1 at *
  have c1 := HQ1.out.at2
  have c2 := HQ1.out.at3
  have f2 := HQ1.out.fr (j := 3)
  go_wp2_with fail
  go_region_with (go_at_call 46; refine (rot16_calls _ _).mono ?_; rintro e w' ⟨rfl, rfl⟩)
  all_goals
    rw [xor_bv]
    go_end0
    rw [← HX.out]
    exact ⟨rfl, HQ1.out.set3 _, (HC1.out.trans' (chg_set _ _ _ _)).drew⟩

set_option maxRecDepth 100000 in
theorem half03_calls (g : Nat) (t : TypeId) (s : S4) (tl : List Value) (w : World) (h : Q4 w g t s tl) :
    Calls Try.prog 45 #[.pointer (some ⟨g, 0, none⟩), .int .i64 0, .int .i64 3, .int .i64 21] w fun e w' => e = .returned (.tuple #[]) ∧ Q4 w' g t { s with a := s.a + s.d, d := rot s.d 21 ^^^ (s.a + s.d) } tl ∧ Chg [g] w w' := by
  have c1 := h.at0
  have c2 := h.at3
  have f1 := h.fr (j := 0)
  have HQ := Lib.hid h
  clear h
  go_enter Try.func45, Try.ntmps45
  go_wp2_with fail
  go_region
  obtain ⟨x, HX⟩ : ∃ x, Hid (x = s.a + s.d) := ⟨_, rfl⟩
  rw [add_bv, ← HX.out]
  have HQ1 : Hid (Q4 (w.setCell ⟨g, 0, none⟩ (vw x)).drew g t { s with a := x } tl) := HQ.out.set0 _
  have HC1 : Hid (Chg [g] w (w.setCell ⟨g, 0, none⟩ (vw x)).drew) := (chg_set _ _ _ _).drew
  clear HQ c1 c2 f1
  generalize (w.setCell ⟨g, 0, none⟩ (vw x)).drew = w1 at *
  have c1 := HQ1.out.at0
  have c2 := HQ1.out.at3
  have f2 := HQ1.out.fr (j := 3)
  go_wp2_with fail
  go_region_with (go_at_call 46; refine (rot21_calls _ _).mono ?_; rintro e w' ⟨rfl, rfl⟩)
  all_goals
    rw [xor_bv]
    go_end0
    rw [← HX.out]
    exact ⟨rfl, HQ1.out.set3 _, (HC1.out.trans' (chg_set _ _ _ _)).drew⟩

set_option maxRecDepth 100000 in
theorem half21_calls (g : Nat) (t : TypeId) (s : S4) (tl : List Value) (w : World) (h : Q4 w g t s tl) :
    Calls Try.prog 45 #[.pointer (some ⟨g, 0, none⟩), .int .i64 2, .int .i64 1, .int .i64 17] w fun e w' => e = .returned (.tuple #[]) ∧ Q4 w' g t { s with c := s.c + s.b, b := rot s.b 17 ^^^ (s.c + s.b) } tl ∧ Chg [g] w w' := by
  have c1 := h.at2
  have c2 := h.at1
  have f1 := h.fr (j := 2)
  have HQ := Lib.hid h
  clear h
  go_enter Try.func45, Try.ntmps45
  go_wp2_with fail
  go_region
  obtain ⟨x, HX⟩ : ∃ x, Hid (x = s.c + s.b) := ⟨_, rfl⟩
  rw [add_bv, ← HX.out]
  have HQ1 : Hid (Q4 (w.setCell ⟨g, 2, none⟩ (vw x)).drew g t { s with c := x } tl) := HQ.out.set2 _
  have HC1 : Hid (Chg [g] w (w.setCell ⟨g, 2, none⟩ (vw x)).drew) := (chg_set _ _ _ _).drew
  clear HQ c1 c2 f1
  generalize (w.setCell ⟨g, 2, none⟩ (vw x)).drew = w1 at *
  have c1 := HQ1.out.at2
  have c2 := HQ1.out.at1
  have f2 := HQ1.out.fr (j := 1)
  go_wp2_with fail
  go_region_with (go_at_call 46; refine (rot17_calls _ _).mono ?_; rintro e w' ⟨rfl, rfl⟩)
  all_goals
    rw [xor_bv]
    go_end0
    rw [← HX.out]
    exact ⟨rfl, HQ1.out.set1 _, (HC1.out.trans' (chg_set _ _ _ _)).drew⟩
end Sp
end Go.Proofs.Ytnmgapokamkhpaa
