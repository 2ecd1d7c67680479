/- The walk of Reader.String. -/
import Derived.Test.YtddoepaplbnlcaaWrI
namespace Go.Proofs.Ytddoepaplbnlcaa
open Go.RowKit
namespace Wi
open Wr

/-- the closure's answer: how it leaves things -/
def SR (w : World) (S0 g : Nat) (A : Option Addr) (c : Nat) (l : List UInt8) (n : Nat) (ec : Int) (sl : Value) (w' : World) : Prop :=
  (4096 < n ∧ ec = 8 ∧ Chg [] w w') ∨ (n ≤ 4096 ∧ l.length < n ∧ ec = 11 ∧ Chg [] w w') ∨
    (n ≤ 4096 ∧ n ≤ l.length ∧ ec = 0 ∧ sl = .slice (cutA A n c) (l.length - n) (c - n) ∧ w'.heap[S0]? = some (.cells #[.string ⟨(l.take n).toArray⟩] 9 (0, 0)) ∧ Chg [S0, g] w w')
def SPost (w : World) (S0 g : Nat) (A : Option Addr) (c : Nat) (l : List UInt8) (n : Nat) (e : Ending) (w' : World) : Prop :=
  ∃ ec sl, e = .returned (.int .i64 ec) ∧ w'.heap[g]? = some (.cells #[sl, .int .i64 0] 119 (0, 0)) ∧ SR w S0 g A c l n ec sl w'

set_option maxRecDepth 100000 in
set_option maxHeartbeats 2000000 in
theorem string1_calls (N0 R0 S0 g : Nat) (A : Option Addr) (c : Nat) (l : List UInt8) (n : Nat) (w : World) (hN : w.heap[N0]? = some (.cells #[.int .u64 (n : Int)] 102 (0, 0))) (hR : w.heap[R0]? = some (.cells #[.pointer (some ⟨g, 0, none⟩)] 90 (0, 0)))
    (hS : w.heap[S0]? = some (.cells #[.string .empty] 9 (0, 0))) (hg : w.heap[g]? = some (.cells #[.slice A l.length c, .int .i64 0] 119 (0, 0))) (hr : RB w A l) (hlc : l.length ≤ c) (hcm : c ≤ maxLen)
    (hne : N0 ≠ S0 ∧ R0 ≠ S0 ∧ g ≠ S0 ∧ N0 ≠ g ∧ R0 ≠ g) (hn : n < 18446744073709551616) :
    Calls Try.prog 92 #[.pointer (some ⟨N0, 0, none⟩), .pointer (some ⟨R0, 0, none⟩), .pointer (some ⟨S0, 0, none⟩)] w (SPost w S0 g A c l n) := by
  unfold maxLen at hcm
  obtain ⟨ne1, ne2, ne3, ne4, ne5⟩ := hne
  have n0 : w.cell? ⟨N0, 0, none⟩ = some (.int .u64 (n : Int)) := (cell_of_row _ _ 0 _ _ _ hN).trans rfl
  have r0 : w.cell? ⟨R0, 0, none⟩ = some (.pointer (some ⟨g, 0, none⟩)) := (cell_of_row _ _ 0 _ _ _ hR).trans rfl
  have g0 : w.cell? ⟨g, 0, none⟩ = some (.slice A l.length c) := (cell_of_row _ _ 0 _ _ _ hg).trans rfl
  have fg : w.frozen? ⟨g, 0, none⟩ = false := frozen_of_row _ _ _ _ _ hg
  have s0 : w.cell? ⟨S0, 0, none⟩ = some (.string .empty) := (cell_of_row _ _ 0 _ _ _ hS).trans rfl
  have fs : w.frozen? ⟨S0, 0, none⟩ = false := frozen_of_row _ _ _ _ _ hS
  have HG := Lib.hid hg
  have HS := Lib.hid hS
  have HR := Lib.hid hr
  clear hN hR hS hg hr
  by_cases h1 : 4096 < n
  · have HF : Hid (SPost w S0 g A c l n (.returned (.int .i64 8)) w) := ⟨8, _, rfl, HG.out, .inl ⟨h1, rfl, Chg.refl _ _⟩⟩
    have d1 : decide ((4096 : Int) < (n : Int)) = true := by simp; omega
    go_enter Try.func92, Try.ntmps92
    go_wp2_with fail
    go_ret
    exact HF.out
  · have d1 : decide ((4096 : Int) < (n : Int)) = false := by simp; omega
    by_cases h2 : l.length < n
    · have HF : Hid (∀ k, SPost w S0 g A c l n (.returned (.int .i64 11)) (w.drewN k)) := fun k => ⟨11, _, rfl, HG.out, .inr (.inl ⟨by omega, h2, rfl, (Chg.refl _ _).drewN k⟩)⟩
      have hw : IntKind.u64.wrap (l.length : Int) = (l.length : Int) := by rw [IntKind.wrap_u64]; omega
      have d2 : decide ((l.length : Int) < (n : Int)) = true := by simp; omega
      have d3 : decide (l.length < n) = true := by simp; omega
      generalize l.length = m at *
      go_enter Try.func92, Try.ntmps92
      go_wp2_with fail
      go_quiet (fail)
      go_wp2_with fail
      go_ret
      exact HF.out _
    · have hw : IntKind.u64.wrap (l.length : Int) = (l.length : Int) := by rw [IntKind.wrap_u64]; omega
      have d2 : decide ((l.length : Int) < (n : Int)) = false := by simp; omega
      have d3 : decide (l.length < n) = false := by simp; omega
      have hcv : ∀ k, (convert 58 9 (.slice A n c)).run Try.prog (w.drewN k) = .ok (.string ⟨(l.take n).toArray⟩) (w.drewN k) := fun k =>
        run_str (P := Try.prog) (w := w.drewN k) n c 58 5 9 Try.underlying58 Try.underlying5 Try.underlying9 (by simp; omega) (RB.take HR.out n)
      have HF : Hid (∀ k sl, sl = Value.slice (cutA A n c) (l.length - n) (c - n) → SPost w S0 g A c l n (.returned (.int .i64 0)) (((w.drewN k).setCell ⟨S0, 0, none⟩ (.string ⟨(l.take n).toArray⟩)).setCell ⟨g, 0, none⟩ sl)) := by
        intro k sl hsl
        refine ⟨0, sl, rfl, ?_, .inr (.inr ⟨by omega, by omega, rfl, hsl, ?_, ?_⟩)⟩
        · exact heap_setCell_same _ _ _ _ _ _ ((heap_setCell_other _ ⟨S0, 0, none⟩ g _ (by simpa using ne3)).trans HG.out)
        · exact (heap_setCell_other _ ⟨g, 0, none⟩ S0 _ (by show S0 ≠ g; omega)).trans (heap_setCell_same _ _ _ _ _ _ HS.out)
        · exact ((((Chg.refl [S0, g] w).drewN k).setCell (p := ⟨S0, 0, none⟩) (.inl (by simp)) _).setCell (p := ⟨g, 0, none⟩) (.inl (by simp)) sl)
      have k0 : (0 : Int) ≤ (n : Int) := by omega
      have k1 : (n : Int) ≤ (l.length : Int) := by omega
      have k2 : (n : Int) ≤ (c : Int) := by omega
      by_cases hcn : c = n
      · have hcA : Hid (cutA A n c = A) := by show _ = _; unfold cutA; rw [if_pos hcn]
        have hif : ∀ x y : Option Addr, (if c = n then x else y) = x := fun x y => if_pos hcn
        clear hcn
        generalize l.take n = ln at *
        generalize l.length = m at *
        go_enter Try.func92, Try.ntmps92
        go_wp2_with fail
        go_quiet (fail)
        go_wp2_with fail
        go_region
        all_goals
          go_wp2_with fail
          go_ret
          exact HF.out _ _ (by rw [hcA.out])
      · have hcA : Hid (cutA A n c = Option.map (fun x => x.add n) A) := by show _ = _; unfold cutA; rw [if_neg hcn]
        generalize l.take n = ln at *
        generalize l.length = m at *
        go_enter Try.func92, Try.ntmps92
        go_wp2_with fail
        go_quiet (fail)
        go_wp2_with fail
        go_region
        all_goals
          go_wp2_with fail
          go_ret
          exact HF.out _ _ (by rw [hcA.out])

end Wi
end Go.Proofs.Ytddoepaplbnlcaa
