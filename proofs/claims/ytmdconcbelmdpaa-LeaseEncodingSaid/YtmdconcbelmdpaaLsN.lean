/- The walk of the closure in lease.Decode. -/
import Derived.Test.YtmdconcbelmdpaaLsM
namespace Go.Proofs.Ytmdconcbelmdpaa
open Go.RowKit
namespace Ls
open In (vi conB)
open Wr Wi

/-- a word as an integer -/
def mI (n : Nat) : Int := wrap64 (n : Int)
def great (b : Bool) (n : Nat) : Bool := b || decide (1099511627776 < n)
def fnU (g : Nat) : Value := .func (Fn.func 34) #[.pointer (some ⟨g, 0, none⟩)] #[]
def NextP (g G0 : Nat) (n : Nat) (b : Bool) (r2 : Rs) (w : World) (e : Ending) (w' : World) : Prop :=
  e = .returned (.int .i64 (mI n)) ∧ IsRd w' g r2 ∧ w'.heap[G0]? = some (.cells #[.bool (great b n)] 4 (0, 0)) ∧ Chg [g, G0] w w'

theorem enters_next : ∀ (args : Array Value) (w' : World), (callFunc 35 args).run Try.prog w' = .ok (.enter 35 args) w' := enters_of Try.func35 (by kernel_rfl) rfl

set_option maxRecDepth 100000 in
set_option maxHeartbeats 1000000 in
theorem next1_calls (F0 G0 g : Nat) (r : Rs) (b : Bool) (w : World) (hF : w.heap[F0]? = some (.cells #[fnU g] 72 (0, 0))) (hG : w.heap[G0]? = some (.cells #[.bool b] 4 (0, 0))) (h : IsRd w g r) (hgF : F0 ≠ g) (hgG : g < G0) :
    Calls Try.prog 35 #[.pointer (some ⟨F0, 0, none⟩), .pointer (some ⟨G0, 0, none⟩)] w (NextP g G0 (uintR r).1 b (uintR r).2 w) := by
  have HU := Lib.hid (uint_calls g r w h)
  unfold UintPost at HU
  have hlt := uintR_lt r
  have f0 : w.cell? ⟨F0, 0, none⟩ = some (.func (Fn.func 34) #[.pointer (some ⟨g, 0, none⟩)] #[]) := (cell_of_row _ _ 0 _ _ _ hF).trans rfl
  have HG := Lib.hid hG
  generalize (uintR r).1 = n at *
  generalize (uintR r).2 = r2 at *
  clear hF hG h
  have HMI : Hid (mI n = wrap64 (n : Int)) := rfl
  rw [show (mI n) = wrap64 (n : Int) from rfl] at *
  go_enter Try.func35, Try.ntmps35
  go_wp2_with fail
  refine HU.out.mono ?_
  rintro e w1 ⟨rfl, hr1, hc1⟩
  have HG1 := Lib.hid (hc1.blk HG.out (by simp; omega))
  have HR1 := Lib.hid hr1
  have HC1 : Hid (Chg [g, G0] w w1) := hc1.mono (by simp)
  have b0 : w1.cell? ⟨G0, 0, none⟩ = some (.bool b) := (cell_of_row _ _ 0 _ _ _ HG1.out).trans rfl
  have fz : w1.frozen? ⟨G0, 0, none⟩ = false := frozen_of_row _ _ _ _ _ HG1.out
  have HE : Hid (∀ y, y = great b n → NextP g G0 n b r2 w (.returned (.int .i64 (wrap64 (n : Int)))) (w1.setCell ⟨G0, 0, none⟩ (.bool y))) := by
    rintro y rfl
    have hcs : Chg [G0] w1 (w1.setCell ⟨G0, 0, none⟩ (.bool (great b n))) := (Chg.refl [G0] w1).setCell (p := ⟨G0, 0, none⟩) (.inl (by simp)) _
    exact ⟨rfl, HR1.out.chg hcs (by simp; omega), heap_setCell_same _ _ _ _ _ _ HG1.out, HC1.out.trans' (hcs.mono (by simp))⟩
  clear hr1 hc1 HU f0
  cases b with
  | true =>
    go_wp2_with fail
    go_ret
    exact HE.out true rfl
  | false =>
    by_cases hn : 1099511627776 < n
    · have d1 : decide ((1099511627776 : Int) < (n : Int)) = true := by rw [decide_eq_true_eq]; omega
      have HX : Hid (true = great false n) := by show _ = _; unfold great; rw [decide_eq_true hn]; rfl
      go_wp2_with fail
      go_ret
      exact HE.out true HX.out
    · have d1 : decide ((1099511627776 : Int) < (n : Int)) = false := by rw [decide_eq_false_iff_not]; omega
      have HX : Hid (false = great false n) := by show _ = _; unfold great; rw [decide_eq_false hn]; rfl
      have HNN : Hid (wrap64 (n : Int) = (n : Int)) := by show wrap64 (n : Int) = _; unfold wrap64; omega
      have hE := HE.out false HX.out
      rw [HNN.out] at hE
      have HE2 := Lib.hid hE
      clear hE HE
      go_wp2_with fail
      go_ret
      first | exact HE2.out | (have := HE2.out; rw [← HNN.out] at this; exact this)
end Ls
end Go.Proofs.Ytmdconcbelmdpaa
