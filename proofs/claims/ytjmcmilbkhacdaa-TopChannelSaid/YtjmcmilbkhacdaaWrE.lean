/- The walks of the reader: try. -/
import Derived.Test.YtjmcmilbkhacdaaWrD
namespace Go.Proofs.Ytjmcmilbkhacdaa
open Go.RowKit
namespace Wi
open Wr

/-- what try leaves -/
def TryPost (g : Nat) (R : Int → Value → World → Prop) (e : Ending) (w'' : World) : Prop :=
  ∃ ec sl w', R ec sl w' ∧ w'.heap[g]? = some (.cells #[sl, .int .i64 0] 72 (0, 0)) ∧
    ((ec = 0 ∧ e = .returned (.bool true) ∧ w'' = w'.setCell ⟨g, 1, none⟩ (.int .i64 0)) ∨ (ec ≠ 0 ∧ e = .returned (.bool false) ∧ w'' = (w'.setCell ⟨g, 1, none⟩ (.int .i64 ec)).setCell ⟨g, 0, none⟩ (.slice none 0 0)))

set_option maxRecDepth 100000 in
theorem try_calls (F : Nat) (caps : Array Value) (hcf : ∀ w' : World, (callFunc F caps).run Try.prog w' = .ok (.enter F caps) w') (g : Nat) (w : World) (v : Value) (hg : w.heap[g]? = some (.cells #[v, .int .i64 0] 72 (0, 0)))
    (R : Int → Value → World → Prop)
    (H : Calls Try.prog F caps w (fun e w' => ∃ ec sl, e = .returned (.int .i64 ec) ∧ w'.heap[g]? = some (.cells #[sl, .int .i64 0] 72 (0, 0)) ∧ R ec sl w')) :
    Calls Try.prog 36 #[.pointer (some ⟨g, 0, none⟩), .func (Fn.func F) #[] caps] w (TryPost g R) := by
  have c1 : w.cell? ⟨g, 1, none⟩ = some (.int .i64 0) := (cell_of_row _ _ 1 _ _ _ hg).trans rfl
  have HH := Lib.hid H
  clear H hg
  go_enter Try.func36, Try.ntmps36
  go_wp2_with fail
  refine HH.out.mono ?_
  rintro e w1 ⟨ec, sl, rfl, hg1, hR⟩
  have HG1 := Lib.hid hg1
  have HR := Lib.hid hR
  have d1 : w1.cell? ⟨g, 1, none⟩ = some (.int .i64 0) := (cell_of_row _ _ 1 _ _ _ hg1).trans rfl
  have d0 : w1.cell? ⟨g, 0, none⟩ = some sl := (cell_of_row _ _ 0 _ _ _ hg1).trans rfl
  have f1 : w1.frozen? ⟨g, 1, none⟩ = false := frozen_of_row _ _ _ _ _ hg1
  have f0 : w1.frozen? ⟨g, 0, none⟩ = false := frozen_of_row _ _ _ _ _ hg1
  clear hg1 hR c1 HH
  by_cases hec : ec = 0
  · subst hec
    go_wp2_with fail
    go_ret
    exact ⟨0, sl, w1, HR.out, HG1.out, .inl ⟨rfl, rfl, rfl⟩⟩
  · have q1 : (ec != 0) = true := by simpa using hec
    have q2 : (ec == 0) = false := by simpa using hec
    have HE := Lib.hid hec
    clear hec
    go_wp2_with fail
    go_ret
    exact ⟨ec, sl, w1, HR.out, HG1.out, .inr ⟨HE.out, rfl, rfl⟩⟩

/-- an error is there already -/
theorem try_no (fv : Value) (g : Nat) (w : World) (v : Value) (er : Int) (hg : w.heap[g]? = some (.cells #[v, .int .i64 er] 72 (0, 0))) (he : er ≠ 0) :
    Calls Try.prog 36 #[.pointer (some ⟨g, 0, none⟩), fv] w fun e w' => e = .returned (.bool false) ∧ w = w' := by
  have c1 : w.cell? ⟨g, 1, none⟩ = some (.int .i64 er) := (cell_of_row _ _ 1 _ _ _ hg).trans rfl
  have q1 : (er != 0) = true := by simpa using he
  clear hg he
  go_enter Try.func36, Try.ntmps36
  go_wp2_with fail
  go_ret
  exact ⟨rfl, rfl⟩
end Wi
end Go.Proofs.Ytjmcmilbkhacdaa
