/- The walks of refmeshref02's Int, Count, String, Bool, Done of the reader. -/
import Derived.Test.YtnmgapokamkhpaaRrC
namespace Go.Proofs.Ytnmgapokamkhpaa
open Go.RowKit
namespace Wi
open Wr
variable {D : Nat}

theorem run_cut_u {P : Program} {t e : TypeId} (ht : P.underlying t = some (.slice e)) (he : P.elem t = e) (hs : (P.info? e).map (·.size) = some 1) (A : Option Addr) (n cap lo : Nat) (h1 : lo ≤ n) (w : World) :
    (Instr.slice t (.slice A n cap) (some (.int .u64 lo)) none none).run P w = .ok (.slice (cutA A lo cap) (n - lo) (cap - lo)) w := by
  subst he
  rw [run_slice_l w t A n cap ht .u64 lo (by omega) (by omega)]
  obtain ⟨i, hi', hsz⟩ := Option.map_eq_some_iff.1 hs
  simp [sizeOf, typeInfo, hi', hsz, sliced, cutA]

/-- Count -/
def countR (most : Int) (r : Rs) : Nat × Rs :=
  if (uintR r).2.e ≠ 0 then (0, (uintR r).2) else if most < 0 ∨ most < ((uintR r).1 : Int) then (0, failR 8) else if (uintR r).2.l.length < (uintR r).1 then (0, failR 11) else uintR r
/-- Bool -/
def boolR (r : Rs) : Bool × Rs :=
  if r.e ≠ 0 then (false, r) else match r.l with
    | [] => (false, failR 11)
    | x :: t => if 1 < x.toNat then (false, failR 11) else (decide (x.toNat = 1), ⟨t, 0⟩)

def RP (D : Nat) (w : World) (g : Nat) (v : Value) (r2 : Rs) (e : Ending) (w' : World) : Prop := e = .returned v ∧ IsRr D w' g r2 ∧ Chg [g] w w'


end Wi
end Go.Proofs.Ytnmgapokamkhpaa
