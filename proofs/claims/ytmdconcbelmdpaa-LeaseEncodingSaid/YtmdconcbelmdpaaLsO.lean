/- An argument of type []Call, opened. -/
import Derived.Test.YtmdconcbelmdpaaLsH
import Derived.Test.YtmdconcbelmdpaaOpenS
namespace Go.Proofs.Ytmdconcbelmdpaa
open Go.ChangeShapes Go.WideShapes Go.ChangeAt Go.RowKit Go.Deep
namespace Ls

theorem open_calls {H : Type} {enc : TypeId × Value → H} {W : World} {b : Nat} {sp : Nat → Bool} {hd : Bool} {r : Reach} {b0 : Nat} {v : Value} {d : DataW H} {p : List MemPlace}
    (hv : Value.okWide Try.prog W r b0 22 v) (h : DataW.Trod enc Try.prog W b sp hd 22 v d p) :
    ∃ (A : Option Addr) (n cap : Nat) (cs : List Cl), v = .slice A n cap ∧ n ≤ cap ∧ cap ≤ maxLen ∧ cs.length = n ∧ RdC W A cs ∧ ∀ c ∈ cs, c.fits := by
  obtain ⟨A, n, cap, rows, rfl, h1, h2, h3, h4, h5⟩ := open_structs Try.underlying22 Try.underlying43 (by kernel_rfl) (by kernel_rfl) (by decide) hv h
  obtain ⟨cs, rfl, hcs⟩ := rows_of (g := Cl.cells) (Q := Cl.fits) rows (fun r hr => by
    obtain ⟨hl, hf⟩ := h5 r hr
    match r, hl with
    | [u0, u1, u2, u3], _ =>
      obtain ⟨_, _, _, e0, t0⟩ := hf 0 _ rfl
      obtain ⟨_, _, _, e1, t1⟩ := hf 1 _ rfl
      obtain ⟨_, _, _, e2, t2⟩ := hf 2 _ rfl
      obtain ⟨_, _, _, e3, t3⟩ := hf 3 _ rfl
      cases e0; cases e1; cases e2; cases e3
      obtain ⟨n0, e0, _, w0⟩ := DataW.trod_int Try.underlying5 t0
      obtain ⟨n1, e1, _, w1⟩ := DataW.trod_int Try.underlying3 t1
      obtain ⟨n2, e2, _, _⟩ := DataW.trod_int Try.underlying3 t2
      obtain ⟨n3, e3, _, _⟩ := DataW.trod_int Try.underlying3 t3
      cases e0; cases e1; cases e2; cases e3
      obtain ⟨x, rfl⟩ := wf_u8 w0
      have hb := bounds_i64 w1
      exact ⟨⟨x, n1, n2, n3⟩, rfl, hb⟩)
  exact ⟨A, n, cap, cs, rfl, h1, h2, by simpa using h3, h4, hcs⟩
end Ls
end Go.Proofs.Ytmdconcbelmdpaa
