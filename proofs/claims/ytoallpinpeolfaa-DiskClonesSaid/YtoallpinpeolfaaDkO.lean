/- An argument of type []Call, opened. -/
import Derived.Test.YtoallpinpeolfaaDkK
import Derived.Test.YtoallpinpeolfaaOpenE
namespace Go.Proofs.Ytoallpinpeolfaa
open Go.ChangeShapes Go.WideShapes Go.ChangeAt Go.RowKit Go.Deep
namespace Dk

theorem open_calls {H : Type} {enc : TypeId × Value → H} {W : World} {b : Nat} {sp : Nat → Bool} {hd : Bool} {r : Reach} {b0 : Nat} {v : Value} {d : DataW H} {p : List MemPlace}
    (hv : Value.okWide Try.prog W r b0 22 v) (h : DataW.Trod enc Try.prog W b sp hd 22 v d p) :
    ∃ (A : Option Addr) (n cap : Nat) (ms : List Cm), v = .slice A n cap ∧ n ≤ cap ∧ cap ≤ maxLen ∧ ms.length = n ∧ RdM W A ms := by
  obtain ⟨A, n, cap, rows, rfl, h1, h2, h3, h4, h5⟩ := open_structs Try.underlying22 Try.underlying36 (by kernel_rfl) (by kernel_rfl) (by decide) hv h
  obtain ⟨ms, rfl, hms⟩ := rows_of (g := Cm.cells) (Q := fun m => m.ok W) rows (fun r hr => by
    obtain ⟨hl, hf⟩ := h5 r hr
    match r, hl with
    | [u0, u1, u2, u3, u4], _ =>
      obtain ⟨_, _, _, e0, t0⟩ := hf 0 _ rfl
      obtain ⟨_, _, _, e1, t1⟩ := hf 1 _ rfl
      obtain ⟨_, _, _, e2, t2⟩ := hf 2 _ rfl
      obtain ⟨_, _, _, e3, t3⟩ := hf 3 _ rfl
      obtain ⟨_, _, _, e4, t4⟩ := hf 4 _ rfl
      cases e0; cases e1; cases e2; cases e3; cases e4
      obtain ⟨n0, e0, _, _⟩ := DataW.trod_int Try.underlying3 t0
      obtain ⟨n1, e1, _, w1⟩ := DataW.trod_int Try.underlying3 t1
      obtain ⟨n2, e2, _, w2⟩ := DataW.trod_int Try.underlying3 t2
      obtain ⟨n3, e3, _, w3⟩ := DataW.trod_int Try.underlying5 t3
      obtain ⟨A4, c4, zs, e4, hl4, hm4, hr4, _⟩ := open_ints_cell Try.underlying23 Try.underlying3 (by kernel_rfl) t4
      cases e0; cases e1; cases e2; cases e3; cases e4
      obtain ⟨x, rfl⟩ := wf_u8 w3
      have hb1 := bounds_i64 w1
      have hb2 := bounds_i64 w2
      exact ⟨⟨⟨n0, n1, n2, x, zs⟩, A4, c4⟩, rfl, hr4, hb1.1, hb1.2, hb2.2, by unfold maxLen at hm4; show zs.length ≤ _; omega⟩)
  exact ⟨A, n, cap, ms, rfl, h1, h2, by simpa using h3, h4, hms⟩
end Dk
end Go.Proofs.Ytoallpinpeolfaa
