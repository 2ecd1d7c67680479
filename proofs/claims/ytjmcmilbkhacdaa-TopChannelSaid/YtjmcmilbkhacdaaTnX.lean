/- An argument of type []Wire, opened. -/
import Derived.Test.YtjmcmilbkhacdaaTnW
import Derived.Test.YtjmcmilbkhacdaaOpenE
namespace Go.Proofs.Ytjmcmilbkhacdaa
open Go.ChangeShapes Go.WideShapes Go.ChangeAt Go.RowKit Go.Deep
namespace Tc

set_option maxRecDepth 100000 in
theorem open_wires {H : Type} {enc : TypeId × Value → H} {W : World} {b : Nat} {sp : Nat → Bool} {hd : Bool} {r : Reach} {b0 : Nat} {v : Value} {d : DataW H} {p : List MemPlace}
    (hv : Value.okWide Try.prog W r b0 22 v) (h : DataW.Trod enc Try.prog W b sp hd 22 v d p) :
    ∃ (A : Option Addr) (n cap : Nat) (ms : List Wm), v = .slice A n cap ∧ ms.length = n ∧ RdW W A ms := by
  obtain ⟨A, n, cap, rows, rfl, h1, h2, h3, h4, h5⟩ := open_structs Try.underlying22 Try.underlying34 (by kernel_rfl) (by kernel_rfl) (by decide) hv h
  obtain ⟨ms, rfl, hms⟩ := rows_of (g := Wm.cells) (Q := fun m => m.ok W) rows (fun r hr => by
    obtain ⟨hl, hf⟩ := h5 r hr
    match r, hl with
    | [u0, u1, u2], _ =>
      obtain ⟨_, _, _, e0, t0⟩ := hf 0 _ rfl
      obtain ⟨_, _, _, e1, t1⟩ := hf 1 _ rfl
      obtain ⟨_, _, _, e2, t2⟩ := hf 2 _ rfl
      cases e0; cases e1; cases e2
      obtain ⟨n0, e0, _, w0⟩ := DataW.trod_int Try.underlying5 t0
      obtain ⟨n1, e1, _, w1⟩ := DataW.trod_int Try.underlying3 t1
      obtain ⟨A2, c2, ys, e2, hl2, hm2, hr2, hw2⟩ := open_ints_cell Try.underlying32 Try.underlying5 (by kernel_rfl) t2
      cases e0; cases e1; cases e2
      obtain ⟨x, rfl⟩ := wf_u8 w0
      have hyz : (ys.map (fun z => UInt8.ofNat z.toNat)).map vb = ys.map (Value.int .u8) := by
        rw [List.map_map]
        apply List.map_congr_left
        intro z hz
        have hb := bounds_u8 (hw2 z hz)
        simp only [Function.comp, vb]
        rw [UInt8.toNat_ofNat', Nat.mod_eq_of_lt (by omega)]
        congr 1; omega
      refine ⟨⟨x, n1, ys.map (fun z => UInt8.ofNat z.toNat), A2, c2⟩, ?_, ?_, ?_, hm2⟩
      · simp [Wm.cells]
      · show Rd W A2 ((ys.map (fun z => UInt8.ofNat z.toNat)).map vb)
        rw [hyz]; exact hr2
      · show (ys.map _).length ≤ _
        rw [List.length_map]; exact hl2)
  exact ⟨A, n, cap, ms, rfl, by simpa using h3, h4, hms⟩
theorem top_row (W : World) (A : Option Addr) (n c : Nat) (ms : List Wm) (hn : ms.length = n) (hr : RdW W A ms) : Calls Try.prog 3 #[.slice A n c] W fun e w' => e = .returned (.bool true) ∧ Below W.heap.size W w' := top_calls A n c ms W hn hr
end Tc
end Go.Proofs.Ytjmcmilbkhacdaa
