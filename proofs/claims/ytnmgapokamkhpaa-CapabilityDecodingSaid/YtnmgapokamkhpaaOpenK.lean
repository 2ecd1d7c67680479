/- Arguments that are keys: arrays of two words, by value. -/
import Derived.Test.YtnmgapokamkhpaaOpen
namespace Go.Proofs.Ytnmgapokamkhpaa
open Go.ChangeShapes Go.WideShapes Go.ChangeAt Go.RowKit

section
variable {H : Type} {enc : TypeId × Value → H} {P : Program} {W : World} {b : Nat} {sp : Nat → Bool} {hd : Bool}
theorem open_key {t e : TypeId} {r : Reach} {b0 : Nat} {v : Value} {d : DataW H} {p : List MemPlace} (ht : P.underlying t = some (.array 2 e)) (he : P.underlying e = some (.int .u64)) (hce : P.cellsOf e = 1) (hct : P.cellsOf t = 2)
    (hv : Value.okWide P W r b0 t v) (h : DataW.Trod enc P W b sp hd t v d p) : ∃ x y : BitVec 64, v = .agg #[vw x, vw y] := by
  have hv2 : ∃ cs, v = .agg cs ∧ cs.size = P.cellsOf t := by
    simp only [Value.okWide, ht] at hv
    obtain ⟨cs, h1, h2, _⟩ := hv
    exact ⟨cs, h1, h2⟩
  obtain ⟨cs, rfl, hsz⟩ := hv2
  obtain ⟨c0, c1, rfl⟩ : ∃ c0 c1, cs = #[c0, c1] := by
    cases cs with
    | mk l =>
      have hl : l.length = 2 := hsz.trans hct
      match l, hl with
      | [c0, c1], _ => exact ⟨c0, c1, rfl⟩
  obtain ⟨fuel, hf⟩ := h
  obtain ⟨xs, m, _, _, _, hlen, hel⟩ := DataW.trod_array ht hf
  have h0 := hel 0 (by omega)
  have h1 := hel 1 (by omega)
  rw [hce] at h0 h1
  simp [Value.cells] at h0 h1
  match xs, hlen with
  | [y0, y1], _ =>
    obtain ⟨n0, e0, _, w0⟩ := DataW.trod_int he (x := y0) (by simpa using h0)
    obtain ⟨n1, e1, _, w1⟩ := DataW.trod_int he (x := y1) (by simpa using h1)
    obtain ⟨x, rfl⟩ := wf_u64 w0
    obtain ⟨y, rfl⟩ := wf_u64 w1
    simp at e0 e1
    exact ⟨x, y, by rw [e0, e1]⟩
end
end Go.Proofs.Ytnmgapokamkhpaa
