/- An argument of type Op, opened, and what the form's reach says of a slice. -/
import Derived.Test.YtmdpmpfjldgalaaMN
import Derived.SizedLaws
namespace Go.Proofs.Ytmdpmpfjldgalaa
open Go.ChangeShapes Go.WideShapes Go.ChangeAt Go.RowKit Go.Deep

section
variable {H : Type} {enc : TypeId × Value → H} {P : Program} {W : World} {b : Nat} {sp : Nat → Bool} {hd : Bool}
theorem slice_sized {ts : List TypeId} {ds : List (DataW H)} (hsz : (DataW.weightsEach P ts ds).all (· ≤ reachBytes) = true) {j : Nat} {t e : TypeId} {A : Option Addr} {n cap : Nat} {d : DataW H} {p : List MemPlace} (ht : ts[j]? = some t) (hdj : ds[j]? = some d)
    (hu : P.underlying t = some (.slice e)) (h : DataW.Trod enc P W b sp hd t (.slice A n cap) d p) : n * P.bytesOf e ≤ reachBytes := by
  obtain ⟨fuel, hf⟩ := h
  rcases open_slice hu hf with ⟨hcs, _⟩ | ⟨a, len, cp, m, k, D, Pl, hcs, _, hl, hm, hmm, hx, hi⟩
  · simp [Value.cells] at hcs
    obtain ⟨rfl, rfl, rfl⟩ := hcs
    omega
  · simp [Value.cells] at hcs
    obtain ⟨rfl, rfl, rfl⟩ := hcs
    simp only [Prod.mk.injEq] at hx
    obtain ⟨rfl, _⟩ := hx
    have h1 := sized_slice hsz ht hdj hu
    simp only [List.length_map, List.length_range] at h1
    exact Nat.le_trans (Nat.mul_le_mul_right _ (by omega)) h1
theorem open_struct1 {t : TypeId} {fs : Array Field} {r : Reach} {b0 : Nat} {v : Value} {d : DataW H} {p : List MemPlace} (ht : P.underlying t = some (.struct fs))
    (hone : oneCellFields P fs = true) (hC : P.cellsOf t = fs.size) (hv : Value.okWide P W r b0 t v) (h : DataW.Trod enc P W b sp hd t v d p) :
    ∃ cs : List Value, v = .agg cs.toArray ∧ cs.length = fs.size ∧ ∀ (j : Nat) (f : Field), fs[j]? = some f → ∃ u y k, cs[j]? = some u ∧ DataW.trod enc P W b sp hd k f.type [u] = some y := by
  have hv2 : ∃ cs, v = .agg cs ∧ cs.size = P.cellsOf t := by
    simp only [Value.okWide, ht] at hv
    obtain ⟨cs, h1, h2, _⟩ := hv
    exact ⟨cs, h1, h2⟩
  obtain ⟨⟨cs⟩, rfl, hsz⟩ := hv2
  have hcl : cs.length = fs.size := hsz.trans hC
  obtain ⟨fuel, hf⟩ := h
  obtain ⟨ys, n', hn', hy, hlen, hyl, hfd⟩ := DataW.trod_struct ht hf
  refine ⟨cs, rfl, hcl, fun j f hj => ?_⟩
  obtain ⟨ho, hk⟩ := hone_of hone j f hj
  have hjl : j < fs.size := (Array.getElem?_eq_some_iff.1 hj).1
  have h1 := hfd j f hj
  rw [ho, hk] at h1
  have hone' : (cs.drop j).take 1 = [cs[j]'(by omega)] := by
    rw [List.drop_eq_getElem_cons (by omega)]
    rfl
  have hys : ys[j]? = some (ys[j]'(by omega)) := List.getElem?_eq_getElem (by omega)
  have h2 := h1.trans hys
  simp only [Value.cells] at h2
  rw [hone'] at h2
  exact ⟨_, _, n', List.getElem?_eq_getElem (by omega), h2⟩
end
namespace Jn
set_option maxRecDepth 100000 in
theorem open_op {H : Type} {enc : TypeId × Value → H} {W : World} {b : Nat} {sp : Nat → Bool} {hd : Bool} {r : Reach} {b0 : Nat} {v : Value} {d : DataW H} {p : List MemPlace}
    (hv : Value.okWide Try.prog W r b0 32 v) (h : DataW.Trod enc Try.prog W b sp hd 32 v d p) :
    ∃ m : Om, v = .agg m.cells.toArray ∧ m.ok W ∧ m.d.length ≤ m.c ∧ m.c ≤ maxLen := by
  obtain ⟨cs, rfl, hl, hf⟩ := open_struct1 Try.underlying32 (by kernel_rfl) (by kernel_rfl) hv h
  match cs, hl with
  | [u0, u1, u2, u3], _ =>
    obtain ⟨_, _, _, e0, t0⟩ := hf 0 _ rfl
    obtain ⟨_, _, _, e1, t1⟩ := hf 1 _ rfl
    obtain ⟨_, _, _, e2, t2⟩ := hf 2 _ rfl
    obtain ⟨_, _, _, e3, t3⟩ := hf 3 _ rfl
    cases e0; cases e1; cases e2; cases e3
    obtain ⟨n0, e0, _, w0⟩ := DataW.trod_int Try.underlying5 t0
    obtain ⟨A1, c1, ys, e1, hl1, hm1, hr1, hw1⟩ := open_ints_cell Try.underlying29 Try.underlying5 (by kernel_rfl) t1
    obtain ⟨n2, e2, _, w2⟩ := DataW.trod_int Try.underlying3 t2
    obtain ⟨A3, c3, zs, e3, hl3, hm3, hr3, _⟩ := open_ints_cell Try.underlying30 Try.underlying3 (by kernel_rfl) t3
    cases e0; cases e1; cases e2; cases e3
    obtain ⟨x, rfl⟩ := wf_u8 w0
    have hb2 := bounds_i64 w2
    have hyz : (ys.map (fun z => UInt8.ofNat z.toNat)).map vb = ys.map (Value.int .u8) := by
      rw [List.map_map]
      apply List.map_congr_left
      intro z hz
      have hb := bounds_u8 (hw1 z hz)
      simp only [Function.comp, vb]
      rw [UInt8.toNat_ofNat', Nat.mod_eq_of_lt (by omega)]
      congr 1; omega
    have hm1' := hm1
    unfold maxLen at hm1 hm3
    refine ⟨⟨x, A1, c1, ys.map (fun z => UInt8.ofNat z.toNat), n2, A3, c3, zs⟩, ?_, ⟨?_, hr3, hb2.1, hb2.2, ?_, ?_⟩, ?_, hm1'⟩
    · simp [Om.cells]
    · show Rd W A1 ((ys.map (fun z => UInt8.ofNat z.toNat)).map vb)
      rw [hyz]; exact hr1
    · show (ys.map _).length ≤ _
      rw [List.length_map]; omega
    · show zs.length ≤ _
      omega
    · show (ys.map _).length ≤ _
      rw [List.length_map]; exact hl1
theorem bytes_op : Try.prog.bytesOf 32 = 64 := by kernel_rfl
end Jn
end Go.Proofs.Ytmdpmpfjldgalaa
