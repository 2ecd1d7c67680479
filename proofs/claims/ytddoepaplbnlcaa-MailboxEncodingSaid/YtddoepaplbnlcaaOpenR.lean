/- Arguments that are slices of structs of any form: each element's cells, and that they read. -/
import Derived.Test.YtddoepaplbnlcaaOpenS
namespace Go.Proofs.Ytddoepaplbnlcaa
open Go.ChangeShapes Go.WideShapes Go.ChangeAt Go.RowKit Go.Deep

section
variable {H : Type} {enc : TypeId × Value → H} {P : Program} {W : World} {b : Nat} {sp : Nat → Bool} {hd : Bool}
theorem open_elems {t e : TypeId} {r : Reach} {b0 : Nat} {v : Value} {d : DataW H} {p : List MemPlace} (ht : P.underlying t = some (.slice e)) (s : Nat) (hC : P.cellsOf e = s) (hpos : 0 < s)
    (hv : Value.okWide P W r b0 t v) (h : DataW.Trod enc P W b sp hd t v d p) :
    ∃ (A : Option Addr) (n cap : Nat) (rows : List (List Value)), v = .slice A n cap ∧ n ≤ cap ∧ cap ≤ maxLen ∧ rows.length = n ∧ Rd W A rows.flatten ∧
      ∀ r ∈ rows, r.length = s ∧ ∃ k y, DataW.trod enc P W b sp hd k e r = some y := by
  obtain ⟨A, n, cap, rfl⟩ := okWide_slice ht hv
  obtain ⟨fuel, hf⟩ := h
  rcases open_slice ht hf with ⟨hcs, _⟩ | ⟨a, len, cp, m, k, D, Pl, hcs, _, hl, hm, hmm, hx, hi⟩
  · simp [Value.cells] at hcs
    obtain ⟨rfl, rfl, rfl⟩ := hcs
    exact ⟨none, 0, 0, [], rfl, Nat.le_refl _, by simp [maxLen], rfl, Rd.nil, by simp⟩
  · simp [Value.cells] at hcs
    obtain ⟨rfl, rfl, rfl⟩ := hcs
    have hnm : n ≤ m := by rw [hmm]; split <;> omega
    let F : Nat → Value := fun q => (W.cell? (a.add q)).getD undef
    have key : ∀ i, i < n → (∀ j, j < s → ∃ u, W.cell? (a.add (i * s + j)) = some u) ∧ ∃ k y, DataW.trod enc P W b sp hd k e ((List.range s).map fun j => F (i * s + j)) = some y := by
      intro i hin
      obtain ⟨cs', hcc, ht'⟩ := hi i (by omega)
      rw [hC] at hcc
      obtain ⟨_, hcl, hat⟩ := World.cells?_some hcc
      have hcell : ∀ j (hj : j < s), W.cell? (a.add (i * s + j)) = some (cs'[j]'(by omega)) := fun j hj => by
        rw [← Go.Deep.add_add, hat j hj]; exact List.getElem?_eq_getElem (by omega)
      have he : ((List.range s).map fun j => F (i * s + j)) = cs' := by
        apply List.ext_getElem
        · simp [hcl]
        · intro j h1 h2
          have hj : j < s := by simpa using h1
          simp [F, hcell j hj]
      exact ⟨fun j hj => ⟨_, hcell j hj⟩, k, (D i, Pl i), by rw [he]; exact ht'⟩
    refine ⟨_, n, cap, (List.range n).map fun i => (List.range s).map fun j => F (i * s + j), rfl, hl, hm, by simp, ?_, ?_⟩
    · rw [flatten_rows]
      have hall : ∀ q, q < n * s → ∃ u, W.cell? (a.add q) = some u := by
        intro q hq
        have h1 : q / s < n := Nat.div_lt_of_lt_mul (by rw [Nat.mul_comm]; exact hq)
        have h2 : q % s < s := Nat.mod_lt _ hpos
        obtain ⟨u, hu⟩ := (key (q / s) h1).1 (q % s) h2
        refine ⟨u, ?_⟩
        rw [← hu]; congr 2
        rw [Nat.mul_comm]; exact (Nat.div_add_mod q s).symm
      by_cases hn0 : 0 < n * s
      · obtain ⟨blk, off, spot⟩ := a
        have hsp : spot = none := by
          obtain ⟨u, hu⟩ := hall 0 hn0
          simpa [Addr.add] using World.cell?_spot hu
        subst hsp
        refine Rd.mk fun q u hu => ?_
        have hq : q < n * s := by simpa using (List.getElem?_eq_some_iff.1 hu).1
        obtain ⟨u', hu'⟩ := hall q hq
        simp [hq, F, hu'] at hu
        rw [← addr_add, hu', hu]
      · rw [show n * s = 0 by omega]; exact Rd.nil
    · intro r hr
      simp only [List.mem_map, List.mem_range] at hr
      obtain ⟨i, hin, rfl⟩ := hr
      exact ⟨by simp, (key i hin).2⟩
end
end Go.Proofs.Ytddoepaplbnlcaa
