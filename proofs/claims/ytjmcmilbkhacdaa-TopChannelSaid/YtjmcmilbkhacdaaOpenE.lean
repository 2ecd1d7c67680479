/- Arguments that are slices of one-cell elements of any kind, and slices of calls of a disk. -/
import Derived.Test.YtjmcmilbkhacdaaOpenS
namespace Go.Proofs.Ytjmcmilbkhacdaa
open Go.ChangeShapes Go.WideShapes Go.ChangeAt Go.RowKit Go.Deep

section
variable {H : Type} {enc : TypeId × Value → H} {P : Program} {W : World} {b : Nat} {sp : Nat → Bool} {hd : Bool}

/-- a slice of integers as an element -/
theorem open_ints_cell {k : IntKind} {t e : TypeId} {fuel : Nat} {u : Value} {x : DataW H × List MemPlace} (ht : P.underlying t = some (.slice e)) (he : P.underlying e = some (.int k)) (hc : P.cellsOf e = 1)
    (hf : DataW.trod enc P W b sp hd fuel t [u] = some x) : ∃ (A : Option Addr) (cap : Nat) (zs : List Int), u = .slice A zs.length cap ∧ zs.length ≤ cap ∧ cap ≤ maxLen ∧ Rd W A (zs.map (Value.int k)) ∧ ∀ z ∈ zs, (Lit.int k z).wf = true := by
  rcases open_ints ht he hc hf with ⟨hcs, _⟩ | ⟨a, n, cap, zs, hcs, _, hl, hm, hz, _, hcell, hwz⟩
  · simp at hcs
    subst hcs
    exact ⟨none, 0, [], rfl, Nat.le_refl _, by simp [maxLen], Rd.nil, by simp⟩
  · simp at hcs
    subst hcs
    have hzl : n ≤ zs.length := by rw [hz]; split <;> omega
    have hll : (zs.take n).length = n := by simp; omega
    refine ⟨some a, cap, zs.take n, by rw [hll], by rw [hll]; exact hl, hm, ?_, fun z hz => hwz z (List.mem_of_mem_take hz)⟩
    intro i u hu
    have hi : i < n := by have := (List.getElem?_eq_some_iff.1 hu).1; simp at this; omega
    have hi' : i < zs.length := by omega
    have hc0 := hcell i hi'
    have hu' : u = .int k (zs.getD i 0) := by
      rw [List.getElem?_map, List.getElem?_take, if_pos hi, List.getElem?_eq_getElem hi'] at hu
      simp only [Option.map_some, Option.some.injEq] at hu
      rw [← hu, List.getD_eq_getElem?_getD, List.getElem?_eq_getElem hi']; rfl
    obtain ⟨blk, off, spot⟩ := a
    have hsp : spot = none := by
      have h0 := hcell 0 (by omega)
      simpa [Addr.add] using World.cell?_spot h0
    subst hsp
    exact ⟨blk, off, rfl, by rw [← addr_add, hc0, hu']⟩

theorem open_elems {β : Type} (g : β → Value) (Q : β → Prop) {t e : TypeId} {r : Reach} {b0 : Nat} {v : Value} {d : DataW H} {p : List MemPlace} (ht : P.underlying t = some (.slice e)) (hc : P.cellsOf e = 1)
    (hel : ∀ (fuel : Nat) (u : Value) (x : DataW H × List MemPlace), DataW.trod enc P W b sp hd fuel e [u] = some x → ∃ r : β, u = g r ∧ Q r) (hv : Value.okWide P W r b0 t v) (h : DataW.Trod enc P W b sp hd t v d p) :
    ∃ (A : Option Addr) (n cap : Nat) (rows : List β), v = .slice A n cap ∧ n ≤ cap ∧ cap ≤ maxLen ∧ rows.length = n ∧ Rd W A (rows.map g) ∧ ∀ r ∈ rows, Q r := by
  obtain ⟨A, n, cap, rfl⟩ := okWide_slice ht hv
  obtain ⟨fuel, hf⟩ := h
  rcases open_slice ht hf with ⟨hcs, _⟩ | ⟨a, len, cp, m, k, D, Pl, hcs, _, hl, hm, hmm, hx, hi⟩
  · simp [Value.cells] at hcs
    obtain ⟨rfl, rfl, rfl⟩ := hcs
    exact ⟨none, 0, 0, [], rfl, Nat.le_refl _, by simp [maxLen], rfl, Rd.nil, by simp⟩
  · simp [Value.cells] at hcs
    obtain ⟨rfl, rfl, rfl⟩ := hcs
    have hnm : n ≤ m := by rw [hmm]; split <;> omega
    have key : ∀ i, i < n → ∃ r : β, W.cell? (a.add i) = some (g r) ∧ Q r := by
      intro i hin
      obtain ⟨cs', hcc, ht'⟩ := hi i (by omega)
      rw [hc, Nat.mul_one] at hcc
      obtain ⟨_, hcl, hat⟩ := World.cells?_some hcc
      match cs', hcl with
      | [u], _ =>
        obtain ⟨r, hr, hok⟩ := hel _ _ _ ht'
        refine ⟨r, ?_, hok⟩
        have := hat 0 (by omega)
        rw [Go.Deep.add_add, Nat.add_zero] at this
        rw [this, ← hr]; rfl
    have hall : ∃ rows : List β, rows.length = n ∧ ∀ i (hi : i < rows.length), W.cell? (a.add i) = some (g rows[i]) ∧ Q rows[i] := by
      clear hl hm hmm hx hi hnm hf hv
      induction n with
      | zero => exact ⟨[], rfl, by simp⟩
      | succ n ih =>
        obtain ⟨rows, h1, h2⟩ := ih fun i hi => key i (by omega)
        obtain ⟨r, h3, h4⟩ := key n (by omega)
        refine ⟨rows ++ [r], by simp [h1], fun i hi => ?_⟩
        by_cases hin : i < rows.length
        · rw [List.getElem_append_left hin]; exact h2 i hin
        · have : i = n := by simp at hi; omega
          subst this
          have e : (rows ++ [r])[i] = r := by simp [← h1]
          rw [e]; exact ⟨h3, h4⟩
    obtain ⟨rows, h1, h2⟩ := hall
    refine ⟨_, n, cap, rows, rfl, hl, hm, h1, ?_, fun r hr => ?_⟩
    · by_cases hn0 : 0 < n
      · obtain ⟨blk, off, spot⟩ := a
        have hsp : spot = none := by
          obtain ⟨u, _⟩ := h2 0 (by omega)
          simpa [Addr.add] using World.cell?_spot u
        subst hsp
        refine Rd.mk fun i u hu => ?_
        have hi : i < rows.length := by simpa using (List.getElem?_eq_some_iff.1 hu).1
        have := (h2 i hi).1
        rw [addr_add] at this
        rw [this]
        simp [hi] at hu
        rw [hu]
      · have : rows = [] := List.eq_nil_of_length_eq_zero (by omega)
        subst this; exact Rd.nil
    · obtain ⟨i, hi, rfl⟩ := List.getElem_of_mem hr
      exact (h2 i hi).2
end
end Go.Proofs.Ytjmcmilbkhacdaa
