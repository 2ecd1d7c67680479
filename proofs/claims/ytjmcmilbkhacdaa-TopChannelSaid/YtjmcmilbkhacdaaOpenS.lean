/- Arguments that are slices of structs, opened to the words of Mem. -/
import Derived.Test.YtjmcmilbkhacdaaOpen
import Derived.Deep.Slices
import Derived.Deep.Fields
import Derived.ChangeSame
namespace Go.Proofs.Ytjmcmilbkhacdaa
open Go.ChangeShapes Go.WideShapes Go.ChangeAt Go.RowKit Go.Deep

theorem flatten_rows {α : Type} (f : Nat → α) (s n : Nat) : ((List.range n).map fun i => (List.range s).map fun j => f (i * s + j)).flatten = (List.range (n * s)).map f := by
  induction n with
  | zero => simp
  | succ n ih =>
    rw [List.range_succ, List.map_append, List.flatten_append, ih, Nat.succ_mul, List.range_add, List.map_append]
    simp [Function.comp_def]

/-- a list of rows that are each of a kind -/
theorem rows_of {α β : Type} {g : β → α} {Q : β → Prop} (rows : List α) (h : ∀ r ∈ rows, ∃ c, r = g c ∧ Q c) : ∃ cs : List β, rows = cs.map g ∧ ∀ c ∈ cs, Q c := by
  induction rows with
  | nil => exact ⟨[], rfl, by simp⟩
  | cons r rows ih =>
    obtain ⟨cs, h1, h2⟩ := ih fun r hr => h r (List.mem_cons_of_mem _ hr)
    obtain ⟨c, h3, h4⟩ := h r List.mem_cons_self
    exact ⟨c :: cs, by rw [h1, h3]; rfl, by
      intro x hx
      rcases List.mem_cons.1 hx with rfl | hx
      · exact h4
      · exact h2 x hx⟩

section
variable {H : Type} {enc : TypeId × Value → H} {P : Program} {W : World} {b : Nat} {sp : Nat → Bool} {hd : Bool}
theorem open_structs {t e : TypeId} {fs : Array Field} {r : Reach} {b0 : Nat} {v : Value} {d : DataW H} {p : List MemPlace} (ht : P.underlying t = some (.slice e)) (he : P.underlying e = some (.struct fs))
    (hone : oneCellFields P fs = true) (hC : P.cellsOf e = fs.size) (hpos : 0 < fs.size) (hv : Value.okWide P W r b0 t v) (h : DataW.Trod enc P W b sp hd t v d p) :
    ∃ (A : Option Addr) (n cap : Nat) (rows : List (List Value)), v = .slice A n cap ∧ n ≤ cap ∧ cap ≤ maxLen ∧ rows.length = n ∧ Rd W A rows.flatten ∧
      ∀ r ∈ rows, r.length = fs.size ∧ ∀ (j : Nat) (f : Field), fs[j]? = some f → ∃ u y k, r[j]? = some u ∧ DataW.trod enc P W b sp hd k f.type [u] = some y := by
  obtain ⟨A, n, cap, rfl⟩ := okWide_slice ht hv
  obtain ⟨fuel, hf⟩ := h
  rcases open_slice ht hf with ⟨hcs, _⟩ | ⟨a, len, cp, m, k, D, Pl, hcs, _, hl, hm, hmm, hx, hi⟩
  · simp [Value.cells] at hcs
    obtain ⟨rfl, rfl, rfl⟩ := hcs
    exact ⟨none, 0, 0, [], rfl, Nat.le_refl _, by simp [maxLen], rfl, Rd.nil, by simp⟩
  · simp [Value.cells] at hcs
    obtain ⟨rfl, rfl, rfl⟩ := hcs
    have hnm : n ≤ m := by rw [hmm]; split <;> omega
    have key : ∀ i, i < n → ∀ j f, fs[j]? = some f → ∃ u y k, W.cell? (a.add (i * fs.size + j)) = some u ∧ DataW.trod enc P W b sp hd k f.type [u] = some y := by
      intro i hin j f hj
      obtain ⟨cs', hc, ht'⟩ := hi i (by omega)
      rw [hC] at hc
      obtain ⟨ys, n', hn', hy, hlen, hyl, hfd⟩ := DataW.trod_struct he ht'
      obtain ⟨_, hcl, hat⟩ := World.cells?_some hc
      obtain ⟨ho, hk⟩ := hone_of hone j f hj
      have hjl : j < fs.size := (Array.getElem?_eq_some_iff.1 hj).1
      have hcell := hat j hjl
      have h1 := hfd j f hj
      rw [ho, hk] at h1
      have hone' : (cs'.drop j).take 1 = [cs'[j]'(by omega)] := by
        rw [List.drop_eq_getElem_cons (by omega)]
        rfl
      rw [hone'] at h1
      have hys : ys[j]? = some (ys[j]'(by omega)) := List.getElem?_eq_getElem (by omega)
      exact ⟨_, _, n', by rw [← Go.Deep.add_add, hcell]; exact List.getElem?_eq_getElem (by omega), h1.trans hys⟩
    let F : Nat → Value := fun q => (W.cell? (a.add q)).getD undef
    refine ⟨_, n, cap, (List.range n).map fun i => (List.range fs.size).map fun j => F (i * fs.size + j), rfl, hl, hm, by simp, ?_, ?_⟩
    · rw [flatten_rows]
      have hall : ∀ q, q < n * fs.size → ∃ u, W.cell? (a.add q) = some u := by
        intro q hq
        have h1 : q / fs.size < n := Nat.div_lt_of_lt_mul (by rw [Nat.mul_comm]; exact hq)
        have h2 : q % fs.size < fs.size := Nat.mod_lt _ hpos
        obtain ⟨u, _, _, hu, _⟩ := key (q / fs.size) h1 (q % fs.size) _ (Array.getElem?_eq_getElem h2)
        refine ⟨u, ?_⟩
        rw [← hu]; congr 2
        rw [Nat.mul_comm]; exact (Nat.div_add_mod q fs.size).symm
      by_cases hn0 : 0 < n * fs.size
      · obtain ⟨blk, off, spot⟩ := a
        have hsp : spot = none := by
          obtain ⟨u, hu⟩ := hall 0 hn0
          simpa [Addr.add] using World.cell?_spot hu
        subst hsp
        refine Rd.mk fun q u hu => ?_
        have hq : q < n * fs.size := by simpa using (List.getElem?_eq_some_iff.1 hu).1
        obtain ⟨u', hu'⟩ := hall q hq
        simp [hq, F, hu'] at hu
        rw [← addr_add, hu', hu]
      · rw [show n * fs.size = 0 by omega]; exact Rd.nil
    · intro r hr
      simp only [List.mem_map, List.mem_range] at hr
      obtain ⟨i, hin, rfl⟩ := hr
      refine ⟨by simp, fun j f hj => ?_⟩
      have hjl : j < fs.size := (Array.getElem?_eq_some_iff.1 hj).1
      obtain ⟨u, y, k', hu, hty⟩ := key i hin j f hj
      exact ⟨u, y, k', by simp [hjl, F, hu], hty⟩
end
end Go.Proofs.Ytjmcmilbkhacdaa
