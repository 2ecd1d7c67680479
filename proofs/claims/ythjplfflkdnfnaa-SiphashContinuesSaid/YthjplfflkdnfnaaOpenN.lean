/- Arguments of type [][]byte, opened to the words of Mem. -/
import Derived.Test.YthjplfflkdnfnaaOpenS
namespace Go.Proofs.Ythjplfflkdnfnaa
open Go.ChangeShapes Go.WideShapes Go.ChangeAt Go.RowKit Go.Deep

/-- a slice of bytes as an element -/
structure Bs where
  A : Option Addr
  c : Nat
  l : List UInt8
def Bs.val (e : Bs) : Value := .slice e.A e.l.length e.c
def Bs.ok (W : World) (e : Bs) : Prop := e.l.length ≤ e.c ∧ e.c ≤ maxLen ∧ RB W e.A e.l
theorem Bs.ok.below {W W' : World} {e : Bs} (h : e.ok W) (hb : Below W.heap.size W W') : e.ok W' := ⟨h.1, h.2.1, RB.below h.2.2 hb⟩

section
variable {H : Type} {enc : TypeId × Value → H} {P : Program} {W : World} {b : Nat} {sp : Nat → Bool} {hd : Bool}

theorem open_bytes_cell {t e : TypeId} {fuel : Nat} {u : Value} {x : DataW H × List MemPlace} (ht : P.underlying t = some (.slice e)) (he : P.underlying e = some (.int .u8)) (hc : P.cellsOf e = 1)
    (hf : DataW.trod enc P W b sp hd fuel t [u] = some x) : ∃ r : Bs, u = r.val ∧ r.ok W := by
  rcases open_ints ht he hc hf with ⟨hcs, _⟩ | ⟨a, n, cap, zs, hcs, _, hl, hm, hz, _, hcell, hwz⟩
  · simp at hcs
    subst hcs
    exact ⟨⟨none, 0, []⟩, rfl, Nat.le_refl _, by simp [maxLen], RB.nil⟩
  · simp at hcs
    subst hcs
    have hzl : n ≤ zs.length := by rw [hz]; split <;> omega
    have hll : ((zs.take n).map (fun z => UInt8.ofNat z.toNat)).length = n := by simp; omega
    refine ⟨⟨some a, cap, (zs.take n).map (fun z => UInt8.ofNat z.toNat)⟩, ?_, ?_⟩
    · unfold Bs.val; simp only [hll]
    · refine ⟨by simp only [hll]; exact hl, hm, ?_⟩
      by_cases hn0 : 0 < n
      · obtain ⟨blk, off, spot⟩ := a
        have hsp : spot = none := by
          have h0 := hcell 0 (by omega)
          simpa [Addr.add] using World.cell?_spot h0
        subst hsp
        refine RB.mk fun i hi => ?_
        have hin : i < n := by rw [hll] at hi; exact hi
        have hi' : i < zs.length := by omega
        rw [← addr_add, hcell i hi']
        have hb := bounds_u8 (hwz zs[i] (List.getElem_mem hi'))
        simp only [vb, List.getElem_map, List.getElem_take]
        rw [UInt8.toNat_ofNat', List.getD_eq_getElem?_getD, List.getElem?_eq_getElem hi']
        simp only [Option.getD_some]
        congr 2
        omega
      · have : (zs.take n).map (fun z => UInt8.ofNat z.toNat) = [] := List.eq_nil_of_length_eq_zero (by omega)
        simp only [this]; exact RB.nil

theorem open_bytess {t e e2 : TypeId} {r : Reach} {b0 : Nat} {v : Value} {d : DataW H} {p : List MemPlace} (ht : P.underlying t = some (.slice e)) (he : P.underlying e = some (.slice e2)) (he2 : P.underlying e2 = some (.int .u8))
    (hc : P.cellsOf e = 1) (hc2 : P.cellsOf e2 = 1) (hv : Value.okWide P W r b0 t v) (h : DataW.Trod enc P W b sp hd t v d p) :
    ∃ (A : Option Addr) (n cap : Nat) (rows : List Bs), v = .slice A n cap ∧ n ≤ cap ∧ cap ≤ maxLen ∧ rows.length = n ∧ Rd W A (rows.map Bs.val) ∧ ∀ r ∈ rows, r.ok W := by
  obtain ⟨A, n, cap, rfl⟩ := okWide_slice ht hv
  obtain ⟨fuel, hf⟩ := h
  rcases open_slice ht hf with ⟨hcs, _⟩ | ⟨a, len, cp, m, k, D, Pl, hcs, _, hl, hm, hmm, hx, hi⟩
  · simp [Value.cells] at hcs
    obtain ⟨rfl, rfl, rfl⟩ := hcs
    exact ⟨none, 0, 0, [], rfl, Nat.le_refl _, by simp [maxLen], rfl, Rd.nil, by simp⟩
  · simp [Value.cells] at hcs
    obtain ⟨rfl, rfl, rfl⟩ := hcs
    have hnm : n ≤ m := by rw [hmm]; split <;> omega
    have key : ∀ i, i < n → ∃ r : Bs, W.cell? (a.add i) = some r.val ∧ r.ok W := by
      intro i hin
      obtain ⟨cs', hcc, ht'⟩ := hi i (by omega)
      rw [hc, Nat.mul_one] at hcc
      obtain ⟨_, hcl, hat⟩ := World.cells?_some hcc
      match cs', hcl with
      | [u], _ =>
        obtain ⟨r, hr, hok⟩ := open_bytes_cell he he2 hc2 ht'
        refine ⟨r, ?_, hok⟩
        have := hat 0 (by omega)
        rw [Go.Deep.add_add, Nat.add_zero] at this
        rw [this, ← hr]; rfl
    have hall : ∃ rows : List Bs, rows.length = n ∧ ∀ i (hi : i < rows.length), W.cell? (a.add i) = some rows[i].val ∧ rows[i].ok W := by
      clear hl hm hmm hx hi hnm hf hv
      induction n with
      | zero => exact ⟨[], rfl, by simp⟩
      | succ n ih =>
        obtain ⟨rows, h1, h2⟩ := ih fun i hi => key i (by omega)
        obtain ⟨r, h3, h4⟩ := key n (by omega)
        refine ⟨rows ++ [r], by simp [h1], fun i hi => ?_⟩
        by_cases hin : i < rows.length
        · rw [List.getElem_append_left hin]; exact h2 i hin
        · have : i = n := by simp at hi; omega
          subst this
          have e : (rows ++ [r])[i] = r := by simp [← h1]
          rw [e]; exact ⟨h3, h4⟩
    obtain ⟨rows, h1, h2⟩ := hall
    refine ⟨_, n, cap, rows, rfl, hl, hm, h1, ?_, fun r hr => ?_⟩
    · by_cases hn0 : 0 < n
      · obtain ⟨blk, off, spot⟩ := a
        have hsp : spot = none := by
          obtain ⟨u, _⟩ := h2 0 (by omega)
          simpa [Addr.add] using World.cell?_spot u
        subst hsp
        refine Rd.mk fun i u hu => ?_
        have hi : i < rows.length := by simpa using (List.getElem?_eq_some_iff.1 hu).1
        have := (h2 i hi).1
        rw [addr_add] at this
        rw [this]
        simp [hi] at hu
        rw [hu]
      · have : rows = [] := List.eq_nil_of_length_eq_zero (by omega)
        subst this; exact Rd.nil
    · obtain ⟨i, hi, rfl⟩ := List.getElem_of_mem hr
      exact (h2 i hi).2
end
end Go.Proofs.Ythjplfflkdnfnaa
