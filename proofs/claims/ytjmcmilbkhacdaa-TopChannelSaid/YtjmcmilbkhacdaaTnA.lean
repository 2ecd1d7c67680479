/- Packets in memory; byte strings that stand. No program in sight. -/
import Derived.Test.YtjmcmilbkhacdaaMbB
import Derived.Test.YtjmcmilbkhacdaaCut
namespace Go.Proofs.Ytjmcmilbkhacdaa
open Go.RowKit

section
variable {α : Type} {f : α → List Value} {sz : Nat}
theorem flat_len (hf : ∀ x, (f x).length = sz) (l : List α) : (l.map f).flatten.length = l.length * sz := by
  induction l with
  | nil => simp
  | cons x l ih => simp only [List.map_cons, List.flatten_cons, List.length_append, ih, hf, List.length_cons]; rw [Nat.add_mul]; omega
theorem flat_take (hf : ∀ x, (f x).length = sz) (l : List α) (i : Nat) (hi : i ≤ l.length) : (l.map f).flatten.take (i * sz) = ((l.take i).map f).flatten := by
  have h : (l.map f).flatten = ((l.take i).map f).flatten ++ ((l.drop i).map f).flatten := by rw [← List.flatten_append, ← List.map_append, List.take_append_drop]
  have hl : ((l.take i).map f).flatten.length = i * sz := by rw [flat_len hf, List.length_take, Nat.min_eq_left hi]
  rw [h, ← hl, List.take_left]
theorem flat_drop (hf : ∀ x, (f x).length = sz) (l : List α) (i : Nat) (hi : i ≤ l.length) : (l.map f).flatten.drop (i * sz) = ((l.drop i).map f).flatten := by
  have h : (l.map f).flatten = ((l.take i).map f).flatten ++ ((l.drop i).map f).flatten := by rw [← List.flatten_append, ← List.map_append, List.take_append_drop]
  have hl : ((l.take i).map f).flatten.length = i * sz := by rw [flat_len hf, List.length_take, Nat.min_eq_left hi]
  rw [h, ← hl, List.drop_left]
theorem flat_get (hf : ∀ x, (f x).length = sz) (l : List α) (i j : Nat) (hi : i < l.length) (hj : j < sz) : (l.map f).flatten[i * sz + j]? = (f l[i])[j]? := by
  have h1 : ((l.map f).flatten.drop (i * sz))[j]? = (f l[i])[j]? := by
    rw [flat_drop hf l i (by omega), List.drop_eq_getElem_cons hi, List.map_cons, List.flatten_cons, List.getElem?_append_left (by rw [hf]; exact hj)]
  rw [← h1, List.getElem?_drop]
end
section
variable {w w' : World} {B n sz : Nat} {e : TypeId} {v : Value} {xs : List Value}
/-- one cell of a row written -/
theorem own_set {g cap : Nat} (h : w.ownsRow B e sz (.slice (some ⟨g, 0, none⟩) n cap) n xs) (k : Nat) (u : Value) : (w.setCell ⟨g, k, none⟩ u).ownsRow B e sz (.slice (some ⟨g, 0, none⟩) n cap) n (xs.set k u) := by
  obtain ⟨h1, h2⟩ := h
  rcases h2 with ⟨h2, _⟩ | ⟨g', cap', cur, he, hg, hh, hnc, hm, hcs, hx⟩
  · cases h2
  · injection he with e1 _ e3
    injection e1 with e1
    injection e1 with e1
    subst e1 e3
    refine ⟨by simpa using h1, .inr ⟨g, cap, cur.setIfInBounds k u, rfl, hg, ?_, hnc, hm, by simpa using hcs, ?_⟩⟩
    · rw [setCell_eq_setRow w g k cur e (0, 0) u hh]
      exact setRow_heap w g cur _ e _ hh
    · rw [Array.toList_setIfInBounds, List.take_set, hx]
theorem own_cells {g cap : Nat} (h : w.ownsRow B e sz (.slice (some ⟨g, 0, none⟩) n cap) n xs) (k : Nat) (u : Value) (hk : xs[k]? = some u) : w.cell? ⟨g, k, none⟩ = some u ∧ w.frozen? ⟨g, k, none⟩ = false := by
  obtain ⟨h1, h2⟩ := h
  rcases h2 with ⟨h2, _⟩ | ⟨g', cap', cur, he, hg, hh, hnc, hm, hcs, hx⟩
  · cases h2
  · injection he with e1 _ e3
    injection e1 with e1
    injection e1 with e1
    subst e1 e3
    have hkl : k < n * sz := by rw [← h1]; exact (List.getElem?_eq_some_iff.1 hk).1
    refine ⟨?_, frozen_of_row _ _ _ _ _ hh⟩
    rw [cell_of_row _ _ _ _ _ _ hh, ← hk, ← hx, List.getElem?_take, if_pos hkl]
    simp
theorem own_some (h : w.ownsRow B e sz v n xs) (hn : 0 < n) : ∃ g cap, v = .slice (some ⟨g, 0, none⟩) n cap ∧ B ≤ g ∧ n ≤ cap ∧ cap ≤ maxLen ∧ g < w.heap.size := by
  rcases h.2 with ⟨_, h2⟩ | ⟨g, cap, cur, rfl, hg, hh, hnc, hm, _, _⟩
  · omega
  · exact ⟨g, cap, rfl, hg, hnc, hm, (Array.getElem?_eq_some_iff.1 hh).1⟩
end


namespace Tc
/-- a packet in memory: where its data lies -/
structure Pk where
  num : Int
  f : Int
  t : Int
  d : List UInt8
  a : Option Addr
  c : Nat
def Pk.cells (x : Pk) : List Value := [.int .i64 x.num, .int .i64 x.f, .int .i64 x.t, .slice x.a x.d.length x.c]
theorem Pk.len (x : Pk) : x.cells.length = 4 := rfl
def pval (x : Pk) : Value := .agg x.cells.toArray
def cells4 (xs : List Pk) : List Value := (xs.map Pk.cells).flatten
theorem cells4_len (xs : List Pk) : (cells4 xs).length = xs.length * 4 := flat_len Pk.len xs
theorem cells4_one (xs : List Pk) : ∀ u ∈ cells4 xs, u.oneCell' = true := by
  intro u hu
  obtain ⟨l, hl, hu⟩ := List.mem_flatten.1 hu
  obtain ⟨m, _, rfl⟩ := List.mem_map.1 hl
  simp only [Pk.cells, List.mem_cons, List.not_mem_nil, or_false] at hu
  rcases hu with rfl | rfl | rfl | rfl <;> rfl
theorem rd4 {w : World} {A : Option Addr} {xs : List Pk} (h : Rd w A (cells4 xs)) (i : Nat) (hi : i < xs.length) : ∃ b off, A = some ⟨b, off, none⟩ ∧ b < w.heap.size ∧
    w.cell? ⟨b, off + i * 4, none⟩ = some (.int .i64 xs[i].num) ∧ w.cell? ⟨b, off + i * 4 + 1, none⟩ = some (.int .i64 xs[i].f) ∧ w.cell? ⟨b, off + i * 4 + 2, none⟩ = some (.int .i64 xs[i].t) ∧ w.cell? ⟨b, off + i * 4 + 3, none⟩ = some (.slice xs[i].a xs[i].d.length xs[i].c) := by
  obtain ⟨b, off, e, h0⟩ := h (i * 4) _ (flat_get Pk.len xs i 0 hi (by omega))
  have hj : ∀ j v, j < 4 → (xs[i].cells)[j]? = some v → w.cell? ⟨b, off + i * 4 + j, none⟩ = some v := fun j v hj hv => by
    obtain ⟨b', off', e', h1⟩ := h (i * 4 + j) v ((flat_get Pk.len xs i j hi hj).trans hv)
    rw [e] at e'; cases e'; rw [Nat.add_assoc]; exact h1
  exact ⟨b, off, e, block_lt_of_cell h0, h0, hj 1 _ (by omega) rfl, hj 2 _ (by omega) rfl, hj 3 _ (by omega) rfl⟩
/-- blocks below B, and byte rows, stand -/
structure Fz (B : Nat) (w w' : World) : Prop where
  lo : ∀ k, k < B → w'.heap[k]? = w.heap[k]?
  by_ : ∀ (k : Nat) cs fr, w.heap[k]? = some (Obj.cells cs 5 fr) → w'.heap[k]? = some (Obj.cells cs 5 fr)
theorem Fz.refl (B : Nat) (w : World) : Fz B w w := ⟨fun _ _ => rfl, fun _ _ _ h => h⟩
theorem Fz.trans {B : Nat} {a b c : World} (h : Fz B a b) (k : Fz B b c) : Fz B a c := ⟨fun x hx => (k.lo x hx).trans (h.lo x hx), fun x cs fr hx => k.by_ x cs fr (h.by_ x cs fr hx)⟩
theorem Fz.of_below {B : Nat} {w w' : World} (hB : B ≤ w.heap.size) (h : Below w.heap.size w w') : Fz B w w' :=
  ⟨fun k hk => h.block k (by omega), fun k cs fr hk => (h.block k (Array.getElem?_eq_some_iff.1 hk).1).trans hk⟩
/-- only blocks of other types were written -/
theorem Fz.of_chg {B : Nat} {w w' : World} {S : List Nat} (hB : B ≤ w.heap.size) (h : Chg S w w') (hS : ∀ x ∈ S, B ≤ x ∧ ∀ cs fr, w.heap[x]? ≠ some (Obj.cells cs 5 fr)) : Fz B w w' :=
  ⟨fun k hk => h.block k (by omega) (fun hm => by have := (hS k hm).1; omega), fun k cs fr hk => (h.block k (Array.getElem?_eq_some_iff.1 hk).1 (fun hm => (hS k hm).2 cs fr hk)).trans hk⟩
/-- a byte string that stands -/
structure Pl (B : Nat) (w : World) (A : Option Addr) (l : List UInt8) (c : Nat) : Prop where
  rd : RB w A l
  c1 : l.length ≤ c
  c2 : c ≤ maxLen
  b : 0 < l.length → ∀ b off, A = some ⟨b, off, none⟩ → b < B ∨ ∃ cs fr, w.heap[b]? = some (Obj.cells cs 5 fr)
theorem Pl.st {B : Nat} {w w' : World} {A : Option Addr} {l : List UInt8} {c : Nat} (h : Pl B w A l c) (k : Fz B w w') : Pl B w' A l c := by
  have hs : 0 < l.length → ∀ b off, A = some ⟨b, off, none⟩ → w'.heap[b]? = w.heap[b]? := fun hp b off e => by
    rcases h.b hp b off e with h1 | ⟨cs, fr, h1⟩
    · exact k.lo b h1
    · rw [h1]; exact k.by_ b cs fr h1
  refine ⟨fun i v hv => ?_, h.c1, h.c2, fun hp b off e => (h.b hp b off e).imp id fun ⟨cs, fr, h1⟩ => ⟨cs, fr, k.by_ b cs fr h1⟩⟩
  obtain ⟨b, off, rfl, hc⟩ := h.rd i v hv
  have hp : 0 < l.length := by have := (List.getElem?_eq_some_iff.1 hv).1; simp at this; omega
  exact ⟨b, off, rfl, (World.cell?_of_block (a := ⟨b, off + i, none⟩) (hs hp b off rfl)).trans hc⟩
/-- a byte row of one's own stands -/
theorem Pl.own {B B' : Nat} {w : World} {X : Option Addr} {k c : Nat} {l : List UInt8} (h : w.ownsRow B' 5 1 (.slice X k c) k (l.map vb)) (hk : l.length = k) : Pl B w X l c := by
  subst hk
  obtain ⟨_, _, e, h1, h2, _, hr⟩ := own_formS h
  cases e
  refine ⟨hr, h1, h2, fun hp b off e => .inr ?_⟩
  rcases h.2 with ⟨h3, _⟩ | ⟨g, cap, cur, h3, _, hh, _⟩
  · injection h3 with h3 _ _; rw [h3] at e; cases e
  · injection h3 with h3 _ _; rw [h3] at e; cases e
    exact ⟨_, _, hh⟩
end Tc
end Go.Proofs.Ytjmcmilbkhacdaa
