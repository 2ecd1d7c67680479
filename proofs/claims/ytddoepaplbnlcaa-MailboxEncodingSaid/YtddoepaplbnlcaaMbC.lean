/- Lists of rows of one length, laid flat; messages in memory. No program in sight. -/
import Derived.Test.YtddoepaplbnlcaaMbA
import Derived.Test.YtddoepaplbnlcaaMbB
namespace Go.Proofs.Ytddoepaplbnlcaa
open Go.RowKit

section
variable {α : Type} {f : α → List Value} {sz : Nat}
theorem flat_len (hf : ∀ x, (f x).length = sz) (l : List α) : (l.map f).flatten.length = l.length * sz := by
  induction l with
  | nil => simp
  | cons x l ih => simp only [List.map_cons, List.flatten_cons, List.length_append, ih, hf, List.length_cons]; rw [Nat.add_mul]; omega
theorem flat_take (hf : ∀ x, (f x).length = sz) (l : List α) (i : Nat) (hi : i ≤ l.length) : (l.map f).flatten.take (i * sz) = ((l.take i).map f).flatten := by
  have h : (l.map f).flatten = ((l.take i).map f).flatten ++ ((l.drop i).map f).flatten := by rw [← List.flatten_append, ← List.map_append, List.take_append_drop]
  have hl : ((l.take i).map f).flatten.length = i * sz := by rw [flat_len hf, List.length_take, Nat.min_eq_left hi]
  rw [h, ← hl, List.take_left]
theorem flat_drop (hf : ∀ x, (f x).length = sz) (l : List α) (i : Nat) (hi : i ≤ l.length) : (l.map f).flatten.drop (i * sz) = ((l.drop i).map f).flatten := by
  have h : (l.map f).flatten = ((l.take i).map f).flatten ++ ((l.drop i).map f).flatten := by rw [← List.flatten_append, ← List.map_append, List.take_append_drop]
  have hl : ((l.take i).map f).flatten.length = i * sz := by rw [flat_len hf, List.length_take, Nat.min_eq_left hi]
  rw [h, ← hl, List.drop_left]
theorem flat_get (hf : ∀ x, (f x).length = sz) (l : List α) (i j : Nat) (hi : i < l.length) (hj : j < sz) : (l.map f).flatten[i * sz + j]? = (f l[i])[j]? := by
  have h1 : ((l.map f).flatten.drop (i * sz))[j]? = (f l[i])[j]? := by
    rw [flat_drop hf l i (by omega), List.drop_eq_getElem_cons hi, List.map_cons, List.flatten_cons, List.getElem?_append_left (by rw [hf]; exact hj)]
  rw [← h1, List.getElem?_drop]
end
section
variable {w w' : World} {B n sz : Nat} {e : TypeId} {v : Value} {xs : List Value}
/-- one cell of a row written -/
theorem own_set {g cap : Nat} (h : w.ownsRow B e sz (.slice (some ⟨g, 0, none⟩) n cap) n xs) (k : Nat) (u : Value) : (w.setCell ⟨g, k, none⟩ u).ownsRow B e sz (.slice (some ⟨g, 0, none⟩) n cap) n (xs.set k u) := by
  obtain ⟨h1, h2⟩ := h
  rcases h2 with ⟨h2, _⟩ | ⟨g', cap', cur, he, hg, hh, hnc, hm, hcs, hx⟩
  · cases h2
  · injection he with e1 _ e3
    injection e1 with e1
    injection e1 with e1
    subst e1 e3
    refine ⟨by simpa using h1, .inr ⟨g, cap, cur.setIfInBounds k u, rfl, hg, ?_, hnc, hm, by simpa using hcs, ?_⟩⟩
    · rw [setCell_eq_setRow w g k cur e (0, 0) u hh]
      exact setRow_heap w g cur _ e _ hh
    · rw [Array.toList_setIfInBounds, List.take_set, hx]
theorem own_cells {g cap : Nat} (h : w.ownsRow B e sz (.slice (some ⟨g, 0, none⟩) n cap) n xs) (k : Nat) (u : Value) (hk : xs[k]? = some u) : w.cell? ⟨g, k, none⟩ = some u ∧ w.frozen? ⟨g, k, none⟩ = false := by
  obtain ⟨h1, h2⟩ := h
  rcases h2 with ⟨h2, _⟩ | ⟨g', cap', cur, he, hg, hh, hnc, hm, hcs, hx⟩
  · cases h2
  · injection he with e1 _ e3
    injection e1 with e1
    injection e1 with e1
    subst e1 e3
    have hkl : k < n * sz := by rw [← h1]; exact (List.getElem?_eq_some_iff.1 hk).1
    refine ⟨?_, frozen_of_row _ _ _ _ _ hh⟩
    rw [cell_of_row _ _ _ _ _ _ hh, ← hk, ← hx, List.getElem?_take, if_pos hkl]
    simp
theorem own_some (h : w.ownsRow B e sz v n xs) (hn : 0 < n) : ∃ g cap, v = .slice (some ⟨g, 0, none⟩) n cap ∧ B ≤ g ∧ n ≤ cap ∧ cap ≤ maxLen ∧ g < w.heap.size := by
  rcases h.2 with ⟨_, h2⟩ | ⟨g, cap, cur, rfl, hg, hh, hnc, hm, _, _⟩
  · omega
  · exact ⟨g, cap, rfl, hg, hnc, hm, (Array.getElem?_eq_some_iff.1 hh).1⟩
end

namespace Mb
/-- a message in memory: where its arguments lie -/
structure Mm where
  m : Msg
  a : Option Addr
  c : Nat
def Mm.cells (x : Mm) : List Value := [.int .i64 x.m.a1, .int .i64 x.m.a2, .int .i64 x.m.i1, .int .i64 x.m.i2, .string x.m.me, .slice x.a x.m.ar.length x.c]
theorem Mm.len (x : Mm) : x.cells.length = 6 := rfl
def mval (x : Mm) : Value := .agg x.cells.toArray
/-- its arguments are read from blocks of N -/
structure Mm.ok (w : World) (N : List Nat) (x : Mm) : Prop where
  rd : Rd w x.a (x.m.ar.map (Value.int .i64))
  c1 : x.m.ar.length ≤ x.c
  c2 : x.c ≤ maxLen
  b : 0 < x.m.ar.length → ∀ b off, x.a = some ⟨b, off, none⟩ → b ∈ N
  a1 : -9223372036854775808 ≤ x.m.a1 ∧ x.m.a1 ≤ 9223372036854775807
  a2 : -9223372036854775808 ≤ x.m.a2 ∧ x.m.a2 ≤ 9223372036854775807
  i1 : -9223372036854775808 ≤ x.m.i1 ∧ x.m.i1 ≤ 9223372036854775807
  i2 : -9223372036854775808 ≤ x.m.i2 ∧ x.m.i2 ≤ 9223372036854775807
  ar : ∀ z ∈ x.m.ar, -9223372036854775808 ≤ z ∧ z ≤ 9223372036854775807
  s : x.m.me.size ≤ 9223372036854775807
/-- the blocks N are as they were -/
def Same (N : List Nat) (w w' : World) : Prop := ∀ x ∈ N, w'.heap[x]? = w.heap[x]?
theorem Same.rd {N : List Nat} {w w' : World} {A : Option Addr} {vs : List Value} (h : Same N w w') (hr : Rd w A vs) (hA : 0 < vs.length → ∀ b off, A = some ⟨b, off, none⟩ → b ∈ N) : Rd w' A vs := fun i v hv => by
  obtain ⟨b, off, rfl, hc⟩ := hr i v hv
  have hpos : 0 < vs.length := Nat.lt_of_le_of_lt (Nat.zero_le i) (List.getElem?_eq_some_iff.1 hv).1
  exact ⟨b, off, rfl, (World.cell?_of_block (a := ⟨b, off + i, none⟩) (h b (hA hpos b off rfl))).trans hc⟩
theorem Same.refl (N : List Nat) (w : World) : Same N w w := fun _ _ => rfl
theorem Same.trans {N : List Nat} {a b c : World} (h : Same N a b) (k : Same N b c) : Same N a c := fun x hx => (k x hx).trans (h x hx)
theorem Same.of_below {N : List Nat} {w w' : World} (hN : ∀ x ∈ N, x < w.heap.size) (h : Below w.heap.size w w') : Same N w w' := fun x hx => h.block x (hN x hx)
theorem Same.of_chg {N S : List Nat} {w w' : World} (hN : ∀ x ∈ N, x < w.heap.size ∧ x ∉ S) (h : Chg S w w') : Same N w w' := fun x hx => h.block x (hN x hx).1 (hN x hx).2
theorem Mm.ok.same {w w' : World} {N : List Nat} {x : Mm} (h : x.ok w N) (k : Same N w w') : x.ok w' N :=
  ⟨k.rd h.rd (fun hp => h.b (by simpa using hp)), h.c1, h.c2, h.b, h.a1, h.a2, h.i1, h.i2, h.ar, h.s⟩
theorem Mm.ok.sub {w : World} {N N' : List Nat} {x : Mm} (h : x.ok w N) (hs : ∀ y ∈ N, y ∈ N') : x.ok w N' :=
  ⟨h.rd, h.c1, h.c2, fun hp b off e => hs b (h.b hp b off e), h.a1, h.a2, h.i1, h.i2, h.ar, h.s⟩
def cells6 (xs : List Mm) : List Value := (xs.map Mm.cells).flatten
theorem cells6_len (xs : List Mm) : (cells6 xs).length = xs.length * 6 := flat_len Mm.len xs
theorem cells6_one (xs : List Mm) : ∀ u ∈ cells6 xs, u.oneCell' = true := by
  intro u hu
  obtain ⟨l, hl, hu⟩ := List.mem_flatten.1 hu
  obtain ⟨m, _, rfl⟩ := List.mem_map.1 hl
  simp only [Mm.cells, List.mem_cons, List.not_mem_nil, or_false] at hu
  rcases hu with rfl | rfl | rfl | rfl | rfl | rfl <;> rfl
theorem rd6 {w : World} {A : Option Addr} {xs : List Mm} (h : Rd w A (cells6 xs)) (i : Nat) (hi : i < xs.length) : ∃ b off, A = some ⟨b, off, none⟩ ∧ b < w.heap.size ∧
    w.cell? ⟨b, off + i * 6, none⟩ = some (.int .i64 xs[i].m.a1) ∧ w.cell? ⟨b, off + i * 6 + 1, none⟩ = some (.int .i64 xs[i].m.a2) ∧ w.cell? ⟨b, off + i * 6 + 2, none⟩ = some (.int .i64 xs[i].m.i1) ∧
    w.cell? ⟨b, off + i * 6 + 3, none⟩ = some (.int .i64 xs[i].m.i2) ∧ w.cell? ⟨b, off + i * 6 + 4, none⟩ = some (.string xs[i].m.me) ∧ w.cell? ⟨b, off + i * 6 + 5, none⟩ = some (.slice xs[i].a xs[i].m.ar.length xs[i].c) := by
  obtain ⟨b, off, e, h0⟩ := h (i * 6) _ (flat_get Mm.len xs i 0 hi (by omega))
  have hj : ∀ j v, j < 6 → (xs[i].cells)[j]? = some v → w.cell? ⟨b, off + i * 6 + j, none⟩ = some v := fun j v hj hv => by
    obtain ⟨b', off', e', h1⟩ := h (i * 6 + j) v ((flat_get Mm.len xs i j hi hj).trans hv)
    rw [e] at e'; cases e'; rw [Nat.add_assoc]; exact h1
  exact ⟨b, off, e, block_lt_of_cell h0, h0, hj 1 _ (by omega) rfl, hj 2 _ (by omega) rfl, hj 3 _ (by omega) rfl, hj 4 _ (by omega) rfl, hj 5 _ (by omega) rfl⟩
end Mb
end Go.Proofs.Ytddoepaplbnlcaa
