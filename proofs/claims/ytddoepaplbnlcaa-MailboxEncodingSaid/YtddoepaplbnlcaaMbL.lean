/- Lists of identities; the walk of slices.Compact over them. -/
import Derived.Test.YtddoepaplbnlcaaMbK
import Derived.Laws.StructEq
namespace Go.Proofs.Ytddoepaplbnlcaa
open Go.RowKit Go.Shelf
namespace Mb

theorem eq_id10 (a b c d : Int) (w : World) : (Op.equalIn 10000 30 (.agg #[.int .i64 a, .int .i64 b]) (.agg #[.int .i64 c, .int .i64 d])).run Try.prog w = .ok (a == c && b == d) w := by
  have hS : Try.prog.underlying 30 = some (.struct (Try.prog.fieldsOf 30)) := by kernel_rfl
  have hp : Try.prog.stoodInHeld 30 = false := by kernel_rfl
  rw [show (10000 : Nat) = 9999 + 1 from rfl, run_equalIn_agg w 9999 30 _ _ hS hp]
  simp only [Program.fieldsOf, Try.underlying30]
  go_simp
  by_cases h1 : a = c <;> by_cases h2 : b = d <;> simp [h1, h2]
theorem eq_pair (x y : Int × Int) (w : World) : (Op.equalIn 10000 30 (.agg #[.int .i64 x.1, .int .i64 x.2]) (.agg #[.int .i64 y.1, .int .i64 y.2])).run Try.prog w = .ok (decide (x = y)) w := by
  rw [eq_id10]
  congr 1
  obtain ⟨a, b⟩ := x
  obtain ⟨c, d⟩ := y
  rw [Bool.eq_iff_iff]
  simp
def idC (x : Int × Int) : List Value := [.int .i64 x.1, .int .i64 x.2]
theorem idC_len (x : Int × Int) : (idC x).length = 2 := rfl
def cells2 (l : List (Int × Int)) : List Value := (l.map idC).flatten
theorem cells2_len (l : List (Int × Int)) : (cells2 l).length = l.length * 2 := flat_len idC_len l
theorem cells2_one (l : List (Int × Int)) : ∀ u ∈ cells2 l, u.oneCell' = true := by
  intro u hu
  obtain ⟨r, hl, hu⟩ := List.mem_flatten.1 hu
  obtain ⟨m, _, rfl⟩ := List.mem_map.1 hl
  simp only [idC, List.mem_cons, List.not_mem_nil, or_false] at hu
  rcases hu with rfl | rfl <;> rfl
theorem rd2 {w : World} {A : Option Addr} {l : List (Int × Int)} (h : Rd w A (cells2 l)) (i : Nat) (hi : i < l.length) : ∃ b off, A = some ⟨b, off, none⟩ ∧ b < w.heap.size ∧
    w.cell? ⟨b, off + i * 2, none⟩ = some (.int .i64 l[i].1) ∧ w.cell? ⟨b, off + i * 2 + 1, none⟩ = some (.int .i64 l[i].2) := by
  obtain ⟨b, off, e, h0⟩ := h (i * 2) _ (flat_get idC_len l i 0 hi (by omega))
  refine ⟨b, off, e, block_lt_of_cell h0, h0, ?_⟩
  obtain ⟨b', off', e', h1⟩ := h (i * 2 + 1) _ (flat_get idC_len l i 1 hi (by omega))
  rw [e] at e'; cases e'; rw [Nat.add_assoc]; exact h1
theorem set2 (L : List (Int × Int)) (d : Nat) (x : Int × Int) (hd : d < L.length) : ((cells2 L).set (d * 2) (.int .i64 x.1)).set (d * 2 + 1) (.int .i64 x.2) = cells2 (L.set d x) := by
  induction L generalizing d with
  | nil => simp at hd
  | cons y l ih =>
    have hc : ∀ (z : Int × Int) (l : List (Int × Int)), cells2 (z :: l) = idC z ++ cells2 l := fun z l => by simp [cells2]
    cases d with
    | zero => rw [List.set_cons_zero, hc, hc]; rfl
    | succ d =>
      have hs : ∀ (t : Nat) (u : Value) (r : List Value), (idC y ++ r).set ((d + 1) * 2 + t) u = idC y ++ r.set (d * 2 + t) u := fun t u r => by
        have hl : (idC y).length = 2 := rfl
        rw [List.set_append_right _ _ (by omega), hl, show (d + 1) * 2 + t - 2 = d * 2 + t by omega]
      rw [List.set_cons_succ, hc, hc, ← ih d (by simpa using hd)]
      have h0 := hs 0
      simp only [Nat.add_zero] at h0
      rw [h0, hs]
theorem dedup_snoc (l : List (Int × Int)) (x y : Int × Int) : dedup (l ++ [x] ++ [y]) = if x = y then dedup (l ++ [x]) else dedup (l ++ [x]) ++ [y] := by
  induction l with
  | nil =>
    simp only [List.nil_append, List.singleton_append, dedup]
    split
    · rename_i h; rw [h]
    · rfl
  | cons z l ih =>
    cases l with
    | nil =>
      simp only [List.nil_append, List.cons_append, dedup] at ih ⊢
      split <;> split <;> simp_all
    | cons z' l =>
      simp only [List.cons_append] at ih ⊢
      rw [dedup, dedup]
      split
      · rw [ih]
      · rw [ih]; split <;> rfl
theorem dedup_take (l : List (Int × Int)) (k : Nat) (h0 : 1 ≤ k) (hk : k < l.length) : dedup (l.take (k + 1)) = if l[k] = l[k - 1] then dedup (l.take k) else dedup (l.take k) ++ [l[k]] := by
  obtain ⟨k, rfl⟩ : ∃ j, k = j + 1 := ⟨k - 1, by omega⟩
  have h1 : l.take (k + 1 + 1) = l.take k ++ [l[k]] ++ [l[k + 1]] := by rw [List.take_succ_eq_append_getElem hk, List.take_succ_eq_append_getElem (by omega)]
  have h2 : l.take (k + 1) = l.take k ++ [l[k]] := List.take_succ_eq_append_getElem (by omega)
  rw [h1, h2, dedup_snoc]
  simp only [Nat.add_sub_cancel]
  by_cases h : l[k] = l[k + 1]
  · rw [if_pos h, if_pos h.symm]
  · rw [if_neg h, if_neg (fun e => h e.symm)]
theorem dedup_small (l : List (Int × Int)) (h : l.length < 2) : dedup l = l := by
  match l, h with
  | [], _ => rfl
  | [x], _ => rfl
theorem info_i : (Try.prog.info? 30).map (fun i => (i.zero, i.size, i.bytes)) = some (some (.agg #[.int .i64 0, .int .i64 0]), 2, 16) := by kernel_rfl
theorem size_i : (Try.prog.info? 30).map (·.size) = some 2 := by kernel_rfl
theorem elem_i : Try.prog.elem 53 = 30 := by kernel_rfl
def zI : Value := .agg #[.int .i64 0, .int .i64 0]
theorem zero_i (w : World) : (zeroValue 30).run Try.prog w = .ok zI w := by kernel_rfl
theorem zI_one : ∀ v ∈ zI.cells.toList, v.oneCell' = true := by
  intro v hv
  simp only [zI, Value.cells, List.mem_cons, List.not_mem_nil, or_false] at hv
  rcases hv with rfl | rfl <;> rfl
/-- the row in Compact's second loop -/
def CmpR (B g n c : Nat) (l : List (Int × Int)) (k d : Nat) (wr : World) : Prop :=
  (dedup (l.take k)).length = d ∧ d < k ∧ wr.ownsRow B 30 2 (.slice (some ⟨g, 0, none⟩) n c) n (cells2 (dedup (l.take k) ++ l.drop d))
theorem CmpR.get {B g n c k d : Nat} {l : List (Int × Int)} {wr : World} (h : CmpR B g n c l k d wr) (j : Nat) (hd : d ≤ j) (hj : j < l.length) : wr.cell? ⟨g, j * 2, none⟩ = some (.int .i64 l[j].1) ∧ wr.cell? ⟨g, j * 2 + 1, none⟩ = some (.int .i64 l[j].2) := by
  obtain ⟨h1, h2, h3⟩ := h
  have hl : j < (dedup (l.take k) ++ l.drop d).length := by rw [List.length_append, h1, List.length_drop]; omega
  have he : (dedup (l.take k) ++ l.drop d)[j] = l[j] := by
    rw [List.getElem_append_right (by omega)]
    simp only [h1, List.getElem_drop]
    congr 1; omega
  have g0 := flat_get idC_len _ j 0 hl (by omega)
  have g1 := flat_get idC_len _ j 1 hl (by omega)
  rw [he] at g0 g1
  exact ⟨(own_cells h3 (j * 2) _ g0).1, (own_cells h3 (j * 2 + 1) _ g1).1⟩
theorem CmpR.free {B g n c k d : Nat} {l : List (Int × Int)} {wr : World} (h : CmpR B g n c l k d wr) (t : Nat) (ht : t < n * 2) : ∃ u, wr.cell? ⟨g, t, none⟩ = some u ∧ wr.frozen? ⟨g, t, none⟩ = false := by
  have hl := h.2.2.1
  obtain ⟨u, hu⟩ : ∃ u, (cells2 (dedup (l.take k) ++ l.drop d))[t]? = some u := ⟨_, List.getElem?_eq_getElem (by rw [hl]; exact ht)⟩
  exact ⟨u, own_cells h.2.2 t u hu⟩
theorem CmpR.same {B g n c k d : Nat} {l : List (Int × Int)} {wr : World} (h : CmpR B g n c l k d wr) (hk : k < l.length) (he : l[k] = l[k - 1]) : CmpR B g n c l (k + 1) d wr.drew := by
  obtain ⟨h1, h2, h3⟩ := h
  have := dedup_take l k (by omega) hk
  rw [if_pos he] at this
  exact ⟨by rw [this]; exact h1, by omega, by rw [this]; exact h3⟩
theorem CmpR.next {B g n c k d : Nat} {l : List (Int × Int)} {wr : World} (h : CmpR B g n c l k d wr) (hk : k < l.length) (he : l[k] ≠ l[k - 1]) :
    CmpR B g n c l (k + 1) (d + 1) ((wr.setCell ⟨g, d * 2, none⟩ (.int .i64 l[k].1)).setCell ⟨g, d * 2 + 1, none⟩ (.int .i64 l[k].2)) := by
  obtain ⟨h1, h2, h3⟩ := h
  have ht := dedup_take l k (by omega) hk
  rw [if_neg he] at ht
  refine ⟨by rw [ht, List.length_append, h1]; rfl, by omega, ?_⟩
  have hs := own_set (own_set h3 (d * 2) (.int .i64 l[k].1)) (d * 2 + 1) (.int .i64 l[k].2)
  rw [set2 _ d l[k] (by rw [List.length_append, h1, List.length_drop]; omega)] at hs
  have e : (dedup (l.take k) ++ l.drop d).set d l[k] = dedup (l.take (k + 1)) ++ l.drop (d + 1) := by
    rw [List.set_append_right _ _ (by omega), h1, Nat.sub_self, List.drop_eq_getElem_cons (by omega : d < l.length), List.set_cons_zero, ht]
    simp
  rw [← e]; exact hs
end Mb
end Go.Proofs.Ytddoepaplbnlcaa
