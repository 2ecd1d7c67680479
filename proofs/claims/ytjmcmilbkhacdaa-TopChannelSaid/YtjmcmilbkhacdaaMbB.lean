/- Memory: rows of elements of several cells: copy, clear, cutting, one element written. No program in sight. -/
import Derived.Test.YtjmcmilbkhacdaaMemS
import Derived.Laws.CopyRow
namespace Go.Proofs.Ytjmcmilbkhacdaa
open Go.RowKit

/-- part of a list written anew -/
def over (xs : List Value) (k : Nat) (ys : List Value) : List Value := xs.take k ++ ys ++ xs.drop (k + ys.length)
theorem over_length (xs : List Value) (k : Nat) (ys : List Value) (h : k + ys.length ≤ xs.length) : (over xs k ys).length = xs.length := by
  unfold over; simp; omega
theorem over_take (cur : List Value) (m k : Nat) (ys : List Value) (h : k + ys.length ≤ m) (hm : m ≤ cur.length) : (over cur k ys).take m = over (cur.take m) k ys := by
  unfold over
  apply List.ext_getElem?
  intro j
  have l1 : (cur.take k).length = k := by simp; omega
  have l2 : ((cur.take m).take k).length = k := by simp; omega
  by_cases hj : j < m
  · rw [List.getElem?_take, if_pos hj, List.append_assoc, List.append_assoc]
    by_cases h1 : j < k
    · rw [List.getElem?_append_left (by omega), List.getElem?_append_left (by omega), List.getElem?_take, List.getElem?_take, List.getElem?_take, if_pos h1, if_pos h1, if_pos hj]
    · rw [List.getElem?_append_right (l₁ := cur.take k) (by omega), List.getElem?_append_right (l₁ := (cur.take m).take k) (by omega), l1, l2]
      by_cases h2 : j - k < ys.length
      · rw [List.getElem?_append_left h2, List.getElem?_append_left h2]
      · rw [List.getElem?_append_right (by omega), List.getElem?_append_right (by omega), List.getElem?_drop, List.getElem?_drop, List.getElem?_take, if_pos (by omega)]
  · rw [List.getElem?_eq_none (by simp; omega), List.getElem?_eq_none (by simp; omega)]

section
variable {P : Program} {w w' : World} {B n sz : Nat} {e : TypeId} {v : Value} {xs : List Value}

/-- cells of a row written anew -/
theorem own_over {g cap : Nat} {cur : Array Value} (_hg : B ≤ g) (hh : w.heap[g]? = some (.cells cur e (0, 0))) (hnc : n ≤ cap) (hm : cap ≤ maxLen) (hcs : cur.size = cap * sz) (hx : cur.toList.take (n * sz) = xs) (k : Nat) (ys : List Value) (hk : k + ys.length ≤ n * sz) :
    (w.setRow g (over cur.toList k ys).toArray).ownsRow B e sz (.slice (some ⟨g, 0, none⟩) n cap) n (over xs k ys) ∧ Wrote w (w.setRow g (over cur.toList k ys).toArray) (.slice (some ⟨g, 0, none⟩) n cap) := by
  have hle : n * sz ≤ cap * sz := Nat.mul_le_mul_right _ hnc
  have hxl : xs.length = n * sz := by rw [← hx]; simp; omega
  refine ⟨⟨?_, .inr ⟨g, cap, _, rfl, _hg, setRow_heap w g cur _ e _ hh, hnc, hm, ?_, ?_⟩⟩, ⟨rfl, rfl, rfl, by simp [World.setRow], fun i hi => setRow_other w g i _ fun e => hi (by simp [Value.ownBlock, e])⟩⟩
  · rw [over_length _ _ _ (by omega), hxl]
  · rw [List.size_toArray, over_length _ _ _ (by simp; omega)]; simp; exact hcs
  · rw [show (over cur.toList k ys).toArray.toList = over cur.toList k ys from rfl, over_take _ _ _ _ hk (by simp; omega), hx]

theorem run_copy_rowS (w : World) (dT sT ty elem : TypeId) (g o dLen dCap : Nat) (a : Addr) (sLen sCap : Nat) (cur : Array Value) (t : TypeId) (cs : List Value) (k : Nat)
    (hu : P.underlying dT = some (.slice elem)) (hs : (P.info? elem).map (·.size) = some sz) (hg : w.heap[g]? = some (.cells cur t (0, 0))) (hk : Nat.min sLen dLen = k) (hn : cs.length = k * sz)
    (hsrc : ∀ j v, cs[j]? = some v → w.cell? (a.add j) = some v) (hfit : o + cs.length ≤ cur.size) (h1 : ∀ v ∈ cs, v.oneCell' = true) :
    (Builtin.copy_ #[dT, sT] ty #[.slice (some ⟨g, o, none⟩) dLen dCap, .slice (some a) sLen sCap]).run P w = .ok (goInt k) (w.setRow g (over cur.toList o cs).toArray) := by
  have hl := run_loadCells_list (P := P) w a cs hsrc
  have hst := run_storeCells_at P g o t cs 0 cur w hg (by simpa using hfit) h1
  simp only [Nat.add_zero] at hst
  cases hq : P.info? elem with
  | none => simp [hq] at hs
  | some i =>
    have hi : i.size = sz := by simpa [hq] using hs
    unfold over
    simp [Builtin.copy_, run_underlying hu, Builtin.lenOf, Builtin.firstCells, sizeOf, typeInfo, hq, hi, hk, ← hn, hl, hst]
theorem run_copy_noneS (w : World) (dT sT ty elem : TypeId) (d a : Option Addr) (dLen dCap sLen sCap : Nat) (hu : P.underlying dT = some (.slice elem)) (hs : (P.info? elem).map (·.size) = some sz) (hn : Nat.min sLen dLen = 0) :
    (Builtin.copy_ #[dT, sT] ty #[.slice d dLen dCap, .slice a sLen sCap]).run P w = .ok (goInt 0) w := by
  cases hq : P.info? elem with
  | none => simp [hq] at hs
  | some i =>
    have hl : ∀ (x : Addr), (loadCells x 0).run P w = .ok #[] w := fun x => by simpa using run_loadCells_list (P := P) w x [] (by simp)
    cases d <;> cases a <;> simp [Builtin.copy_, run_underlying hu, Builtin.lenOf, Builtin.firstCells, sizeOf, typeInfo, hq, hn, storeCells, hl]
theorem zeroCells_len (z : Array Value) (n : Nat) : (Builtin.zeroCells z n).size = n * z.size := by simp [Builtin.zeroCells]
theorem zeroCells_one (z : Array Value) (h : ∀ v ∈ z.toList, v.oneCell' = true) (n : Nat) : ∀ v ∈ (Builtin.zeroCells z n).toList, v.oneCell' = true := by
  intro v hv
  simp only [Builtin.zeroCells, Array.toList_map, List.mem_map] at hv
  obtain ⟨i, hi, rfl⟩ := hv
  have hi' : i < n * z.size := by simpa using hi
  have hp : 0 < z.size := Nat.pos_of_ne_zero fun h0 => by rw [h0] at hi'; omega
  have hlt : i % z.size < z.size := Nat.mod_lt _ hp
  rw [getElem!_pos z (i % z.size) hlt]
  exact h _ (by simp)
/-- 'clear(s)' on a part of a row: the cells are written anew -/
theorem run_clear_rowS (w : World) (t elem ty : TypeId) (z : Value) (g o m c : Nat) (cur : Array Value) (tt : TypeId) (ht : P.underlying t = some (.slice elem)) (hv : ∀ w, (zeroValue elem).run P w = .ok z w) (hz : z.cells.size = sz) (h1 : ∀ v ∈ z.cells.toList, v.oneCell' = true)
    (hg : w.heap[g]? = some (.cells cur tt (0, 0))) (hfit : o + m * sz ≤ cur.size) (hm : 0 < m) :
    ∃ ys : List Value, ys.length = m * sz ∧ (Builtin.clear_ #[t] ty #[.slice (some ⟨g, o, none⟩) m c]).run P w = .ok (.tuple #[]) (w.setRow g (over cur.toList o ys).toArray) := by
  have hl : (Builtin.zeroCells z.cells m).toList.length = m * sz := by simp [zeroCells_len, hz]
  have hst := run_storeCells_at P g o tt (Builtin.zeroCells z.cells m).toList 0 cur w hg (by rw [hl]; simpa using hfit) (zeroCells_one _ h1 m)
  simp only [Nat.add_zero] at hst
  refine ⟨(Builtin.zeroCells z.cells m).toList, hl, ?_⟩
  obtain ⟨m, rfl⟩ : ∃ k, m = k + 1 := ⟨m - 1, by omega⟩
  unfold over
  simp [Builtin.clear_, run_underlying ht, hv, hst]
theorem run_clear_noneS (w : World) (t elem ty : TypeId) (a : Option Addr) (c : Nat) (ht : P.underlying t = some (.slice elem)) : (Builtin.clear_ #[t] ty #[.slice a 0 c]).run P w = .ok (.tuple #[]) w := by
  cases a <;> simp [Builtin.clear_, run_underlying ht]

/-! ### longer and shorter -/
theorem own_less (h : w.ownsRow B e sz v n xs) {A : Option Addr} {cap : Nat} (hv : v = .slice A n cap) (k : Nat) (hk : k ≤ n) (hk0 : n = 0 → A = none) : w.ownsRow B e sz (.slice A k cap) k (xs.take (k * sz)) := by
  obtain ⟨h1, h2⟩ := h
  have hle : k * sz ≤ n * sz := Nat.mul_le_mul_right _ hk
  refine ⟨by simp; omega, ?_⟩
  rcases h2 with ⟨rfl, rfl⟩ | ⟨g, cap', cur, rfl, hg, hh, hnc, hm, hcs, hx⟩
  · injection hv with e1 _ e3
    subst e1 e3
    obtain rfl : k = 0 := by omega
    exact .inl ⟨rfl, rfl⟩
  · injection hv with e1 _ e3
    subst e1 e3
    refine .inr ⟨g, cap', cur, rfl, hg, hh, by omega, hm, hcs, ?_⟩
    rw [← hx, List.take_take, Nat.min_eq_left hle]
theorem own_more (h : w.ownsRow B e sz v n xs) {A : Option Addr} {cap : Nat} (hv : v = .slice A n cap) (k : Nat) (hk : n ≤ k) (hkc : k ≤ cap) : ∃ ys : List Value, ys.length = (k - n) * sz ∧ w.ownsRow B e sz (.slice A k cap) k (xs ++ ys) := by
  obtain ⟨h1, h2⟩ := h
  rcases h2 with ⟨rfl, rfl⟩ | ⟨g, cap', cur, rfl, hg, hh, hnc, hm, hcs, hx⟩
  · injection hv with e1 _ e3
    subst e1 e3
    obtain rfl : k = 0 := by omega
    refine ⟨[], by simp, ⟨by simpa using h1, .inl ⟨rfl, rfl⟩⟩⟩
  · injection hv with e1 _ e3
    subst e1 e3
    have hle : k * sz ≤ cap' * sz := Nat.mul_le_mul_right _ hkc
    have hle2 : n * sz ≤ k * sz := Nat.mul_le_mul_right _ hk
    have hcl : cur.toList.length = cap' * sz := by simp; exact hcs
    have e2 : cur.toList.take (k * sz) = xs ++ (cur.toList.take (k * sz)).drop (n * sz) := by
      have h0 := List.take_append_drop (n * sz) (cur.toList.take (k * sz))
      rw [List.take_take, Nat.min_eq_left hle2, hx] at h0
      exact h0.symm
    have hl : ((cur.toList.take (k * sz)).drop (n * sz)).length = (k - n) * sz := by rw [List.length_drop, List.length_take, hcl, Nat.sub_mul]; omega
    refine ⟨(cur.toList.take (k * sz)).drop (n * sz), hl, ⟨?_, .inr ⟨g, cap', cur, rfl, hg, hh, hkc, hm, hcs, e2⟩⟩⟩
    rw [List.length_append, hl, h1, Nat.sub_mul]; omega

/-! ### cutting -/
/-- the address of s[lo:..] of elements of sz cells -/
def cutS (A : Option Addr) (lo cap sz : Nat) : Option Addr := if cap = lo then A else A.map (·.add (lo * sz))
theorem cutS_zero (A : Option Addr) (cap sz : Nat) : cutS A 0 cap sz = A := by
  unfold cutS; split
  · rfl
  · cases A with
    | none => rfl
    | some a => show some (a.add (0 * sz)) = some a; rw [Nat.zero_mul]; obtain ⟨b, off, pr⟩ := a; unfold Addr.add; cases pr <;> simp
theorem cutS_some (g lo cap sz : Nat) (h : lo < cap) : cutS (some ⟨g, 0, none⟩) lo cap sz = some ⟨g, lo * sz, none⟩ := by
  unfold cutS; rw [if_neg (by omega)]; simp [addr_add]
variable {t : TypeId}
theorem run_cutS_lh (ht : P.underlying t = some (.slice e)) (he : P.elem t = e) (hs : (P.info? e).map (·.size) = some sz) (A : Option Addr) (n cap lo hi : Nat) (h1 : lo ≤ hi) (h2 : hi ≤ cap) (w : World) :
    (Instr.slice t (.slice A n cap) (some (.int .i64 lo)) (some (.int .i64 hi)) none).run P w = .ok (.slice (cutS A lo cap sz) (hi - lo) (cap - lo)) w := by
  subst he
  rw [run_slice_lh w t A n cap ht .i64 .i64 lo hi (by omega) (by omega) (by omega)]
  obtain ⟨i, hi', hsz⟩ := Option.map_eq_some_iff.1 hs
  simp [sizeOf, typeInfo, hi', hsz, sliced, cutS]
theorem run_cutS_l (ht : P.underlying t = some (.slice e)) (he : P.elem t = e) (hs : (P.info? e).map (·.size) = some sz) (A : Option Addr) (n cap lo : Nat) (h1 : lo ≤ n) (w : World) :
    (Instr.slice t (.slice A n cap) (some (.int .i64 lo)) none none).run P w = .ok (.slice (cutS A lo cap sz) (n - lo) (cap - lo)) w := by
  subst he
  rw [run_slice_l w t A n cap ht .i64 lo (by omega) (by omega)]
  obtain ⟨i, hi', hsz⟩ := Option.map_eq_some_iff.1 hs
  simp [sizeOf, typeInfo, hi', hsz, sliced, cutS]
theorem run_cutS_h (ht : P.underlying t = some (.slice e)) (he : P.elem t = e) (A : Option Addr) (n cap hi : Nat) (h2 : hi ≤ cap) (hs : (P.info? e).map (·.size) = some sz) (w : World) :
    (Instr.slice t (.slice A n cap) none (some (.int .i64 hi)) none).run P w = .ok (.slice A hi cap) w := by
  subst he
  rw [run_slice_h w t A n cap ht .i64 hi (by omega) (by omega)]
  obtain ⟨i, hi', hsz⟩ := Option.map_eq_some_iff.1 hs
  have := cutS_zero A cap sz
  unfold cutS at this
  simp [sizeOf, typeInfo, hi', hsz, sliced]
  simpa using this
end
end Go.Proofs.Ytjmcmilbkhacdaa
