/- Append onto a row whose mark lies behind its cells, as '[]byte(s)' lays it. No program in sight. -/
import Derived.Test.YthjplfflkdnfnaaMem
namespace Go.Proofs.Ythjplfflkdnfnaa
open Go.RowKit

theorem run_storeM (P : Program) (g o : Nat) (t : TypeId) (fz : Nat × Nat) : ∀ (vs : List Value) (i : Nat) (cur : Array Value) (w : World), w.heap[g]? = some (.cells cur t fz) → cur.size ≤ fz.1 → o + i + vs.length ≤ cur.size → (∀ v ∈ vs, v.oneCell' = true) →
    (storeCells ⟨g, o, none⟩ vs i).run P w = .ok () (w.setRow g (cur.toList.take (o + i) ++ vs ++ cur.toList.drop (o + i + vs.length)).toArray)
  | [], i, cur, w, hg, _, _, _ => by
    simp only [storeCells, List.append_nil, List.length_nil, Nat.add_zero, List.take_append_drop, Array.toArray_toList]
    rw [setRow_self w g cur t fz hg]
    rfl
  | v :: rest, i, cur, w, hg, hfz, hl, h1 => by
    have hi : o + i < cur.size := by simp at hl; omega
    have hcell : w.cell? ⟨g, o + i, none⟩ = some cur[o + i] := by simp [World.cell?, hg, hi]
    have hfro : w.frozen? ⟨g, o + i, none⟩ = false := by
      obtain ⟨lo, hi'⟩ := fz
      simp only [World.frozen?, hg, Bool.and_eq_false_iff, decide_eq_false_iff_not]
      left
      simp only at hfz
      omega
    have hst : (store ((⟨g, o, none⟩ : Addr).add i) v).run P w = .ok () (w.setRow g (cur.setIfInBounds (o + i) v)) := by
      rw [addr_add, run_store P w _ v _ (h1 v (by simp)), hcell]
      simp [hfro, setCell_eq_setRow w g (o + i) cur t fz v hg]
    have ih := run_storeM P g o t fz rest (i + 1) (cur.setIfInBounds (o + i) v) (w.setRow g (cur.setIfInBounds (o + i) v)) (setRow_heap w g cur _ t _ hg) (by simpa using hfz) (by simp at hl ⊢; omega) (fun x hx => h1 x (by simp [hx]))
    simp only [storeCells, Sem.run_bind, hst, Result.andThen_ok, ih, setRow_setRow]
    congr 3
    have e := list_seg_step cur.toList (o + i) v rest (by simp at hl ⊢; omega)
    simpa [Array.toList_setIfInBounds, Nat.add_assoc] using e

section
variable {P : Program}
theorem run_app_mark (w : World) (t ty e : TypeId) (z : Value) (bytes : Nat) (ht : P.underlying t = some (.slice e)) (hinfo : (P.info? e).map (fun i => (i.zero, i.size, i.bytes)) = some (some z, 1, bytes))
    (g n cap : Nat) (cur : Array Value) (fz : Nat × Nat) (hg : w.heap[g]? = some (.cells cur e fz)) (hfz : cur.size ≤ fz.1) (hcs : cur.size = cap) (xs : List Value) (hx : cur.toList.take n = xs) (hnc : n ≤ cap)
    (A : Option Addr) (m c : Nat) (news : List Value) (hm : news.length = m) (hpos : 0 < m) (hr : Rd w A news) (h1 : ∀ u ∈ news, u.oneCell' = true)
    (h63 : n + m ≤ maxLen) (hbytes : (n + m) * bytes ≤ 140737488355328) :
    ∃ X k w', (Builtin.append_ #[t, t] ty #[.slice (some ⟨g, 0, none⟩) n cap, .slice A m c]).run P w = .ok (.slice X (n + m) k) w' ∧ Rd w' X (xs ++ news) ∧ Chg [g] w w' := by
  obtain ⟨i, hi, hz, hsz, hby⟩ := info_parts hinfo
  obtain ⟨bS, oS, rfl, _, hcS⟩ := Rd.cells hr (by omega)
  have hxl : xs.length = n := by rw [← hx, List.length_take, Array.length_toList]; omega
  by_cases hroom : n + m ≤ cap
  · have hf := run_firstCells_some (P := P) w i.size m ⟨bS, oS, none⟩ m c news (by rw [hsz, hm, Nat.mul_one]) (fun j u hj => by rw [addr_add]; exact hcS j u hj)
    have hst := run_storeM P g n e fz news 0 cur w hg hfz (by simp; omega) h1
    simp only [Nat.add_zero] at hst
    refine ⟨some ⟨g, 0, none⟩, cap, w.setRow g (cur.toList.take n ++ news ++ cur.toList.drop (n + news.length)).toArray, ?_, ?_, (Chg.refl [g] w).setRow (.inl (by simp)) _⟩
    · simp [Builtin.append_, run_underlying ht, sizeOf, typeInfo, hi, Builtin.lenOf, hroom, hsz, addr_add] at hf ⊢
      simp [hf, hst]
    · refine Rd.mk fun j v hv => ?_
      rw [Nat.zero_add, cell_of_row _ _ _ _ _ _ (setRow_heap w g cur _ e _ hg)]
      have hj : j < (xs ++ news).length := (List.getElem?_eq_some_iff.1 hv).1
      rw [← hx] at hv
      simp only [List.getElem?_toArray]
      rw [List.getElem?_append_left (by rw [hx]; exact hj)]
      exact hv
  · have hr' := run_append_grow (P := P) w t ty e i z ht hi hz ⟨g, 0, none⟩ n cap xs (by rw [hsz, hxl, Nat.mul_one]) (fun j u hu => by
      rw [addr_add, Nat.zero_add, cell_of_row _ _ _ _ _ _ hg]
      rw [← hx, List.getElem?_take] at hu
      split at hu
      · simpa using hu
      · cases hu) ⟨bS, oS, none⟩ m c news (by rw [hsz, hm, Nat.mul_one]) (fun j u hj => by rw [addr_add]; exact hcS j u hj) (by omega) (by unfold maxLen at h63; omega) (growslice_fits (by omega) (by rw [hby]; exact hbytes))
    refine ⟨_, _, _, hr', ?_, (Chg.refl [g] w).drew.alloc _⟩
    refine Rd.mk fun j v hv => ?_
    rw [Nat.zero_add]
    refine (cell_of_row _ _ _ _ _ _ (heap_alloc_new w.drew _)).trans ?_
    have hj : j < (xs ++ news).length := (List.getElem?_eq_some_iff.1 hv).1
    rw [← Array.getElem?_toList]
    simp only [Array.toList_append]
    rw [List.getElem?_append_left hj]
    exact hv

theorem wp_app_mark (w : World) {o : Oper} {a : Act} {K : Act → World → Prop} {Q : Exit → Act → World → Prop} (s x : Operand) (t : TypeId)
    (ho : o.op = .call { callee := .builtin .append, args := #[s, x], argTypes := #[t, t] })
    (e : TypeId) (z : Value) (bytes : Nat) (ht : P.underlying t = some (.slice e)) (hinfo : (P.info? e).map (fun i => (i.zero, i.size, i.bytes)) = some (some z, 1, bytes))
    (g n cap : Nat) (cur : Array Value) (fz : Nat × Nat) (hs : a.eval s = .slice (some ⟨g, 0, none⟩) n cap) (hg : w.heap[g]? = some (.cells cur e fz)) (hfz : cur.size ≤ fz.1) (hcs : cur.size = cap) (xs : List Value) (hx : cur.toList.take n = xs) (hnc : n ≤ cap)
    (A : Option Addr) (m c : Nat) (news : List Value) (hxx : a.eval x = .slice A m c) (hm : news.length = m) (hpos : 0 < m) (hr : Rd w A news) (h1 : ∀ u ∈ news, u.oneCell' = true)
    (h63 : n + m ≤ maxLen) (hbytes : (n + m) * bytes ≤ 140737488355328)
    (h : ∀ X k w', Rd w' X (xs ++ news) → Chg [g] w w' → K (a.put o.dst (.slice X (n + m) k)) w') : o.wp P a w K Q := by
  obtain ⟨X, k, w', hrun, h2, h3⟩ := run_app_mark (P := P) w t o.type e z bytes ht hinfo g n cap cur fz hg hfz hcs xs hx hnc A m c news hm hpos hr h1 h63 hbytes
  unfold Oper.wp execOp
  simp only [ho, resolve, invoke, builtin, Sem.run_bind, Sem.run_pure, Result.andThen_ok, List.map_toArray, List.map_cons, List.map_nil, hs, hxx, hrun]
  exact h X k w' h2 h3
theorem wpList_app_mark (w : World) {ops : Array Oper} {rest : List Oper} {o : Oper} {a : Act} {Q : Exit → Act → World → Prop} (hgd : o.guard = none) (s x : Operand) (t : TypeId)
    (ho : o.op = .call { callee := .builtin .append, args := #[s, x], argTypes := #[t, t] })
    (e : TypeId) (z : Value) (bytes : Nat) (ht : P.underlying t = some (.slice e)) (hinfo : (P.info? e).map (fun i => (i.zero, i.size, i.bytes)) = some (some z, 1, bytes))
    (g n cap : Nat) (cur : Array Value) (fz : Nat × Nat) (hs : a.eval s = .slice (some ⟨g, 0, none⟩) n cap) (hg : w.heap[g]? = some (.cells cur e fz)) (hfz : cur.size ≤ fz.1) (hcs : cur.size = cap) (xs : List Value) (hx : cur.toList.take n = xs) (hnc : n ≤ cap)
    (A : Option Addr) (m c : Nat) (news : List Value) (hxx : a.eval x = .slice A m c) (hm : news.length = m) (hpos : 0 < m) (hr : Rd w A news) (h1 : ∀ u ∈ news, u.oneCell' = true)
    (h63 : n + m ≤ maxLen) (hbytes : (n + m) * bytes ≤ 140737488355328)
    (h : ∀ X k w', Rd w' X (xs ++ news) → Chg [g] w w' → wpList P ops Q rest (a.put o.dst (.slice X (n + m) k)) w') : wpList P ops Q (o :: rest) a w :=
  wpList_plain hgd fun _ hK => wp_app_mark w s x t ho e z bytes ht hinfo g n cap cur fz hs hg hfz hcs xs hx hnc A m c news hxx hm hpos hr h1 h63 hbytes fun X k w' h2 h3 => hK _ _ (h X k w' h2 h3)
theorem step_app_mark (w : World) {ops : Array Oper} {o : Oper} {a : Act} {K : Act → World → Prop} {Q : Exit → Act → World → Prop} {E : Prop} (hgd : o.guard = none) (s x : Operand) (t : TypeId)
    (ho : o.op = .call { callee := .builtin .append, args := #[s, x], argTypes := #[t, t] })
    (e : TypeId) (z : Value) (bytes : Nat) (ht : P.underlying t = some (.slice e)) (hinfo : (P.info? e).map (fun i => (i.zero, i.size, i.bytes)) = some (some z, 1, bytes))
    (g n cap : Nat) (cur : Array Value) (fz : Nat × Nat) (hs : a.eval s = .slice (some ⟨g, 0, none⟩) n cap) (hg : w.heap[g]? = some (.cells cur e fz)) (hfz : cur.size ≤ fz.1) (hcs : cur.size = cap) (xs : List Value) (hx : cur.toList.take n = xs) (hnc : n ≤ cap)
    (A : Option Addr) (m c : Nat) (news : List Value) (hxx : a.eval x = .slice A m c) (hm : news.length = m) (hpos : 0 < m) (hr : Rd w A news) (h1 : ∀ u ∈ news, u.oneCell' = true)
    (h63 : n + m ≤ maxLen) (hbytes : (n + m) * bytes ≤ 140737488355328)
    (h : ∀ X k w', Rd w' X (xs ++ news) → Chg [g] w w' → K (a.put o.dst (.slice X (n + m) k)) w') : if Region.wanted o (yielded ops a.tmps) = true then Oper.wp P o a w K Q else E := by
  have hw : Region.wanted o (yielded ops a.tmps) = true := by simp [Region.wanted, hgd]
  rw [if_pos hw]
  exact wp_app_mark w s x t ho e z bytes ht hinfo g n cap cur fz hs hg hfz hcs xs hx hnc A m c news hxx hm hpos hr h1 h63 hbytes h
/-- '[]byte(s)' -/
theorem bytes_take (s : ByteArray) (w : World) (e : TypeId) : ((bytesRow s (grownCap w s.size 0 e)).toList.take s.size) = s.data.toList.map vb := by
  unfold bytesRow
  rw [Array.toList_append, List.take_append_of_le_length (by simp)]
  rw [List.take_of_length_le (by simp), Array.toList_map]
theorem bytes_size (s : ByteArray) (w : World) (e : TypeId) : (bytesRow s (grownCap w s.size 0 e)).size = grownCap w s.size 0 e := by
  have := grownCap_ge w s.size 0 e
  unfold bytesRow; simp; omega
end
end Go.Proofs.Ythjplfflkdnfnaa
