/- Memory: slices whose elements have any size; copy into a slice that is known whole. No program in sight. -/
import Derived.Test.YtjmcmilbkhacdaaMem
import Derived.Test.YtjmcmilbkhacdaaCut
namespace Go.Proofs.Ytjmcmilbkhacdaa
open Go.RowKit

section
variable {P : Program} {w w' : World} {B n sz : Nat} {e : TypeId} {v : Value} {xs : List Value}

/-- the form of an owned slice, and that it reads -/
theorem own_formS (h : w.ownsRow B e sz v n xs) : ∃ A cap, v = .slice A n cap ∧ n ≤ cap ∧ cap ≤ maxLen ∧ xs.length = n * sz ∧ Rd w A xs := by
  have hl := h.1
  rcases h.2 with ⟨rfl, rfl⟩ | ⟨g, cap, cur, rfl, hg, hh, hnc, hm, hcs, hx⟩
  · have : xs = [] := List.eq_nil_of_length_eq_zero (by simpa using hl)
    subst this
    exact ⟨none, 0, rfl, Nat.le_refl _, by simp [maxLen], hl, Rd.nil⟩
  · refine ⟨_, cap, rfl, hnc, hm, hl, Rd.mk fun i u hu => ?_⟩
    have hi : i < n * sz := by rw [← hl]; exact (List.getElem?_eq_some_iff.1 hu).1
    rw [Nat.zero_add, cell_of_row _ _ _ _ _ _ hh, ← hu, ← hx]
    rw [List.getElem?_take, if_pos (by omega)]
    simp
theorem own_belowS (h : w.ownsRow B e sz v n xs) (hb : Below w.heap.size w w') : w'.ownsRow B e sz v n xs := by
  obtain ⟨h1, h2⟩ := h
  refine ⟨h1, h2.imp id fun ⟨g, cap, cur, e1, e2, e3, e4⟩ => ⟨g, cap, cur, e1, e2, ?_, e4⟩⟩
  exact (hb.block g (Array.getElem?_eq_some_iff.1 e3).1).trans e3
theorem own_baseS {B' : Nat} (h : w.ownsRow B e sz v n xs) (hB : B' ≤ B) : w.ownsRow B' e sz v n xs := by
  obtain ⟨h1, h2⟩ := h
  exact ⟨h1, h2.imp id fun ⟨g, cap, cur, e1, e2, e3⟩ => ⟨g, cap, cur, e1, Nat.le_trans hB e2, e3⟩⟩
theorem Chg.ownS {S : List Nat} (h : Chg S w w') (ho : w.ownsRow B e sz v n xs) (hn : ∀ b, v.ownBlock = some b → b ∉ S) : w'.ownsRow B e sz v n xs := by
  obtain ⟨h1, h2⟩ := ho
  refine ⟨h1, h2.imp id fun ⟨g, cap, cur, e1, e2, e3, e4⟩ => ⟨g, cap, cur, e1, e2, ?_, e4⟩⟩
  exact h.blk e3 (hn g (by rw [e1]; rfl))
/-- below the slice's base nothing has turned -/
theorem App.belowS {v1 : Value} (h : App w v w' v1) (hown : w.ownsRow B e sz v n xs) (hB : B ≤ w.heap.size) : Below B w w' :=
  (Below.refl B w).grown h.1 hB fun k hk => (hown.lt k hk).1
/-- a lower base, or a higher one -/
theorem own_lift {B' : Nat} (h : w.ownsRow B e sz v n xs) (hB : ∀ b, v.ownBlock = some b → B' ≤ b) : w.ownsRow B' e sz v n xs := by
  obtain ⟨h1, h2⟩ := h
  exact ⟨h1, h2.imp id fun ⟨g, cap, cur, e1, _, e3⟩ => ⟨g, cap, cur, e1, hB g (by rw [e1]; rfl), e3⟩⟩

theorem wp_appS (w : World) {o : Oper} {a : Act} {K : Act → World → Prop} {Q : Exit → Act → World → Prop} (s x : Operand) (t : TypeId)
    (ho : o.op = .call { callee := .builtin .append, args := #[s, x], argTypes := #[t, t] })
    (B : Nat) (e : TypeId) (z : Value) (sz bytes : Nat) (ht : P.underlying t = some (.slice e)) (hinfo : (P.info? e).map (fun i => (i.zero, i.size, i.bytes)) = some (some z, sz, bytes)) (hz1 : z.cells.size = sz) (hpos : 0 < sz)
    (v : Value) (n : Nat) (xs : List Value) (hs : a.eval s = v) (hown : w.ownsRow B e sz v n xs)
    (A : Option Addr) (m c : Nat) (news : List Value) (hx : a.eval x = .slice A m c) (hm : news.length = m * sz) (hr : Rd w A news) (h1 : ∀ u ∈ news, u.oneCell' = true)
    (h63 : n + m ≤ maxLen) (hbytes : (n + m) * bytes ≤ 140737488355328) (hbase : B ≤ w.heap.size)
    (h : ∀ v' w', w'.ownsRow B e sz v' (n + m) (xs ++ news) → App w v w' v' → K (a.put o.dst v') w') : o.wp P a w K Q := by
  obtain ⟨i, hi, hz, hsz, hby⟩ := info_parts hinfo
  have key : ∃ v' w', (Builtin.append_ #[t, t] o.type #[v, .slice A m c]).run P w = .ok v' w' ∧ w'.ownsRow B e sz v' (n + m) (xs ++ news) ∧ App w v w' v' := by
    by_cases hA : A = none
    · subst hA
      have hnil : news = [] := by
        cases news with
        | nil => rfl
        | cons u r => obtain ⟨_, _, he, _⟩ := hr 0 u rfl; cases he
      subst hnil
      obtain rfl : m = 0 := by
        rcases Nat.eq_zero_or_pos m with h0 | h0
        · exact h0
        · have := Nat.mul_pos h0 hpos; simp at hm; omega
      refine ⟨v, w, ?_, by simpa using hown, App.refl w v⟩
      rcases hown.2 with ⟨rfl, rfl⟩ | ⟨g, cap, cur, rfl, _, _, hnc, _⟩
      · simp [Builtin.append_, run_underlying ht, sizeOf, typeInfo, hi, Builtin.lenOf, Builtin.firstCells]
      · simp [Builtin.append_, run_underlying ht, sizeOf, typeInfo, hi, Builtin.lenOf, Builtin.firstCells, hnc, storeCells]
    · obtain ⟨ad, rfl⟩ := Option.ne_none_iff_exists'.1 hA
      have hcells : ∀ j u, news[j]? = some u → w.cell? (ad.add j) = some u := by
        intro j u hu
        obtain ⟨b, off, he, hc⟩ := hr j u hu
        injection he with he
        subst he
        rw [addr_add]; exact hc
      obtain ⟨v', w', hrun, h2, h3, _, h5⟩ := run_append_own_at (P := P) w B t o.type e i z sz bytes ht hi hz hsz hby hz1 hpos v n xs hown ad m c news hm hcells h1 h63 hbytes hbase
      exact ⟨v', w', hrun, h2, h3, h5.imp id fun h => ⟨_, h, Nat.le_refl _⟩⟩
  obtain ⟨v', w', hrun, h2, h3⟩ := key
  unfold Oper.wp execOp
  simp only [ho, resolve, invoke, builtin, Sem.run_bind, Sem.run_pure, Result.andThen_ok, List.map_toArray, List.map_cons, List.map_nil, hs, hx, hrun]
  exact h v' w' h2 h3
/-- append onto a slice of the call's own, at a plain region's operation; the new slice in its form -/
theorem wpList_appS (w : World) {ops : Array Oper} {rest : List Oper} {o : Oper} {a : Act} {Q : Exit → Act → World → Prop} (hgd : o.guard = none) (s x : Operand) (t : TypeId)
    (ho : o.op = .call { callee := .builtin .append, args := #[s, x], argTypes := #[t, t] })
    (B : Nat) (e : TypeId) (z : Value) (sz bytes : Nat) (ht : P.underlying t = some (.slice e)) (hinfo : (P.info? e).map (fun i => (i.zero, i.size, i.bytes)) = some (some z, sz, bytes)) (hz1 : z.cells.size = sz) (hpos : 0 < sz)
    (v : Value) (n : Nat) (xs : List Value) (hs : a.eval s = v) (hown : w.ownsRow B e sz v n xs)
    (A : Option Addr) (m c : Nat) (news : List Value) (hx : a.eval x = .slice A m c) (hm : news.length = m * sz) (hr : Rd w A news) (h1 : ∀ u ∈ news, u.oneCell' = true)
    (h63 : n + m ≤ maxLen) (hbytes : (n + m) * bytes ≤ 140737488355328) (hbase : B ≤ w.heap.size)
    (h : ∀ X cap w', w'.ownsRow B e sz (.slice X (n + m) cap) (n + m) (xs ++ news) → App w v w' (.slice X (n + m) cap) → wpList P ops Q rest (a.put o.dst (.slice X (n + m) cap)) w') : wpList P ops Q (o :: rest) a w :=
  wpList_plain hgd fun _ hK => wp_appS w s x t ho B e z sz bytes ht hinfo hz1 hpos v n xs hs hown A m c news hx hm hr h1 h63 hbytes hbase fun v' w' h2 h3 => hK _ _ (by
    obtain ⟨X, cap, rfl, _⟩ := own_formS h2
    exact h X cap w' h2 h3)
/-- the same at an operation of a region that draws its order -/
theorem step_appS (w : World) {ops : Array Oper} {o : Oper} {a : Act} {K : Act → World → Prop} {Q : Exit → Act → World → Prop} {E : Prop} (hgd : o.guard = none) (s x : Operand) (t : TypeId)
    (ho : o.op = .call { callee := .builtin .append, args := #[s, x], argTypes := #[t, t] })
    (B : Nat) (e : TypeId) (z : Value) (sz bytes : Nat) (ht : P.underlying t = some (.slice e)) (hinfo : (P.info? e).map (fun i => (i.zero, i.size, i.bytes)) = some (some z, sz, bytes)) (hz1 : z.cells.size = sz) (hpos : 0 < sz)
    (v : Value) (n : Nat) (xs : List Value) (hs : a.eval s = v) (hown : w.ownsRow B e sz v n xs)
    (A : Option Addr) (m c : Nat) (news : List Value) (hx : a.eval x = .slice A m c) (hm : news.length = m * sz) (hr : Rd w A news) (h1 : ∀ u ∈ news, u.oneCell' = true)
    (h63 : n + m ≤ maxLen) (hbytes : (n + m) * bytes ≤ 140737488355328) (hbase : B ≤ w.heap.size)
    (h : ∀ X cap w', w'.ownsRow B e sz (.slice X (n + m) cap) (n + m) (xs ++ news) → App w v w' (.slice X (n + m) cap) → K (a.put o.dst (.slice X (n + m) cap)) w') : if Region.wanted o (yielded ops a.tmps) = true then Oper.wp P o a w K Q else E := by
  have hw : Region.wanted o (yielded ops a.tmps) = true := by simp [Region.wanted, hgd]
  rw [if_pos hw]
  exact wp_appS w s x t ho B e z sz bytes ht hinfo hz1 hpos v n xs hs hown A m c news hx hm hr h1 h63 hbytes hbase fun v' w' h2 h3 => by
    obtain ⟨X, cap, rfl, _⟩ := own_formS h2
    exact h X cap w' h2 h3

theorem wpList_wanted {w : World} {ops : Array Oper} {rest : List Oper} {o : Oper} {a : Act} {Q : Exit → Act → World → Prop} (hw : Region.wanted o (yielded ops a.tmps) = true)
    (h : ∀ K : Act → World → Prop, (∀ a w, wpList P ops Q rest a w → K a w) → o.wp P a w K Q) : wpList P ops Q (o :: rest) a w :=
  wpList_step fun K hK => by rw [if_pos hw]; exact h K hK
/-- append at a guarded operation that runs -/
theorem wpList_appSW (w : World) {ops : Array Oper} {rest : List Oper} {o : Oper} {a : Act} {Q : Exit → Act → World → Prop} (hw : Region.wanted o (yielded ops a.tmps) = true) (s x : Operand) (t : TypeId)
    (ho : o.op = .call { callee := .builtin .append, args := #[s, x], argTypes := #[t, t] })
    (B : Nat) (e : TypeId) (z : Value) (sz bytes : Nat) (ht : P.underlying t = some (.slice e)) (hinfo : (P.info? e).map (fun i => (i.zero, i.size, i.bytes)) = some (some z, sz, bytes)) (hz1 : z.cells.size = sz) (hpos : 0 < sz)
    (v : Value) (n : Nat) (xs : List Value) (hs : a.eval s = v) (hown : w.ownsRow B e sz v n xs)
    (A : Option Addr) (m c : Nat) (news : List Value) (hx : a.eval x = .slice A m c) (hm : news.length = m * sz) (hr : Rd w A news) (h1 : ∀ u ∈ news, u.oneCell' = true)
    (h63 : n + m ≤ maxLen) (hbytes : (n + m) * bytes ≤ 140737488355328) (hbase : B ≤ w.heap.size)
    (h : ∀ X cap w', w'.ownsRow B e sz (.slice X (n + m) cap) (n + m) (xs ++ news) → App w v w' (.slice X (n + m) cap) → wpList P ops Q rest (a.put o.dst (.slice X (n + m) cap)) w') : wpList P ops Q (o :: rest) a w :=
  wpList_wanted hw fun _ hK => wp_appS w s x t ho B e z sz bytes ht hinfo hz1 hpos v n xs hs hown A m c news hx hm hr h1 h63 hbytes hbase fun v' w' h2 h3 => hK _ _ (by
    obtain ⟨X, cap, rfl, _⟩ := own_formS h2
    exact h X cap w' h2 h3)

/-! ### copy -/
/-- only the block of a slice was written, and nothing was made -/
structure Wrote (w w' : World) (v : Value) : Prop where
  os : w'.os = w.os
  tape : w'.tape = w.tape
  output : w'.output = w.output
  size : w'.heap.size = w.heap.size
  block : ∀ k, some k ≠ v.ownBlock → w'.heap[k]? = w.heap[k]?
theorem Wrote.chg {S : List Nat} (h : Wrote w w' v) (hS : ∀ b, v.ownBlock = some b → b ∈ S) : Chg S w w' :=
  ⟨h.os, h.tape, h.output, Nat.le_of_eq h.size.symm, fun k _ hn => h.block k fun he => hn (hS k he.symm)⟩

theorem run_copyO (w : World) (dT sT ty elem : TypeId) (hu : P.underlying dT = some (.slice elem)) (hsz : (P.info? elem).map (·.size) = some 1)
    (A : Option Addr) (cap : Nat) (hown : w.ownsRow B elem 1 (.slice A n cap) n xs) (off : Nat) (S : Option Addr) (m c : Nat) (news : List Value) (hm : news.length = m) (hr : Rd w S news) (h1 : ∀ u ∈ news, u.oneCell' = true) (hfit : off + m ≤ n) :
    ∃ w', (Builtin.copy_ #[dT, sT] ty #[.slice (cutA A off cap) (n - off) (cap - off), .slice S m c]).run P w = .ok (goInt m) w' ∧ w'.ownsRow B elem 1 (.slice A n cap) n (splice xs off news) ∧ Wrote w w' (.slice A n cap) := by
  by_cases h0 : m = 0
  · subst h0
    obtain rfl : news = [] := List.eq_nil_of_length_eq_zero hm
    have hrun := run_copy_none (P := P) w dT sT ty elem (cutA A off cap) S (n - off) (cap - off) 0 c hu hsz (by simp)
    refine ⟨w, hrun, ?_, ⟨rfl, rfl, rfl, rfl, fun _ _ => rfl⟩⟩
    have : splice xs off ([] : List Value) = xs := by unfold splice; simp
    rw [this]; exact hown
  · rcases hown.2 with ⟨_, hn0⟩ | ⟨g, cap', cur, he, hg, hh, hnc, hmx, hcs, hx⟩
    · omega
    · injection he with he1 _ he3
      subst he1; subst he3
      obtain ⟨bS, oS, rfl, _, hcS⟩ := Rd.cells hr (by omega)
      have hcut : cutA (some ⟨g, 0, none⟩) off cap = some ⟨g, off, none⟩ := by unfold cutA; rw [if_neg (by omega)]; simp [addr_add]
      rw [hcut]
      have hmin : news.length = Nat.min m (n - off) := by rw [hm]; exact (Nat.min_eq_left (by omega)).symm
      have hrun := run_copy_row (P := P) w dT sT ty elem g off (n - off) (cap - off) ⟨bS, oS, none⟩ m c cur elem news hu hsz hh hmin (fun j u hj => by rw [addr_add]; exact hcS j u hj) (by rw [hm, hcs]; omega) h1
      rw [hm] at hrun
      refine ⟨_, hrun, ⟨?_, .inr ⟨g, cap, _, rfl, hg, setRow_heap w g cur _ elem _ hh, hnc, hmx, ?_, ?_⟩⟩, ⟨rfl, rfl, rfl, by simp [World.setRow], fun k hk => setRow_other w g k _ fun e => hk (by simp [Value.ownBlock, e])⟩⟩
      · rw [length_splice _ _ _ (by rw [hown.1, hm]; omega), hown.1]
      · simp only [List.size_toArray, List.length_append, List.length_take, List.length_drop, Array.length_toList]; omega
      · have hxl := hown.1
        unfold splice
        rw [← hx]
        apply List.ext_getElem?
        intro j
        simp only [hm, List.append_assoc]
        have hcl : cur.toList.length = cap := by simp; omega
        have l1 : (cur.toList.take off).length = off := by simp; omega
        have l2 : ((cur.toList.take (n * 1)).take off).length = off := by simp; omega
        rw [List.getElem?_take]
        by_cases hj : j < off
        · rw [if_pos (by omega), List.getElem?_append_left (by omega), List.getElem?_append_left (by omega), List.getElem?_take, List.getElem?_take, List.getElem?_take, if_pos hj, if_pos hj, if_pos (by omega)]
        · rw [List.getElem?_append_right (by omega), l1, List.getElem?_append_right (l₁ := (cur.toList.take (n * 1)).take off) (by omega), l2]
          by_cases hj2 : j < off + m
          · rw [if_pos (by omega), List.getElem?_append_left (by omega), List.getElem?_append_left (by omega)]
          · rw [List.getElem?_append_right (by omega), List.getElem?_append_right (by omega), List.getElem?_drop, List.getElem?_drop, List.getElem?_take, show off + m + (j - off - news.length) = j by omega]
theorem wp_copyO (w : World) {o : Oper} {a : Act} {K : Act → World → Prop} {Q : Exit → Act → World → Prop} (d s : Operand) (dT sT : TypeId)
    (ho : o.op = .call { callee := .builtin .copy, args := #[d, s], argTypes := #[dT, sT] }) (elem : TypeId) (hu : P.underlying dT = some (.slice elem)) (hsz : (P.info? elem).map (·.size) = some 1)
    (B n : Nat) (A : Option Addr) (cap : Nat) (xs : List Value) (hown : w.ownsRow B elem 1 (.slice A n cap) n xs) (off : Nat) (hd : a.eval d = .slice (cutA A off cap) (n - off) (cap - off))
    (S : Option Addr) (m c : Nat) (news : List Value) (hs : a.eval s = .slice S m c) (hm : news.length = m) (hr : Rd w S news) (h1 : ∀ u ∈ news, u.oneCell' = true) (hfit : off + m ≤ n)
    (h : ∀ w', w'.ownsRow B elem 1 (.slice A n cap) n (splice xs off news) → Wrote w w' (.slice A n cap) → K (a.put o.dst (goInt m)) w') : o.wp P a w K Q := by
  obtain ⟨w', hrun, h2, h3⟩ := run_copyO (P := P) w dT sT o.type elem hu hsz A cap hown off S m c news hm hr h1 hfit
  unfold Oper.wp execOp
  simp only [ho, resolve, invoke, builtin, Sem.run_bind, Sem.run_pure, Result.andThen_ok, List.map_toArray, List.map_cons, List.map_nil, hd, hs, hrun]
  exact h w' h2 h3
theorem step_copyO (w : World) {ops : Array Oper} {o : Oper} {a : Act} {K : Act → World → Prop} {Q : Exit → Act → World → Prop} {E : Prop} (hgd : o.guard = none) (d s : Operand) (dT sT : TypeId)
    (ho : o.op = .call { callee := .builtin .copy, args := #[d, s], argTypes := #[dT, sT] }) (elem : TypeId) (hu : P.underlying dT = some (.slice elem)) (hsz : (P.info? elem).map (·.size) = some 1)
    (B n : Nat) (A : Option Addr) (cap : Nat) (xs : List Value) (hown : w.ownsRow B elem 1 (.slice A n cap) n xs) (off : Nat) (hd : a.eval d = .slice (cutA A off cap) (n - off) (cap - off))
    (S : Option Addr) (m c : Nat) (news : List Value) (hs : a.eval s = .slice S m c) (hm : news.length = m) (hr : Rd w S news) (h1 : ∀ u ∈ news, u.oneCell' = true) (hfit : off + m ≤ n)
    (h : ∀ w', w'.ownsRow B elem 1 (.slice A n cap) n (splice xs off news) → Wrote w w' (.slice A n cap) → K (a.put o.dst (goInt m)) w') : if Region.wanted o (yielded ops a.tmps) = true then Oper.wp P o a w K Q else E := by
  have hw : Region.wanted o (yielded ops a.tmps) = true := by simp [Region.wanted, hgd]
  rw [if_pos hw]
  exact wp_copyO w d s dT sT ho elem hu hsz B n A cap xs hown off hd S m c news hs hm hr h1 hfit h
end
end Go.Proofs.Ytjmcmilbkhacdaa
