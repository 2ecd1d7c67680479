/- Words for memory: a slice that reads as a list of one-cell values; bytes; frames. No program in sight. -/
import Derived.WalkKit
import Derived.ProofKit
import Derived.Deep.Draws
import Derived.Laws.OwnMore
import Derived.Lib.Hide
import Derived.Maps.AppendAt
import Derived.OwnWalk
import Derived.Laws.IdiomStrings
import Derived.Laws.CopyOwn
namespace Go.Proofs.Ytjmcmilbkhacdaa
open Go.RowKit

/-- the world changed above B alone: as Below, closed to the walk -/
def Blw (B : Nat) (w w' : World) : Prop := Below B w w'

/-- a byte as a value -/
abbrev vb (x : UInt8) : Value := .int .u8 (x.toNat : Int)
/-- a word of 64 bits as a value -/
abbrev vw (x : BitVec 64) : Value := .int .u64 (x.toNat : Int)

theorem addr_add (b off i : Nat) : (⟨b, off, none⟩ : Addr).add i = ⟨b, off + i, none⟩ := by unfold Addr.add; split <;> simp_all

/-- the slice at A reads as the values vs, one cell each -/
def Rd (w : World) (A : Option Addr) (vs : List Value) : Prop :=
  ∀ i v, vs[i]? = some v → ∃ b off, A = some ⟨b, off, none⟩ ∧ w.cell? ⟨b, off + i, none⟩ = some v
/-- the slice at A reads as bytes -/
def RB (w : World) (A : Option Addr) (l : List UInt8) : Prop := Rd w A (l.map vb)

section
variable {w w' : World} {A : Option Addr} {vs : List Value} {l : List UInt8}

theorem Rd.nil : Rd w A [] := fun _ _ h => by simp at h
theorem RB.nil : RB w A [] := Rd.nil

theorem Rd.cells (h : Rd w A vs) (hn : 0 < vs.length) : ∃ b off, A = some ⟨b, off, none⟩ ∧ b < w.heap.size ∧ ∀ i v, vs[i]? = some v → w.cell? ⟨b, off + i, none⟩ = some v := by
  obtain ⟨b, off, rfl, hc⟩ := h 0 vs[0] (List.getElem?_eq_getElem hn)
  refine ⟨b, off, rfl, block_lt_of_cell hc, fun i v hv => ?_⟩
  obtain ⟨b', off', e, hc'⟩ := h i v hv
  injection e with e
  injection e with e1 e2
  subst e1; subst e2
  exact hc'

theorem RB.cells (h : RB w A l) (hn : 0 < l.length) : ∃ b off, A = some ⟨b, off, none⟩ ∧ b < w.heap.size ∧ ∀ i (hi : i < l.length), w.cell? ⟨b, off + i, none⟩ = some (vb l[i]) := by
  obtain ⟨b, off, e, hb, hc⟩ := Rd.cells h (by simpa using hn)
  exact ⟨b, off, e, hb, fun i hi => hc i _ (by simp [List.getElem?_eq_getElem hi])⟩

theorem Rd.mk {b off : Nat} (h : ∀ i v, vs[i]? = some v → w.cell? ⟨b, off + i, none⟩ = some v) : Rd w (some ⟨b, off, none⟩) vs :=
  fun i v hv => ⟨b, off, rfl, h i v hv⟩
theorem RB.mk {b off : Nat} (h : ∀ i (hi : i < l.length), w.cell? ⟨b, off + i, none⟩ = some (vb l[i])) : RB w (some ⟨b, off, none⟩) l :=
  Rd.mk fun i v hv => by
    have hi : i < l.length := by simpa using (List.getElem?_eq_some_iff.1 hv).1
    rw [List.getElem?_map, List.getElem?_eq_getElem hi] at hv
    simp only [Option.map_some, Option.some.injEq] at hv
    subst hv
    exact h i hi

theorem Rd.keep (h : Rd w A vs) (hk : ∀ p v, w.cell? p = some v → A.map (·.block) = some p.block → w'.cell? p = some v) : Rd w' A vs := fun i v hv => by
  obtain ⟨b, off, rfl, hc⟩ := h i v hv
  exact ⟨b, off, rfl, hk _ _ hc rfl⟩
theorem Rd.below (h : Rd w A vs) (hb : Below w.heap.size w w') : Rd w' A vs :=
  h.keep fun _ _ hc _ => (hb.cell (block_lt_of_cell hc)).trans hc
theorem RB.below (h : RB w A l) (hb : Below w.heap.size w w') : RB w' A l := Rd.below h hb
theorem Rd.drewN (h : Rd w A vs) (n : Nat) : Rd (w.drewN n) A vs := h
theorem Rd.drew (h : Rd w A vs) : Rd w.drew A vs := h
theorem Rd.alloc (h : Rd w A vs) (o : Obj) : Rd (w.alloc o) A vs :=
  h.keep fun p _ hc _ => (World.cell?_alloc_lt w o p (block_lt_of_cell hc)).trans hc
theorem RB.alloc (h : RB w A l) (o : Obj) : RB (w.alloc o) A l := Rd.alloc h o
theorem Rd.take (h : Rd w A vs) (n : Nat) : Rd w A (vs.take n) := fun i v hv => h i v (by
  rw [List.getElem?_take] at hv; split at hv <;> simp_all)
theorem RB.take (h : RB w A l) (n : Nat) : RB w A (l.take n) := by
  unfold RB; rw [List.map_take]; exact Rd.take h n
end

theorem blw_drewN {B : Nat} {a w : World} (h : Below B a w) (n : Nat) : Below B a (w.drewN n) := ⟨h.os, h.tape, h.output, h.size, h.block⟩
/-- a contract that keeps all that was there, said from an earlier world -/
theorem calls_from {P : Program} {f : FuncId} {args : Array Value} {B : Nat} {w0 w1 : World} {v : Value} (hb : Below B w0 w1) (hB : B ≤ w1.heap.size)
    (c : Calls P f args w1 fun e w' => e = .returned v ∧ Below w1.heap.size w1 w') : Calls P f args w1 fun e w' => e = .returned v ∧ Below B w0 w' :=
  c.mono fun _ _ ⟨he, hb'⟩ => ⟨he, hb.trans (hb'.mono hB)⟩
theorem calls_below {P : Program} {f : FuncId} {args : Array Value} {w0 w1 : World} {v : Value} (hb : Below w0.heap.size w0 w1)
    (c : Calls P f args w1 fun e w' => e = .returned v ∧ Below w1.heap.size w1 w') : Calls P f args w1 fun e w' => e = .returned v ∧ Below w0.heap.size w0 w' :=
  calls_from hb hb.size c

/-! ### only the blocks of a list were written -/

/-- only the blocks S, and what is new, have changed -/
structure Chg (S : List Nat) (w w' : World) : Prop where
  os : w'.os = w.os
  tape : w'.tape = w.tape
  output : w'.output = w.output
  size : w.heap.size ≤ w'.heap.size
  block : ∀ k, k < w.heap.size → k ∉ S → w'.heap[k]? = w.heap[k]?

section
variable {S S' : List Nat} {w w1 w2 : World}
theorem Chg.refl (S : List Nat) (w : World) : Chg S w w := ⟨rfl, rfl, rfl, Nat.le_refl _, fun _ _ _ => rfl⟩
theorem Chg.trans (h : Chg S w w1) (k : Chg S' w1 w2) (hs : ∀ x ∈ S', x ∈ S ∨ w.heap.size ≤ x) : Chg S w w2 :=
  ⟨k.os.trans h.os, k.tape.trans h.tape, k.output.trans h.output, Nat.le_trans h.size k.size, fun i hi hn =>
    (k.block i (Nat.lt_of_lt_of_le hi h.size) (fun hm => (hs i hm).elim hn (fun hle => by omega))).trans (h.block i hi hn)⟩
theorem Chg.trans' (h : Chg S w w1) (k : Chg S w1 w2) : Chg S w w2 := h.trans k fun _ hx => .inl hx
theorem Chg.mono (h : Chg S w w1) (hs : ∀ x ∈ S, x ∈ S') : Chg S' w w1 :=
  ⟨h.os, h.tape, h.output, h.size, fun i hi hn => h.block i hi fun hm => hn (hs i hm)⟩
theorem Chg.of_below (h : Below w.heap.size w w1) (S : List Nat) : Chg S w w1 := ⟨h.os, h.tape, h.output, h.size, fun i hi _ => h.block i hi⟩
theorem Chg.of_grown {row : Option Nat} (h : w.grownBy w1 row) (hr : ∀ x, row = some x → x ∈ S) : Chg S w w1 :=
  ⟨h.os, h.tape, h.output, h.size, fun i hi hn => h.block i hi fun he => hn (hr i he.symm)⟩
theorem Chg.below {B : Nat} (h : Chg S w w1) (hB : B ≤ w.heap.size) (hs : ∀ x ∈ S, B ≤ x) : Below B w w1 :=
  ⟨h.os, h.tape, h.output, h.size, fun i hi => h.block i (by omega) fun hm => by have := hs i hm; omega⟩
theorem Chg.nil (h : Chg [] w w1) : Below w.heap.size w w1 := h.below (Nat.le_refl _) (by simp)
theorem Chg.alloc (h : Chg S w w1) (o : Obj) : Chg S w (w1.alloc o) :=
  ⟨h.os, h.tape, h.output, Nat.le_trans h.size (by simp), fun i hi hn => (Below.heap_alloc w1 o i (Nat.lt_of_lt_of_le hi h.size)).trans (h.block i hi hn)⟩
theorem Chg.drew (h : Chg S w w1) : Chg S w w1.drew := ⟨h.os, h.tape, h.output, h.size, h.block⟩
theorem Chg.drewN (h : Chg S w w1) (n : Nat) : Chg S w (w1.drewN n) := ⟨h.os, h.tape, h.output, h.size, h.block⟩
theorem Chg.setCell (h : Chg S w w1) {p : Addr} (hp : p.block ∈ S ∨ w.heap.size ≤ p.block) (u : Value) : Chg S w (w1.setCell p u) :=
  ⟨h.os, h.tape, h.output, by simpa [World.setCell] using h.size, fun i hi hn => (Below.heap_setCell w1 p u i (by
    rintro rfl
    rcases hp with hp | hp
    · exact hn hp
    · omega)).trans (h.block i hi hn)⟩
theorem Chg.setRow (h : Chg S w w1) {g : Nat} (hp : g ∈ S ∨ w.heap.size ≤ g) (cs : Array Value) : Chg S w (w1.setRow g cs) :=
  ⟨h.os, h.tape, h.output, by simpa [World.setRow] using h.size, fun i hi hn => (setRow_other w1 g i cs (by
    rintro rfl
    rcases hp with hp | hp
    · exact hn hp
    · omega)).trans (h.block i hi hn)⟩
theorem Chg.blk {k : Nat} {o : Obj} (h : Chg S w w1) (hk : w.heap[k]? = some o) (hn : k ∉ S) : w1.heap[k]? = some o :=
  (h.block k (Array.getElem?_eq_some_iff.1 hk).1 hn).trans hk
theorem Chg.own {B n : Nat} {e : TypeId} {v : Value} {xs : List Value} (h : Chg S w w1) (ho : w.ownsRow B e 1 v n xs) (hn : ∀ b, v.ownBlock = some b → b ∉ S) : w1.ownsRow B e 1 v n xs := by
  obtain ⟨h1, h2⟩ := ho
  refine ⟨h1, h2.imp id fun ⟨g, cap, cur, e1, e2, e3, e4⟩ => ⟨g, cap, cur, e1, e2, ?_, e4⟩⟩
  exact h.blk e3 (hn g (by rw [e1]; rfl))
theorem Chg.rd {A : Option Addr} {vs : List Value} (h : Chg S w w1) (hr : Rd w A vs) (hn : ∀ b off, A = some ⟨b, off, none⟩ → b ∉ S) : Rd w1 A vs := fun i v hv => by
  obtain ⟨b, off, rfl, hc⟩ := hr i v hv
  exact ⟨b, off, rfl, (World.cell?_of_block (h.block b (block_lt_of_cell hc) (hn b off rfl))).trans hc⟩
theorem Chg.cellAt {g j : Nat} {cs : Array Value} {t : TypeId} {fr : Nat × Nat} (h : Chg S w w1) (hg : w.heap[g]? = some (.cells cs t fr)) (hn : g ∉ S) : w1.cell? ⟨g, j, none⟩ = cs[j]? :=
  cell_of_row _ _ _ _ _ _ (h.blk hg hn)
theorem Chg.frozenAt {g j : Nat} {cs : Array Value} {t : TypeId} (h : Chg S w w1) (hg : w.heap[g]? = some (.cells cs t (0, 0))) (hn : g ∉ S) : w1.frozen? ⟨g, j, none⟩ = false :=
  frozen_of_row _ _ _ _ _ (h.blk hg hn)
/-- a block of another element type is not the slice's -/
theorem own_ne {B n g : Nat} {e t : TypeId} {v : Value} {xs cs : List Value} {fr : Nat × Nat} (ho : w.ownsRow B e 1 v n xs) (hg : w.heap[g]? = some (.cells cs.toArray t fr)) (hne : e ≠ t) : ∀ b, v.ownBlock = some b → b ∉ [g] := by
  intro b hb hm
  rcases ho.2 with ⟨rfl, _⟩ | ⟨g', cap, cur, rfl, _, hh, _⟩
  · cases hb
  · simp only [List.mem_singleton] at hm
    subst hm
    have : g' = b := by simpa [Value.ownBlock] using hb
    subst this
    rw [hh] at hg
    injection hg with hg
    injection hg with _ ht
    exact hne ht
end

/-! ### slices of the call's own, and append -/

/-- what an append leaves: only the slice's own block was written, and the new slice lies there or in new memory -/
def App (w : World) (v : Value) (w' : World) (v' : Value) : Prop :=
  w.grownBy w' v.ownBlock ∧ (v'.ownBlock = v.ownBlock ∨ ∃ g, v'.ownBlock = some g ∧ w.heap.size ≤ g)

section
variable {w w' w1 w2 : World} {v v' v1 v2 : Value} {B : Nat} {e : TypeId} {xs : List Value}

theorem App.refl (w : World) (v : Value) : App w v w v := ⟨World.grownBy.refl w _, .inl rfl⟩
theorem App.trans (h : App w v w1 v1) (k : App w1 v1 w2 v2) : App w v w2 v2 := by
  obtain ⟨hg, hv⟩ := h
  obtain ⟨kg, kv⟩ := k
  refine ⟨⟨kg.os.trans hg.os, kg.tape.trans hg.tape, kg.output.trans hg.output, Nat.le_trans hg.size kg.size, fun i hi hne => ?_⟩, ?_⟩
  · refine (kg.block i (Nat.lt_of_lt_of_le hi hg.size) ?_).trans (hg.block i hi hne)
    rcases hv with e | ⟨g, e, hlt⟩
    · rw [e]; exact hne
    · rw [e]; intro h; injection h with h; omega
  · rcases kv with e | ⟨g, e, hlt⟩
    · rw [e]; exact hv
    · exact .inr ⟨g, e, Nat.le_trans hg.size hlt⟩
theorem App.alloc (h : App w v w1 v1) (o : Obj) : App w v (w1.alloc o) v1 := by
  obtain ⟨hg, hv⟩ := h
  exact ⟨⟨hg.os, hg.tape, hg.output, Nat.le_trans hg.size (by simp), fun i hi hne => (Below.heap_alloc w1 o i (Nat.lt_of_lt_of_le hi hg.size)).trans (hg.block i hi hne)⟩, hv⟩
theorem App.alloc_left {o : Obj} (h : App (w.alloc o) v w1 v1) : App w v w1 v1 := by
  obtain ⟨hg, hv⟩ := h
  have hs : w.heap.size ≤ (w.alloc o).heap.size := by simp
  exact ⟨⟨hg.os, hg.tape, hg.output, Nat.le_trans hs hg.size, fun i hi hne => (hg.block i (Nat.lt_of_lt_of_le hi hs) hne).trans (Below.heap_alloc w o i hi)⟩,
    hv.imp id fun ⟨g, e, hlt⟩ => ⟨g, e, Nat.le_trans hs hlt⟩⟩
theorem App.below_left (hb : Below w.heap.size w w1) (h : App w1 v w2 v2) : App w v w2 v2 := by
  obtain ⟨hg, hv⟩ := h
  exact ⟨⟨hg.os.trans hb.os, hg.tape.trans hb.tape, hg.output.trans hb.output, Nat.le_trans hb.size hg.size, fun i hi hne => (hg.block i (Nat.lt_of_lt_of_le hi hb.size) hne).trans (hb.block i hi)⟩,
    hv.imp id fun ⟨g, e, hlt⟩ => ⟨g, e, Nat.le_trans hb.size hlt⟩⟩
theorem App.below_right (h : App w v w1 v1) (hb : Below w1.heap.size w1 w2) : App w v w2 v1 := by
  obtain ⟨hg, hv⟩ := h
  exact ⟨⟨hb.os.trans hg.os, hb.tape.trans hg.tape, hb.output.trans hg.output, Nat.le_trans hg.size hb.size, fun i hi hne => (hb.block i (Nat.lt_of_lt_of_le hi hg.size)).trans (hg.block i hi hne)⟩, hv⟩
theorem App.size (h : App w v w1 v1) : w.heap.size ≤ w1.heap.size := h.1.size
theorem App.old (h : App w v w1 v1) {k : Nat} {o : Obj} (hk : w.heap[k]? = some o) (hne : v.ownBlock ≠ some k) : w1.heap[k]? = some o :=
  (h.1.block k (Array.getElem?_eq_some_iff.1 hk).1 (fun e => hne e.symm)).trans hk
/-- below the slice's base nothing has turned -/
theorem App.below {n : Nat} (h : App w v w1 v1) (hown : w.ownsRow B e 1 v n xs) (hB : B ≤ w.heap.size) : Below B w w1 :=
  (Below.refl B w).grown h.1 hB fun k hk => (hown.lt k hk).1

theorem App.chg (h : App w v w1 v1) {S : List Nat} (hS : ∀ b, v.ownBlock = some b → b ∈ S) : Chg S w w1 := Chg.of_grown h.1 hS

theorem own_below {n : Nat} (h : w.ownsRow B e 1 v n xs) (hb : Below w.heap.size w w1) : w1.ownsRow B e 1 v n xs := by
  obtain ⟨h1, h2⟩ := h
  refine ⟨h1, h2.imp id fun ⟨g, cap, cur, e1, e2, e3, e4⟩ => ⟨g, cap, cur, e1, e2, ?_, e4⟩⟩
  exact (hb.block g (Array.getElem?_eq_some_iff.1 e3).1).trans e3
theorem own_base {n B' : Nat} (h : w.ownsRow B e 1 v n xs) (hB : B' ≤ B) : w.ownsRow B' e 1 v n xs := by
  obtain ⟨h1, h2⟩ := h
  exact ⟨h1, h2.imp id fun ⟨g, cap, cur, e1, e2, e3⟩ => ⟨g, cap, cur, e1, Nat.le_trans hB e2, e3⟩⟩
/-- the form of an owned slice, and that it reads -/
theorem own_form {n : Nat} (h : w.ownsRow B e 1 v n xs) : ∃ A cap, v = .slice A n cap ∧ n ≤ cap ∧ cap ≤ maxLen ∧ xs.length = n ∧ Rd w A xs := by
  have hl : xs.length = n := by simpa using h.1
  rcases h.2 with ⟨rfl, rfl⟩ | ⟨g, cap, cur, rfl, hg, hh, hnc, hm, hcs, hx⟩
  · have : xs = [] := List.eq_nil_of_length_eq_zero hl
    subst this
    exact ⟨none, 0, rfl, Nat.le_refl _, by simp [maxLen], rfl, Rd.nil⟩
  · refine ⟨_, cap, rfl, hnc, hm, hl, Rd.mk fun i u hu => ?_⟩
    have hi : i < n := by rw [← hl]; exact (List.getElem?_eq_some_iff.1 hu).1
    rw [Nat.zero_add, cell_of_row _ _ _ _ _ _ hh, ← hu, ← hx]
    rw [List.getElem?_take, if_pos (by omega)]
    simp
end

section
variable {P : Program}

theorem wp_app (w : World) {o : Oper} {a : Act} {K : Act → World → Prop} {Q : Exit → Act → World → Prop} (s x : Operand) (t : TypeId)
    (ho : o.op = .call { callee := .builtin .append, args := #[s, x], argTypes := #[t, t] })
    (B : Nat) (e : TypeId) (z : Value) (bytes : Nat) (ht : P.underlying t = some (.slice e)) (hinfo : (P.info? e).map (fun i => (i.zero, i.size, i.bytes)) = some (some z, 1, bytes)) (hz1 : z.cells.size = 1)
    (v : Value) (n : Nat) (xs : List Value) (hs : a.eval s = v) (hown : w.ownsRow B e 1 v n xs)
    (A : Option Addr) (m c : Nat) (news : List Value) (hx : a.eval x = .slice A m c) (hm : news.length = m) (hr : Rd w A news) (h1 : ∀ u ∈ news, u.oneCell' = true)
    (h63 : n + m ≤ maxLen) (hbytes : (n + m) * bytes ≤ 140737488355328) (hbase : B ≤ w.heap.size)
    (h : ∀ v' w', w'.ownsRow B e 1 v' (n + m) (xs ++ news) → App w v w' v' → K (a.put o.dst v') w') : o.wp P a w K Q := by
  obtain ⟨i, hi, hz, hsz, hby⟩ := info_parts hinfo
  have key : ∃ v' w', (Builtin.append_ #[t, t] o.type #[v, .slice A m c]).run P w = .ok v' w' ∧ w'.ownsRow B e 1 v' (n + m) (xs ++ news) ∧ App w v w' v' := by
    by_cases hA : A = none
    · subst hA
      have hnil : news = [] := by
        cases news with
        | nil => rfl
        | cons u r => obtain ⟨_, _, he, _⟩ := hr 0 u rfl; cases he
      subst hnil
      obtain rfl : m = 0 := by simpa using hm.symm
      refine ⟨v, w, ?_, by simpa using hown, App.refl w v⟩
      rcases hown.2 with ⟨rfl, rfl⟩ | ⟨g, cap, cur, rfl, _, _, hnc, _⟩
      · simp [Builtin.append_, run_underlying ht, sizeOf, typeInfo, hi, Builtin.lenOf, Builtin.firstCells]
      · simp [Builtin.append_, run_underlying ht, sizeOf, typeInfo, hi, Builtin.lenOf, Builtin.firstCells, hnc, storeCells]
    · obtain ⟨ad, rfl⟩ := Option.ne_none_iff_exists'.1 hA
      have hcells : ∀ j u, news[j]? = some u → w.cell? (ad.add j) = some u := by
        intro j u hu
        obtain ⟨b, off, he, hc⟩ := hr j u hu
        injection he with he
        subst he
        rw [addr_add]; exact hc
      obtain ⟨v', w', hrun, h2, h3, _, h5⟩ := run_append_own_at (P := P) w B t o.type e i z 1 bytes ht hi hz hsz hby hz1 (by omega) v n xs hown ad m c news (by simpa using hm) hcells h1 h63 hbytes hbase
      exact ⟨v', w', hrun, h2, h3, h5.imp id fun h => ⟨_, h, Nat.le_refl _⟩⟩
  obtain ⟨v', w', hrun, h2, h3⟩ := key
  unfold Oper.wp execOp
  simp only [ho, resolve, invoke, builtin, Sem.run_bind, Sem.run_pure, Result.andThen_ok, List.map_toArray, List.map_cons, List.map_nil, hs, hx, hrun]
  exact h v' w' h2 h3

/-- append onto a slice of the call's own, at a plain region's operation -/
theorem wpList_app (w : World) {ops : Array Oper} {rest : List Oper} {o : Oper} {a : Act} {Q : Exit → Act → World → Prop} (hgd : o.guard = none) (s x : Operand) (t : TypeId)
    (ho : o.op = .call { callee := .builtin .append, args := #[s, x], argTypes := #[t, t] })
    (B : Nat) (e : TypeId) (z : Value) (bytes : Nat) (ht : P.underlying t = some (.slice e)) (hinfo : (P.info? e).map (fun i => (i.zero, i.size, i.bytes)) = some (some z, 1, bytes)) (hz1 : z.cells.size = 1)
    (v : Value) (n : Nat) (xs : List Value) (hs : a.eval s = v) (hown : w.ownsRow B e 1 v n xs)
    (A : Option Addr) (m c : Nat) (news : List Value) (hx : a.eval x = .slice A m c) (hm : news.length = m) (hr : Rd w A news) (h1 : ∀ u ∈ news, u.oneCell' = true)
    (h63 : n + m ≤ maxLen) (hbytes : (n + m) * bytes ≤ 140737488355328) (hbase : B ≤ w.heap.size)
    (h : ∀ v' w', w'.ownsRow B e 1 v' (n + m) (xs ++ news) → App w v w' v' → wpList P ops Q rest (a.put o.dst v') w') : wpList P ops Q (o :: rest) a w :=
  wpList_plain hgd fun _ hK => wp_app w s x t ho B e z bytes ht hinfo hz1 v n xs hs hown A m c news hx hm hr h1 h63 hbytes hbase fun v' w' h2 h3 => hK _ _ (h v' w' h2 h3)

/-- the same, the new slice in its form -/
theorem wpList_apps (w : World) {ops : Array Oper} {rest : List Oper} {o : Oper} {a : Act} {Q : Exit → Act → World → Prop} (hgd : o.guard = none) (s x : Operand) (t : TypeId)
    (ho : o.op = .call { callee := .builtin .append, args := #[s, x], argTypes := #[t, t] })
    (B : Nat) (e : TypeId) (z : Value) (bytes : Nat) (ht : P.underlying t = some (.slice e)) (hinfo : (P.info? e).map (fun i => (i.zero, i.size, i.bytes)) = some (some z, 1, bytes)) (hz1 : z.cells.size = 1)
    (v : Value) (n : Nat) (xs : List Value) (hs : a.eval s = v) (hown : w.ownsRow B e 1 v n xs)
    (A : Option Addr) (m c : Nat) (news : List Value) (hx : a.eval x = .slice A m c) (hm : news.length = m) (hr : Rd w A news) (h1 : ∀ u ∈ news, u.oneCell' = true)
    (h63 : n + m ≤ maxLen) (hbytes : (n + m) * bytes ≤ 140737488355328) (hbase : B ≤ w.heap.size)
    (h : ∀ X cap w', w'.ownsRow B e 1 (.slice X (n + m) cap) (n + m) (xs ++ news) → App w v w' (.slice X (n + m) cap) → wpList P ops Q rest (a.put o.dst (.slice X (n + m) cap)) w') : wpList P ops Q (o :: rest) a w :=
  wpList_app w hgd s x t ho B e z bytes ht hinfo hz1 v n xs hs hown A m c news hx hm hr h1 h63 hbytes hbase fun v' w' h2 h3 => by
    obtain ⟨X, cap, rfl, _⟩ := own_form h2
    exact h X cap w' h2 h3

/-- the same at an operation of a region that draws its order -/
theorem step_app (w : World) {ops : Array Oper} {o : Oper} {a : Act} {K : Act → World → Prop} {Q : Exit → Act → World → Prop} {E : Prop} (hgd : o.guard = none) (s x : Operand) (t : TypeId)
    (ho : o.op = .call { callee := .builtin .append, args := #[s, x], argTypes := #[t, t] })
    (B : Nat) (e : TypeId) (z : Value) (bytes : Nat) (ht : P.underlying t = some (.slice e)) (hinfo : (P.info? e).map (fun i => (i.zero, i.size, i.bytes)) = some (some z, 1, bytes)) (hz1 : z.cells.size = 1)
    (v : Value) (n : Nat) (xs : List Value) (hs : a.eval s = v) (hown : w.ownsRow B e 1 v n xs)
    (A : Option Addr) (m c : Nat) (news : List Value) (hx : a.eval x = .slice A m c) (hm : news.length = m) (hr : Rd w A news) (h1 : ∀ u ∈ news, u.oneCell' = true)
    (h63 : n + m ≤ maxLen) (hbytes : (n + m) * bytes ≤ 140737488355328) (hbase : B ≤ w.heap.size)
    (h : ∀ v' w', w'.ownsRow B e 1 v' (n + m) (xs ++ news) → App w v w' v' → K (a.put o.dst v') w') : if Region.wanted o (yielded ops a.tmps) = true then Oper.wp P o a w K Q else E := by
  have hw : Region.wanted o (yielded ops a.tmps) = true := by simp [Region.wanted, hgd]
  rw [if_pos hw]
  exact wp_app w s x t ho B e z bytes ht hinfo hz1 v n xs hs hown A m c news hx hm hr h1 h63 hbytes hbase h
end

/-- one new cell reads -/
theorem Rd.one (w : World) (u : Value) (e : TypeId) : Rd (w.alloc (.cells #[u] e)) (some ⟨w.heap.size, 0, none⟩) [u] :=
  Rd.mk fun i v hv => by
    have hi : i = 0 := by have := (List.getElem?_eq_some_iff.1 hv).1; simpa using this
    subst hi
    simp at hv
    subst hv
    simp

/-- a new row of cells reads, whatever its mark -/
theorem Rd.new (w : World) (cs : List Value) (e : TypeId) (fr : Nat × Nat) : Rd (w.alloc (.cells cs.toArray e fr)) (some ⟨w.heap.size, 0, none⟩) cs :=
  Rd.mk fun i v hv => by
    rw [Nat.zero_add, cell_of_row _ _ _ _ _ _ (heap_alloc_new w _)]
    simpa using hv

theorem vb_one (l : List UInt8) : ∀ u ∈ l.map vb, u.oneCell' = true := by
  intro u hu
  obtain ⟨_, _, rfl⟩ := List.mem_map.1 hu
  rfl

/-- a struct result in memory, and a second one in a slot -/
theorem results_cell_tmp {P : Program} {fn : Func} {p t2 : Tmp} {ty : TypeId} (h : fn.results = #[.cell p ty, .tmp t2]) (tmps : Array Value) (w : World) (g : Nat) (t : TypeId) (cs : Array Value) (fr : Nat × Nat) (d : TypeDesc)
    (hp : tmps.getD p undef = .pointer (some ⟨g, 0, none⟩)) (hg : w.heap[g]? = some (.cells cs t fr))
    (hu : P.underlying ty = some d) (hd : (match d with | .struct _ | .array _ _ => true | _ => false) = true) (hi : (P.info? ty).map (·.size) = some cs.size) :
    (results fn tmps).run P w = .ok (.tuple #[.agg cs, tmps.getD t2 undef]) w := by
  have hp' : tmps[p]?.getD undef = .pointer (some ⟨g, 0, none⟩) := by simpa using hp
  simp [results, h, hp', asAddr, run_loadVar_row w g t ty cs fr d hg hu hd hi]

theorem results_tmp_cell_tmp {P : Program} {fn : Func} {t1 p t2 : Tmp} {ty : TypeId} (h : fn.results = #[.tmp t1, .cell p ty, .tmp t2]) (tmps : Array Value) (w : World) (g : Nat) (t : TypeId) (cs : Array Value) (fr : Nat × Nat) (d : TypeDesc)
    (hp : tmps.getD p undef = .pointer (some ⟨g, 0, none⟩)) (hg : w.heap[g]? = some (.cells cs t fr))
    (hu : P.underlying ty = some d) (hd : (match d with | .struct _ | .array _ _ => true | _ => false) = true) (hi : (P.info? ty).map (·.size) = some cs.size) :
    (results fn tmps).run P w = .ok (.tuple #[tmps.getD t1 undef, .agg cs, tmps.getD t2 undef]) w := by
  have hp' : tmps[p]?.getD undef = .pointer (some ⟨g, 0, none⟩) := by simpa using hp
  simp [results, h, hp', asAddr, run_loadVar_row w g t ty cs fr d hg hu hd hi]

/-- an empty slice literal -/
theorem own_empty (B : Nat) (e : TypeId) (u : World) (n : Nat) (hn : u.heap.size = n) (hB : B ≤ n) : (u.alloc (.cells #[] e)).ownsRow B e 1 (.slice (some ⟨n, 0, none⟩) 0 0) 0 [] := by
  subst hn
  exact World.ownsRow_made _ _ 0 hB (by simp [maxLen]) rfl

theorem own_set0 {w : World} {B n : Nat} {e : TypeId} {v : Value} {xs : List Value} (h : w.ownsRow B e 1 v n xs) (j : Nat) (hj : j < n) :
    ∃ g cap, v = .slice (some ⟨g, 0, none⟩) n cap ∧ B ≤ g ∧ g < w.heap.size ∧ w.frozen? ⟨g, j, none⟩ = false ∧ w.cell? ⟨g, j, none⟩ = xs[j]? ∧
      ∀ u : Value, (w.setCell ⟨g, j, none⟩ u).ownsRow B e 1 v n (xs.set j u) := by
  rcases h.2 with ⟨_, h0⟩ | ⟨g, cap, cur, rfl, hg, hh, _⟩
  · omega
  · exact ⟨g, cap, rfl, hg, (Array.getElem?_eq_some_iff.1 hh).1, h.frozenAt j, h.cellAt j (by omega), fun u => by simpa using (h.stored j u).1⟩

/-! ### three new blocks -/
theorem heap3_a (w : World) (X Y Z : Obj) : (((w.alloc X).alloc Y).alloc Z).drew.heap[w.heap.size]? = some X := by
  show ((w.alloc X).alloc Y |>.alloc Z).heap[w.heap.size]? = some X
  rw [Below.heap_alloc _ _ _ (by simp; omega), Below.heap_alloc _ _ _ (by simp)]; exact heap_alloc_new _ _
theorem heap3_b (w : World) (X Y Z : Obj) : (((w.alloc X).alloc Y).alloc Z).drew.heap[w.heap.size + 1]? = some Y := by
  show ((w.alloc X).alloc Y |>.alloc Z).heap[w.heap.size + 1]? = some Y
  rw [Below.heap_alloc _ _ _ (by simp)]; exact heap_alloc2_new _ _ _
theorem heap3_c (w : World) (X Y Z : Obj) : (((w.alloc X).alloc Y).alloc Z).drew.heap[w.heap.size + 1 + 1]? = some Z := by
  have h := heap_alloc_new ((w.alloc X).alloc Y) Z
  have e : ((w.alloc X).alloc Y).heap.size = w.heap.size + 1 + 1 := by simp
  rw [e] at h; exact h
theorem below1 (w : World) (X : Obj) : Below w.heap.size w (w.alloc X) := (Below.refl _ _).alloc (Nat.le_refl _) X
theorem below2 (w : World) (X Y : Obj) : Below w.heap.size w ((w.alloc X).alloc Y) := ((Below.refl _ _).alloc (Nat.le_refl _) X).alloc (by simp) Y
theorem below3n (w : World) (X Y Z : Obj) : Below w.heap.size w (((w.alloc X).alloc Y).alloc Z) :=
  (((Below.refl _ _).alloc (Nat.le_refl _) X).alloc (by simp) Y).alloc (by simp; omega) Z
theorem below3 (w : World) (X Y Z : Obj) : Below w.heap.size w (((w.alloc X).alloc Y).alloc Z).drew :=
  ((((Below.refl _ _).alloc (Nat.le_refl _) X).alloc (by simp) Y).alloc (by simp; omega) Z).drew

/-- three cells stored one after another -/
theorem heap_set3 {w : World} {R : Nat} {a b c : Value} {t : TypeId} (h : w.heap[R]? = some (.cells #[a, b, c] t (0, 0))) (x y z : Value) :
    (((w.setCell ⟨R, 0, none⟩ x).setCell ⟨R, 1, none⟩ y).setCell ⟨R, 2, none⟩ z).heap[R]? = some (.cells #[x, y, z] t (0, 0)) :=
  heap_setCell_same _ _ _ _ _ _ (heap_setCell_same _ _ _ _ _ _ (heap_setCell_same _ _ _ _ _ _ h))
theorem chg_set3 (w : World) (R : Nat) (x y z : Value) : Chg [R] w (((w.setCell ⟨R, 0, none⟩ x).setCell ⟨R, 1, none⟩ y).setCell ⟨R, 2, none⟩ z) :=
  (((Chg.refl [R] w).setCell (p := ⟨R, 0, none⟩) (.inl (by simp)) x).setCell (p := ⟨R, 1, none⟩) (.inl (by simp)) y).setCell (p := ⟨R, 2, none⟩) (.inl (by simp)) z

/-- 'string(b)' -/
theorem run_str {P : Program} {w : World} {A : Option Addr} {l : List UInt8} (n cap : Nat) (t e s : TypeId) (ht : P.underlying t = some (.slice e)) (he : P.underlying e = some (.int .u8)) (hs : P.underlying s = some .string)
    (hn : l.length = n) (hr : RB w A l) : (convert t s (.slice A n cap)).run P w = .ok (.string ⟨l.toArray⟩) w := by
  subst hn
  by_cases hl : 0 < l.length
  · obtain ⟨b, off, rfl, _, hc⟩ := hr.cells hl
    exact run_convert_bytes_back w t s e ⟨b, off, none⟩ cap l ht he hs (fun j hj => by rw [addr_add]; exact hc j hj)
  · have : l = [] := List.eq_nil_of_length_eq_zero (by omega)
    subst this
    cases A with
    | none => rw [run_convert_bytes_string w t s e none _ cap ht he hs]; rfl
    | some a => exact run_convert_bytes_back w t s e a cap [] ht he hs (fun j hj => by simp at hj)

/-! ### words of 64 bits in the walk -/

theorem ofInt_bv (x : BitVec 64) : BitVec.ofInt 64 (x.toNat : Int) = x := by
  apply BitVec.eq_of_toNat_eq; rw [BitVec.ofInt_natCast, BitVec.toNat_ofNat]; exact Nat.mod_eq_of_lt x.isLt

theorem wrap_bv (x : BitVec 64) : IntKind.u64.wrap (x.toNat : Int) = (x.toNat : Int) := by
  rw [IntKind.wrap_u64]; have := x.isLt; omega

theorem xor_bv (x y : BitVec 64) : bits .xor .u64 (x.toNat : Int) (y.toNat : Int) = ((x ^^^ y).toNat : Int) := by
  show IntKind.u64.wrap ((BitVec.ofInt 64 (x.toNat : Int) ^^^ BitVec.ofInt 64 (y.toNat : Int)).toNat : Int) = _
  rw [ofInt_bv, ofInt_bv, wrap_bv]
theorem and_bv (x y : BitVec 64) : bits .and .u64 (x.toNat : Int) (y.toNat : Int) = ((x &&& y).toNat : Int) := by
  show IntKind.u64.wrap ((BitVec.ofInt 64 (x.toNat : Int) &&& BitVec.ofInt 64 (y.toNat : Int)).toNat : Int) = _
  rw [ofInt_bv, ofInt_bv, wrap_bv]
theorem or_bv (x y : BitVec 64) : bits .or .u64 (x.toNat : Int) (y.toNat : Int) = ((x ||| y).toNat : Int) := by
  show IntKind.u64.wrap ((BitVec.ofInt 64 (x.toNat : Int) ||| BitVec.ofInt 64 (y.toNat : Int)).toNat : Int) = _
  rw [ofInt_bv, ofInt_bv, wrap_bv]
theorem signed_u64 : IntKind.u64.signed = false := rfl
theorem max_bv : IntKind.u64.max = ((BitVec.allOnes 64).toNat : Int) := by decide
theorem lit_bv (n : Nat) (h : n < 18446744073709551616) : ((n : Nat) : Int) = ((BitVec.ofNat 64 n).toNat : Int) := by
  rw [BitVec.toNat_ofNat, Nat.mod_eq_of_lt (by omega)]
theorem shr_bv (x : BitVec 64) (k : Nat) : (x.toNat : Int) / ((2 ^ k : Nat) : Int) = ((x >>> k).toNat : Int) := by
  rw [BitVec.toNat_ushiftRight, Nat.shiftRight_eq_div_pow]; norm_cast

end Go.Proofs.Ytjmcmilbkhacdaa
