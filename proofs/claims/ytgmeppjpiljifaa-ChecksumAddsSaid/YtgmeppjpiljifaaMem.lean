/- Words for memory: a slice that reads as a list of one-cell values; bytes; frames. No program in sight. -/
import Derived.WalkKit
import Derived.ProofKit
import Derived.Deep.Draws
import Derived.Laws.OwnMore
import Derived.Lib.Hide
import Derived.Maps.AppendAt
import Derived.OwnWalk
import Derived.Laws.IdiomStrings
namespace Go.Proofs.Ytgmeppjpiljifaa
open Go.RowKit

/-- the world changed above B alone: as Below, closed to the walk -/
def Blw (B : Nat) (w w' : World) : Prop := Below B w w'

/-- a byte as a value -/
abbrev vb (x : UInt8) : Value := .int .u8 (x.toNat : Int)
/-- a word of 64 bits as a value -/
abbrev vw (x : BitVec 64) : Value := .int .u64 (x.toNat : Int)

theorem addr_add (b off i : Nat) : (⟨b, off, none⟩ : Addr).add i = ⟨b, off + i, none⟩ := by unfold Addr.add; split <;> simp_all

/-- the slice at A reads as the values vs, one cell each -/
def Rd (w : World) (A : Option Addr) (vs : List Value) : Prop :=
  ∀ i v, vs[i]? = some v → ∃ b off, A = some ⟨b, off, none⟩ ∧ w.cell? ⟨b, off + i, none⟩ = some v
/-- the slice at A reads as bytes -/
def RB (w : World) (A : Option Addr) (l : List UInt8) : Prop := Rd w A (l.map vb)

section
variable {w w' : World} {A : Option Addr} {vs : List Value} {l : List UInt8}

theorem Rd.nil : Rd w A [] := fun _ _ h => by simp at h
theorem RB.nil : RB w A [] := Rd.nil

theorem Rd.cells (h : Rd w A vs) (hn : 0 < vs.length) : ∃ b off, A = some ⟨b, off, none⟩ ∧ b < w.heap.size ∧ ∀ i v, vs[i]? = some v → w.cell? ⟨b, off + i, none⟩ = some v := by
  obtain ⟨b, off, rfl, hc⟩ := h 0 vs[0] (List.getElem?_eq_getElem hn)
  refine ⟨b, off, rfl, block_lt_of_cell hc, fun i v hv => ?_⟩
  obtain ⟨b', off', e, hc'⟩ := h i v hv
  injection e with e
  injection e with e1 e2
  subst e1; subst e2
  exact hc'

theorem RB.cells (h : RB w A l) (hn : 0 < l.length) : ∃ b off, A = some ⟨b, off, none⟩ ∧ b < w.heap.size ∧ ∀ i (hi : i < l.length), w.cell? ⟨b, off + i, none⟩ = some (vb l[i]) := by
  obtain ⟨b, off, e, hb, hc⟩ := Rd.cells h (by simpa using hn)
  exact ⟨b, off, e, hb, fun i hi => hc i _ (by simp [List.getElem?_eq_getElem hi])⟩

theorem Rd.mk {b off : Nat} (h : ∀ i v, vs[i]? = some v → w.cell? ⟨b, off + i, none⟩ = some v) : Rd w (some ⟨b, off, none⟩) vs :=
  fun i v hv => ⟨b, off, rfl, h i v hv⟩
theorem RB.mk {b off : Nat} (h : ∀ i (hi : i < l.length), w.cell? ⟨b, off + i, none⟩ = some (vb l[i])) : RB w (some ⟨b, off, none⟩) l :=
  Rd.mk fun i v hv => by
    have hi : i < l.length := by simpa using (List.getElem?_eq_some_iff.1 hv).1
    rw [List.getElem?_map, List.getElem?_eq_getElem hi] at hv
    simp only [Option.map_some, Option.some.injEq] at hv
    subst hv
    exact h i hi

theorem Rd.keep (h : Rd w A vs) (hk : ∀ p v, w.cell? p = some v → A.map (·.block) = some p.block → w'.cell? p = some v) : Rd w' A vs := fun i v hv => by
  obtain ⟨b, off, rfl, hc⟩ := h i v hv
  exact ⟨b, off, rfl, hk _ _ hc rfl⟩
theorem Rd.below (h : Rd w A vs) (hb : Below w.heap.size w w') : Rd w' A vs :=
  h.keep fun _ _ hc _ => (hb.cell (block_lt_of_cell hc)).trans hc
theorem RB.below (h : RB w A l) (hb : Below w.heap.size w w') : RB w' A l := Rd.below h hb
theorem Rd.drewN (h : Rd w A vs) (n : Nat) : Rd (w.drewN n) A vs := h
theorem Rd.drew (h : Rd w A vs) : Rd w.drew A vs := h
theorem Rd.alloc (h : Rd w A vs) (o : Obj) : Rd (w.alloc o) A vs :=
  h.keep fun p _ hc _ => (World.cell?_alloc_lt w o p (block_lt_of_cell hc)).trans hc
theorem RB.alloc (h : RB w A l) (o : Obj) : RB (w.alloc o) A l := Rd.alloc h o
theorem Rd.take (h : Rd w A vs) (n : Nat) : Rd w A (vs.take n) := fun i v hv => h i v (by
  rw [List.getElem?_take] at hv; split at hv <;> simp_all)
theorem RB.take (h : RB w A l) (n : Nat) : RB w A (l.take n) := by
  unfold RB; rw [List.map_take]; exact Rd.take h n
end

/-- a contract that keeps all that was there, said from an earlier world -/
theorem calls_from {P : Program} {f : FuncId} {args : Array Value} {B : Nat} {w0 w1 : World} {v : Value} (hb : Below B w0 w1) (hB : B ≤ w1.heap.size)
    (c : Calls P f args w1 fun e w' => e = .returned v ∧ Below w1.heap.size w1 w') : Calls P f args w1 fun e w' => e = .returned v ∧ Below B w0 w' :=
  c.mono fun _ _ ⟨he, hb'⟩ => ⟨he, hb.trans (hb'.mono hB)⟩
theorem calls_below {P : Program} {f : FuncId} {args : Array Value} {w0 w1 : World} {v : Value} (hb : Below w0.heap.size w0 w1)
    (c : Calls P f args w1 fun e w' => e = .returned v ∧ Below w1.heap.size w1 w') : Calls P f args w1 fun e w' => e = .returned v ∧ Below w0.heap.size w0 w' :=
  calls_from hb hb.size c

/-! ### slices of the call's own, and append -/

/-- what an append leaves: only the slice's own block was written, and the new slice lies there or in new memory -/
def App (w : World) (v : Value) (w' : World) (v' : Value) : Prop :=
  w.grownBy w' v.ownBlock ∧ (v'.ownBlock = v.ownBlock ∨ ∃ g, v'.ownBlock = some g ∧ w.heap.size ≤ g)

section
variable {w w' w1 w2 : World} {v v' v1 v2 : Value} {B : Nat} {e : TypeId} {xs : List Value}

theorem App.refl (w : World) (v : Value) : App w v w v := ⟨World.grownBy.refl w _, .inl rfl⟩
theorem App.trans (h : App w v w1 v1) (k : App w1 v1 w2 v2) : App w v w2 v2 := by
  obtain ⟨hg, hv⟩ := h
  obtain ⟨kg, kv⟩ := k
  refine ⟨⟨kg.os.trans hg.os, kg.tape.trans hg.tape, kg.output.trans hg.output, Nat.le_trans hg.size kg.size, fun i hi hne => ?_⟩, ?_⟩
  · refine (kg.block i (Nat.lt_of_lt_of_le hi hg.size) ?_).trans (hg.block i hi hne)
    rcases hv with e | ⟨g, e, hlt⟩
    · rw [e]; exact hne
    · rw [e]; intro h; injection h with h; omega
  · rcases kv with e | ⟨g, e, hlt⟩
    · rw [e]; exact hv
    · exact .inr ⟨g, e, Nat.le_trans hg.size hlt⟩
theorem App.alloc (h : App w v w1 v1) (o : Obj) : App w v (w1.alloc o) v1 := by
  obtain ⟨hg, hv⟩ := h
  exact ⟨⟨hg.os, hg.tape, hg.output, Nat.le_trans hg.size (by simp), fun i hi hne => (Below.heap_alloc w1 o i (Nat.lt_of_lt_of_le hi hg.size)).trans (hg.block i hi hne)⟩, hv⟩
theorem App.alloc_left {o : Obj} (h : App (w.alloc o) v w1 v1) : App w v w1 v1 := by
  obtain ⟨hg, hv⟩ := h
  have hs : w.heap.size ≤ (w.alloc o).heap.size := by simp
  exact ⟨⟨hg.os, hg.tape, hg.output, Nat.le_trans hs hg.size, fun i hi hne => (hg.block i (Nat.lt_of_lt_of_le hi hs) hne).trans (Below.heap_alloc w o i hi)⟩,
    hv.imp id fun ⟨g, e, hlt⟩ => ⟨g, e, Nat.le_trans hs hlt⟩⟩
theorem App.below_left (hb : Below w.heap.size w w1) (h : App w1 v w2 v2) : App w v w2 v2 := by
  obtain ⟨hg, hv⟩ := h
  exact ⟨⟨hg.os.trans hb.os, hg.tape.trans hb.tape, hg.output.trans hb.output, Nat.le_trans hb.size hg.size, fun i hi hne => (hg.block i (Nat.lt_of_lt_of_le hi hb.size) hne).trans (hb.block i hi)⟩,
    hv.imp id fun ⟨g, e, hlt⟩ => ⟨g, e, Nat.le_trans hb.size hlt⟩⟩
theorem App.below_right (h : App w v w1 v1) (hb : Below w1.heap.size w1 w2) : App w v w2 v1 := by
  obtain ⟨hg, hv⟩ := h
  exact ⟨⟨hb.os.trans hg.os, hb.tape.trans hg.tape, hb.output.trans hg.output, Nat.le_trans hg.size hb.size, fun i hi hne => (hb.block i (Nat.lt_of_lt_of_le hi hg.size)).trans (hg.block i hi hne)⟩, hv⟩
theorem App.size (h : App w v w1 v1) : w.heap.size ≤ w1.heap.size := h.1.size
/-- below the slice's base nothing has turned -/
theorem App.below {n : Nat} (h : App w v w1 v1) (hown : w.ownsRow B e 1 v n xs) (hB : B ≤ w.heap.size) : Below B w w1 :=
  (Below.refl B w).grown h.1 hB fun k hk => (hown.lt k hk).1

theorem own_below {n : Nat} (h : w.ownsRow B e 1 v n xs) (hb : Below w.heap.size w w1) : w1.ownsRow B e 1 v n xs := by
  obtain ⟨h1, h2⟩ := h
  refine ⟨h1, h2.imp id fun ⟨g, cap, cur, e1, e2, e3, e4⟩ => ⟨g, cap, cur, e1, e2, ?_, e4⟩⟩
  exact (hb.block g (Array.getElem?_eq_some_iff.1 e3).1).trans e3
theorem own_base {n B' : Nat} (h : w.ownsRow B e 1 v n xs) (hB : B' ≤ B) : w.ownsRow B' e 1 v n xs := by
  obtain ⟨h1, h2⟩ := h
  exact ⟨h1, h2.imp id fun ⟨g, cap, cur, e1, e2, e3⟩ => ⟨g, cap, cur, e1, Nat.le_trans hB e2, e3⟩⟩
/-- the form of an owned slice, and that it reads -/
theorem own_form {n : Nat} (h : w.ownsRow B e 1 v n xs) : ∃ A cap, v = .slice A n cap ∧ n ≤ cap ∧ cap ≤ maxLen ∧ xs.length = n ∧ Rd w A xs := by
  have hl : xs.length = n := by simpa using h.1
  rcases h.2 with ⟨rfl, rfl⟩ | ⟨g, cap, cur, rfl, hg, hh, hnc, hm, hcs, hx⟩
  · have : xs = [] := List.eq_nil_of_length_eq_zero hl
    subst this
    exact ⟨none, 0, rfl, Nat.le_refl _, by simp [maxLen], rfl, Rd.nil⟩
  · refine ⟨_, cap, rfl, hnc, hm, hl, Rd.mk fun i u hu => ?_⟩
    have hi : i < n := by rw [← hl]; exact (List.getElem?_eq_some_iff.1 hu).1
    rw [Nat.zero_add, cell_of_row _ _ _ _ _ _ hh, ← hu, ← hx]
    rw [List.getElem?_take, if_pos (by omega)]
    simp
end

section
variable {P : Program}

theorem wp_app (w : World) {o : Oper} {a : Act} {K : Act → World → Prop} {Q : Exit → Act → World → Prop} (s x : Operand) (t : TypeId)
    (ho : o.op = .call { callee := .builtin .append, args := #[s, x], argTypes := #[t, t] })
    (B : Nat) (e : TypeId) (z : Value) (bytes : Nat) (ht : P.underlying t = some (.slice e)) (hinfo : (P.info? e).map (fun i => (i.zero, i.size, i.bytes)) = some (some z, 1, bytes)) (hz1 : z.cells.size = 1)
    (v : Value) (n : Nat) (xs : List Value) (hs : a.eval s = v) (hown : w.ownsRow B e 1 v n xs)
    (A : Option Addr) (m c : Nat) (news : List Value) (hx : a.eval x = .slice A m c) (hm : news.length = m) (hr : Rd w A news) (h1 : ∀ u ∈ news, u.oneCell' = true)
    (h63 : n + m ≤ maxLen) (hbytes : (n + m) * bytes ≤ 140737488355328) (hbase : B ≤ w.heap.size)
    (h : ∀ v' w', w'.ownsRow B e 1 v' (n + m) (xs ++ news) → App w v w' v' → K (a.put o.dst v') w') : o.wp P a w K Q := by
  obtain ⟨i, hi, hz, hsz, hby⟩ := info_parts hinfo
  have key : ∃ v' w', (Builtin.append_ #[t, t] o.type #[v, .slice A m c]).run P w = .ok v' w' ∧ w'.ownsRow B e 1 v' (n + m) (xs ++ news) ∧ App w v w' v' := by
    by_cases hA : A = none
    · subst hA
      have hnil : news = [] := by
        cases news with
        | nil => rfl
        | cons u r => obtain ⟨_, _, he, _⟩ := hr 0 u rfl; cases he
      subst hnil
      obtain rfl : m = 0 := by simpa using hm.symm
      refine ⟨v, w, ?_, by simpa using hown, App.refl w v⟩
      rcases hown.2 with ⟨rfl, rfl⟩ | ⟨g, cap, cur, rfl, _, _, hnc, _⟩
      · simp [Builtin.append_, run_underlying ht, sizeOf, typeInfo, hi, Builtin.lenOf, Builtin.firstCells]
      · simp [Builtin.append_, run_underlying ht, sizeOf, typeInfo, hi, Builtin.lenOf, Builtin.firstCells, hnc, storeCells]
    · obtain ⟨ad, rfl⟩ := Option.ne_none_iff_exists'.1 hA
      have hcells : ∀ j u, news[j]? = some u → w.cell? (ad.add j) = some u := by
        intro j u hu
        obtain ⟨b, off, he, hc⟩ := hr j u hu
        injection he with he
        subst he
        rw [addr_add]; exact hc
      obtain ⟨v', w', hrun, h2, h3, _, h5⟩ := run_append_own_at (P := P) w B t o.type e i z 1 bytes ht hi hz hsz hby hz1 (by omega) v n xs hown ad m c news (by simpa using hm) hcells h1 h63 hbytes hbase
      exact ⟨v', w', hrun, h2, h3, h5.imp id fun h => ⟨_, h, Nat.le_refl _⟩⟩
  obtain ⟨v', w', hrun, h2, h3⟩ := key
  unfold Oper.wp execOp
  simp only [ho, resolve, invoke, builtin, Sem.run_bind, Sem.run_pure, Result.andThen_ok, List.map_toArray, List.map_cons, List.map_nil, hs, hx, hrun]
  exact h v' w' h2 h3

/-- append onto a slice of the call's own, at a plain region's operation -/
theorem wpList_app (w : World) {ops : Array Oper} {rest : List Oper} {o : Oper} {a : Act} {Q : Exit → Act → World → Prop} (hgd : o.guard = none) (s x : Operand) (t : TypeId)
    (ho : o.op = .call { callee := .builtin .append, args := #[s, x], argTypes := #[t, t] })
    (B : Nat) (e : TypeId) (z : Value) (bytes : Nat) (ht : P.underlying t = some (.slice e)) (hinfo : (P.info? e).map (fun i => (i.zero, i.size, i.bytes)) = some (some z, 1, bytes)) (hz1 : z.cells.size = 1)
    (v : Value) (n : Nat) (xs : List Value) (hs : a.eval s = v) (hown : w.ownsRow B e 1 v n xs)
    (A : Option Addr) (m c : Nat) (news : List Value) (hx : a.eval x = .slice A m c) (hm : news.length = m) (hr : Rd w A news) (h1 : ∀ u ∈ news, u.oneCell' = true)
    (h63 : n + m ≤ maxLen) (hbytes : (n + m) * bytes ≤ 140737488355328) (hbase : B ≤ w.heap.size)
    (h : ∀ v' w', w'.ownsRow B e 1 v' (n + m) (xs ++ news) → App w v w' v' → wpList P ops Q rest (a.put o.dst v') w') : wpList P ops Q (o :: rest) a w :=
  wpList_plain hgd fun _ hK => wp_app w s x t ho B e z bytes ht hinfo hz1 v n xs hs hown A m c news hx hm hr h1 h63 hbytes hbase fun v' w' h2 h3 => hK _ _ (h v' w' h2 h3)

/-- the same at an operation of a region that draws its order -/
theorem step_app (w : World) {ops : Array Oper} {o : Oper} {a : Act} {K : Act → World → Prop} {Q : Exit → Act → World → Prop} {E : Prop} (hgd : o.guard = none) (s x : Operand) (t : TypeId)
    (ho : o.op = .call { callee := .builtin .append, args := #[s, x], argTypes := #[t, t] })
    (B : Nat) (e : TypeId) (z : Value) (bytes : Nat) (ht : P.underlying t = some (.slice e)) (hinfo : (P.info? e).map (fun i => (i.zero, i.size, i.bytes)) = some (some z, 1, bytes)) (hz1 : z.cells.size = 1)
    (v : Value) (n : Nat) (xs : List Value) (hs : a.eval s = v) (hown : w.ownsRow B e 1 v n xs)
    (A : Option Addr) (m c : Nat) (news : List Value) (hx : a.eval x = .slice A m c) (hm : news.length = m) (hr : Rd w A news) (h1 : ∀ u ∈ news, u.oneCell' = true)
    (h63 : n + m ≤ maxLen) (hbytes : (n + m) * bytes ≤ 140737488355328) (hbase : B ≤ w.heap.size)
    (h : ∀ v' w', w'.ownsRow B e 1 v' (n + m) (xs ++ news) → App w v w' v' → K (a.put o.dst v') w') : if Region.wanted o (yielded ops a.tmps) = true then Oper.wp P o a w K Q else E := by
  have hw : Region.wanted o (yielded ops a.tmps) = true := by simp [Region.wanted, hgd]
  rw [if_pos hw]
  exact wp_app w s x t ho B e z bytes ht hinfo hz1 v n xs hs hown A m c news hx hm hr h1 h63 hbytes hbase h
end

/-- one new cell reads -/
theorem Rd.one (w : World) (u : Value) (e : TypeId) : Rd (w.alloc (.cells #[u] e)) (some ⟨w.heap.size, 0, none⟩) [u] :=
  Rd.mk fun i v hv => by
    have hi : i = 0 := by have := (List.getElem?_eq_some_iff.1 hv).1; simpa using this
    subst hi
    simp at hv
    subst hv
    simp

/-- a new row of cells reads, whatever its mark -/
theorem Rd.new (w : World) (cs : List Value) (e : TypeId) (fr : Nat × Nat) : Rd (w.alloc (.cells cs.toArray e fr)) (some ⟨w.heap.size, 0, none⟩) cs :=
  Rd.mk fun i v hv => by
    rw [Nat.zero_add, cell_of_row _ _ _ _ _ _ (heap_alloc_new w _)]
    simpa using hv

theorem vb_one (l : List UInt8) : ∀ u ∈ l.map vb, u.oneCell' = true := by
  intro u hu
  obtain ⟨_, _, rfl⟩ := List.mem_map.1 hu
  rfl

/-- 'string(b)' -/
theorem run_str {P : Program} {w : World} {A : Option Addr} {l : List UInt8} (n cap : Nat) (t e s : TypeId) (ht : P.underlying t = some (.slice e)) (he : P.underlying e = some (.int .u8)) (hs : P.underlying s = some .string)
    (hn : l.length = n) (hr : RB w A l) : (convert t s (.slice A n cap)).run P w = .ok (.string ⟨l.toArray⟩) w := by
  subst hn
  by_cases hl : 0 < l.length
  · obtain ⟨b, off, rfl, _, hc⟩ := hr.cells hl
    exact run_convert_bytes_back w t s e ⟨b, off, none⟩ cap l ht he hs (fun j hj => by rw [addr_add]; exact hc j hj)
  · have : l = [] := List.eq_nil_of_length_eq_zero (by omega)
    subst this
    cases A with
    | none => rw [run_convert_bytes_string w t s e none _ cap ht he hs]; rfl
    | some a => exact run_convert_bytes_back w t s e a cap [] ht he hs (fun j hj => by simp at hj)

/-! ### words of 64 bits in the walk -/

theorem ofInt_bv (x : BitVec 64) : BitVec.ofInt 64 (x.toNat : Int) = x := by
  apply BitVec.eq_of_toNat_eq; rw [BitVec.ofInt_natCast, BitVec.toNat_ofNat]; exact Nat.mod_eq_of_lt x.isLt

theorem wrap_bv (x : BitVec 64) : IntKind.u64.wrap (x.toNat : Int) = (x.toNat : Int) := by
  rw [IntKind.wrap_u64]; have := x.isLt; omega

theorem xor_bv (x y : BitVec 64) : bits .xor .u64 (x.toNat : Int) (y.toNat : Int) = ((x ^^^ y).toNat : Int) := by
  show IntKind.u64.wrap ((BitVec.ofInt 64 (x.toNat : Int) ^^^ BitVec.ofInt 64 (y.toNat : Int)).toNat : Int) = _
  rw [ofInt_bv, ofInt_bv, wrap_bv]
theorem and_bv (x y : BitVec 64) : bits .and .u64 (x.toNat : Int) (y.toNat : Int) = ((x &&& y).toNat : Int) := by
  show IntKind.u64.wrap ((BitVec.ofInt 64 (x.toNat : Int) &&& BitVec.ofInt 64 (y.toNat : Int)).toNat : Int) = _
  rw [ofInt_bv, ofInt_bv, wrap_bv]
theorem or_bv (x y : BitVec 64) : bits .or .u64 (x.toNat : Int) (y.toNat : Int) = ((x ||| y).toNat : Int) := by
  show IntKind.u64.wrap ((BitVec.ofInt 64 (x.toNat : Int) ||| BitVec.ofInt 64 (y.toNat : Int)).toNat : Int) = _
  rw [ofInt_bv, ofInt_bv, wrap_bv]
theorem signed_u64 : IntKind.u64.signed = false := rfl
theorem max_bv : IntKind.u64.max = ((BitVec.allOnes 64).toNat : Int) := by decide
theorem lit_bv (n : Nat) (h : n < 18446744073709551616) : ((n : Nat) : Int) = ((BitVec.ofNat 64 n).toNat : Int) := by
  rw [BitVec.toNat_ofNat, Nat.mod_eq_of_lt (by omega)]
theorem shr_bv (x : BitVec 64) (k : Nat) : (x.toNat : Int) / ((2 ^ k : Nat) : Int) = ((x >>> k).toNat : Int) := by
  rw [BitVec.toNat_ushiftRight, Nat.shiftRight_eq_div_pow]; norm_cast

end Go.Proofs.Ytgmeppjpiljifaa
