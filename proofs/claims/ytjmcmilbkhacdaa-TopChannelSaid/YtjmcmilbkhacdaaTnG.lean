/- Rows of byte strings, early maps, the ends of a channel, in memory. -/
import Derived.Test.YtjmcmilbkhacdaaTnF
import Derived.Maps.OwnSet
import Derived.Maps.Views
namespace Go.Proofs.Ytjmcmilbkhacdaa
open Go.RowKit Go.Shelf
namespace Tc

/-- a byte string in memory -/
structure Bs where
  d : List UInt8
  a : Option Addr
  c : Nat
def bv (x : Bs) : Value := .slice x.a x.d.length x.c
theorem bv_one (l : List Bs) : ∀ u ∈ l.map bv, u.oneCell' = true := by
  intro u hu
  obtain ⟨x, _, rfl⟩ := List.mem_map.1 hu
  rfl
def rowS (A : Option Addr) : List Nat := (Value.slice A 0 0).ownBlock.toList
theorem mem_rowS {A : Option Addr} (n c : Nat) {b : Nat} : b ∈ rowS A ↔ (Value.slice A n c).ownBlock = some b := by
  unfold rowS; rw [ownBlock_any A 0 0 n c, Option.mem_toList]
/-- blocks from B on that are no byte rows -/
def NB (B : Nat) (w : World) (S : List Nat) : Prop := ∀ x ∈ S, (B ≤ x ∧ x < w.heap.size) ∧ ∀ cs fr, w.heap[x]? ≠ some (Obj.cells cs 5 fr)
theorem NB.fz {B : Nat} {w w' : World} {S : List Nat} (h : NB B w S) (hB : B ≤ w.heap.size) (hc : Chg S w w') : Fz B w w' := Fz.of_chg hB hc (fun x hx => ⟨(h x hx).1.1, (h x hx).2⟩)
theorem NB.app {B : Nat} {w : World} {S T : List Nat} (h : NB B w S) (k : NB B w T) : NB B w (S ++ T) := fun x hx => (List.mem_append.1 hx).elim (h x) (k x)
theorem NB.cell {B : Nat} {w : World} {g : Nat} {cs : Array Value} {t : TypeId} {fr : Nat × Nat} (hg : w.heap[g]? = some (Obj.cells cs t fr)) (hB : B ≤ g) (ht : t ≠ 5) : NB B w [g] := fun x hx => by
  rw [List.mem_singleton.1 hx]
  refine ⟨⟨hB, (Array.getElem?_eq_some_iff.1 hg).1⟩, fun cs' fr' he => ?_⟩
  rw [hg] at he
  injection he with he
  injection he with _ he
  exact ht he
/-- a row of byte strings in memory -/
structure IsBr (B : Nat) (w : World) (A : Option Addr) (n c : Nat) (l : List Bs) : Prop where
  ow : w.ownsRow B 32 1 (.slice A n c) n (l.map bv)
  ok : ∀ x ∈ l, Pl B w x.a x.d x.c
section
variable {B n c : Nat} {w w' : World} {A : Option Addr} {l : List Bs}
theorem IsBr.hn (h : IsBr B w A n c l) : l.length = n := by simpa using h.ow.1
theorem IsBr.st {S : List Nat} (h : IsBr B w A n c l) (hc : Chg S w w') (hS : ∀ x ∈ S, x ∉ rowS A) (hf : Fz B w w') : IsBr B w' A n c l :=
  ⟨hc.ownS h.ow (fun b hb hm => hS b hm ((mem_rowS n c).2 hb)), fun x hx => (h.ok x hx).st hf⟩
theorem IsBr.below (h : IsBr B w A n c l) (hB : B ≤ w.heap.size) (hb : Below w.heap.size w w') : IsBr B w' A n c l := h.st (Chg.of_below hb []) (by simp) (Fz.of_below hB hb)
theorem IsBr.nil (B : Nat) (w : World) : IsBr B w none 0 0 [] := ⟨⟨rfl, .inl ⟨rfl, rfl⟩⟩, by simp⟩
theorem IsBr.nb (h : IsBr B w A n c l) : NB B w (rowS A) := fun x hx => by
  have hx := (mem_rowS n c).1 hx
  exact ⟨h.ow.lt x hx, fun cs fr he => own_tyne h.ow he (by decide) hx⟩
theorem IsBr.rd (h : IsBr B w A n c l) : n ≤ c ∧ c ≤ maxLen ∧ Rd w A (l.map bv) := by
  obtain ⟨_, _, e, h1, h2, _, h3⟩ := own_formS h.ow
  cases e
  exact ⟨h1, h2, h3⟩
/-- one was appended -/
theorem IsBr.push {A' : Option Addr} {c' : Nat} {x : Bs} (h : IsBr B w A n c l) (hB : B ≤ w.heap.size) (hx : Pl B w x.a x.d x.c) (ho : w'.ownsRow B 32 1 (.slice A' (n + 1) c') (n + 1) (l.map bv ++ [bv x])) (ha : App w (.slice A n c) w' (.slice A' (n + 1) c')) :
    IsBr B w' A' (n + 1) c' (l ++ [x]) ∧ Chg (rowS A) w w' ∧ ∀ b ∈ rowS A', b ∈ rowS A ∨ w.heap.size ≤ b := by
  have hc : Chg (rowS A) w w' := Chg.of_grown ha.1 (fun b hb => (mem_rowS n c).2 hb)
  have hf := h.nb.fz hB hc
  refine ⟨⟨by simpa using ho, fun y hy => ?_⟩, hc, fun b hb => ?_⟩
  · rcases List.mem_append.1 hy with hy | hy
    · exact (h.ok y hy).st hf
    · rw [List.mem_singleton.1 hy]; exact hx.st hf
  · have hb := (mem_rowS (n + 1) c').1 hb
    rcases ha.2 with h1 | ⟨b', h1, h2⟩
    · left; rw [h1] at hb; exact (mem_rowS n c).2 hb
    · right; rw [hb] at h1; injection h1 with h1; omega
end
/-- how a map's element reads: as itself -/
def rv (v : Value) : Option (DataW Value × List MemPlace) := some (.held v, [])
def lk (s : Nat) : Lit := .int .i64 (s : Int)
theorem lk_wf {s : Nat} (h : s ≤ 1000000000) : (lk s).wf = true := by
  simp [lk, Lit.wf, IntKind.min, IntKind.max, IntKind.signed, IntKind.bits]
  omega
theorem lk_ne {s t : Nat} (h : s ≠ t) : lk s ≠ lk t := by
  unfold lk
  intro e
  injection e with _ e
  omega
theorem keyed_i : Maps.Keyed Try.prog 3 := Maps.int_keyed Try.underlying3
theorem key_i {s : Nat} (h : s ≤ 1000000000) : keyOf Try.prog 3 (.int .i64 (s : Int)) = some (lk s) := Maps.keyOf_int_mk Try.underlying3 (lk_wf h)
theorem zero_y (w : World) : (zeroValue 32).run Try.prog w = .ok (.slice none 0 0) w := by kernel_rfl
def upd (E : Nat → Option Bs) (s : Nat) (y : Option Bs) : Nat → Option Bs := fun t => if t = s then y else E t
/-- a map in memory -/
structure IsE (B : Nat) (w : World) (q n : Nat) (E : Nat → Option Bs) : Prop where
  mp : ∃ D : DataW Value, w.ownsMap Try.prog 3 rv q n D ∧ ∀ s : Nat, s ≤ 1000000000 → Maps.has D (lk s) = (E s).isSome ∧ ∀ x, E s = some x → ∀ z, D.atKey (lk s) z = .held (bv x)
  ok : ∀ s x, E s = some x → Pl B w x.a x.d x.c
  lo : B ≤ q
section
variable {B q n : Nat} {w w' : World} {E : Nat → Option Bs}
theorem IsE.lt (h : IsE B w q n E) : q < w.heap.size := by
  obtain ⟨D, h1, _⟩ := h.mp
  exact h1.lt
theorem IsE.cel (h : IsE B w q n E) : ∀ cs t fr, w.heap[q]? ≠ some (Obj.cells cs t fr) := fun cs t fr he => by
  obtain ⟨D, ⟨es, clock, h1, _⟩, _⟩ := h.mp
  rw [he] at h1
  cases h1
theorem IsE.nb (h : IsE B w q n E) : NB B w [q] := fun x hx => by
  rw [List.mem_singleton.1 hx]
  exact ⟨⟨h.lo, h.lt⟩, fun cs fr => h.cel cs _ fr⟩
theorem IsE.mapkeep {D : DataW Value} {S : List Nat} (h : w.ownsMap Try.prog 3 rv q n D) (hc : Chg S w w') (hq : q ∉ S) : w'.ownsMap Try.prog 3 rv q n D := by
  have hlt := h.lt
  obtain ⟨es, clock, h1, h2⟩ := h
  exact ⟨es, clock, (hc.block q hlt hq).trans h1, h2⟩
theorem IsE.st {S : List Nat} (h : IsE B w q n E) (hc : Chg S w w') (hq : q ∉ S) (hf : Fz B w w') : IsE B w' q n E := by
  obtain ⟨D, h1, h2⟩ := h.mp
  exact ⟨⟨D, IsE.mapkeep h1 hc hq, h2⟩, fun s x hx => (h.ok s x hx).st hf, h.lo⟩
theorem IsE.look (h : IsE B w q n E) (s : Nat) (hs : s ≤ 1000000000) : (Instr.lookup 43 (.map (some q)) (.int .i64 (s : Int)) true).run Try.prog w = .ok (.tuple #[((E s).map bv).getD (.slice none 0 0), .bool (E s).isSome]) w := by
  obtain ⟨D, h1, h2⟩ := h.mp
  obtain ⟨v, ps, hr, hv⟩ := h1.look_ok keyed_i Try.underlying43 (zero_y w) (zd := .held (.slice none 0 0)) (zp := []) rfl (key_i hs)
  rw [hr, (h2 s hs).1]
  have hve : DataW.held v = D.atKey (lk s) (.held (.slice none 0 0)) := by
    unfold rv at hv
    injection hv with hv
    injection hv with hv
  cases he : E s with
  | none =>
    have hn : Maps.has D (lk s) = false := by rw [(h2 s hs).1, he]; rfl
    rw [Maps.atKey_of_not_has hn] at hve
    injection hve with hve
    rw [hve]
    rfl
  | some x =>
    rw [(h2 s hs).2 x he] at hve
    injection hve with hve
    rw [hve]
    rfl
theorem IsE.put (h : IsE B w q n E) (hB : B ≤ w.heap.size) (s : Nat) (hs : s ≤ 1000000000) (hn : n < maxLen) (x : Bs) (hx : Pl B w x.a x.d x.c) :
    ∃ w', (Instr.mapUpdate 43 (.map (some q)) (.int .i64 (s : Int)) (bv x)).run Try.prog w = .ok () w' ∧ IsE B w' q (n + 1) (upd E s (some x)) ∧ w.mapTurned w' q := by
  obtain ⟨D, h1, h2⟩ := h.mp
  obtain ⟨w', hr, ho, ht⟩ := h1.store keyed_i Try.underlying43 hn (key_i hs) (val := bv x) (d := .held (bv x)) (ps := []) rfl
  have hc : Chg [q] w w' := Chg.of_grown ht.grown (fun y hy => by injection hy with hy; simp [hy])
  have hf := h.nb.fz hB hc
  refine ⟨w', hr, ⟨⟨_, ho, fun t ht' => ?_⟩, fun t y hy => ?_, h.lo⟩, ht⟩
  · by_cases e : t = s
    · subst e
      refine ⟨?_, fun y hy z => ?_⟩
      · rw [Maps.has_put_same (k := lk t) h1.isMap trivial]; simp [upd]
      · simp only [upd, if_true] at hy
        injection hy with hy
        rw [Maps.atKey_put_same (k := lk t) h1.isMap trivial, hy]
    · refine ⟨?_, fun y hy z => ?_⟩
      · rw [Maps.has_put_other (lk_ne e), (h2 t ht').1]; simp [upd, e]
      · simp only [upd, if_neg e] at hy
        rw [Maps.atKey_put_other (lk_ne e), (h2 t ht').2 y hy]
  · by_cases e : t = s
    · simp only [upd, if_pos e] at hy
      injection hy with hy
      rw [← hy]; exact hx.st hf
    · simp only [upd, if_neg e] at hy
      exact (h.ok t y hy).st hf
theorem IsE.del (h : IsE B w q n E) (hB : B ≤ w.heap.size) (s : Nat) (hs : s ≤ 1000000000) :
    ∃ w', (∀ ty, (Builtin.delete_ #[43, 3] ty #[.map (some q), .int .i64 (s : Int)]).run Try.prog w = .ok (.tuple #[]) w') ∧ IsE B w' q n (upd E s none) ∧ w.mapTurned w' q := by
  obtain ⟨D, h1, h2⟩ := h.mp
  obtain ⟨w', hr, ho, ht⟩ := h1.drop keyed_i Try.underlying43 (key_i hs) 0
  have hc : Chg [q] w w' := Chg.of_grown ht.grown (fun y hy => by injection hy with hy; simp [hy])
  have hf := h.nb.fz hB hc
  refine ⟨w', fun ty => hr, ⟨⟨_, ho, fun t ht' => ?_⟩, fun t y hy => ?_, h.lo⟩, ht⟩
  · by_cases e : t = s
    · subst e
      refine ⟨?_, fun y hy z => ?_⟩
      · rw [Maps.has_del_same]; simp [upd]
      · simp [upd] at hy
    · refine ⟨?_, fun y hy z => ?_⟩
      · rw [Maps.has_del_other (lk_ne e), (h2 t ht').1]; simp [upd, e]
      · simp only [upd, if_neg e] at hy
        rw [Maps.atKey_del_other (lk_ne e), (h2 t ht').2 y hy]
  · by_cases e : t = s
    · simp [upd, e] at hy
    · simp only [upd, if_neg e] at hy
      exact (h.ok t y hy).st hf
end
/-- the sender's end -/
structure IsA (B : Nat) (w : World) (g : Nat) (A : Option Addr) (n c : Nat) (m : Value) (S k : Nat) (l : List Bs) : Prop where
  hd : w.heap[g]? = some (Obj.cells #[.int .i64 (S : Int), .int .i64 (k : Int), .int .i64 0, .slice A n c, m] 45 (0, 0))
  gB : B ≤ g
  br : IsBr B w A n c l
/-- the receiver's end -/
structure IsC (B : Nat) (w : World) (g q r n : Nat) (E : Nat → Option Bs) : Prop where
  hd : w.heap[g]? = some (Obj.cells #[.int .i64 0, .int .i64 0, .int .i64 (r : Int), .slice none 0 0, .map (some q)] 45 (0, 0))
  gB : B ≤ g
  mp : IsE B w q n E
def aS (g : Nat) (A : Option Addr) : List Nat := [g] ++ rowS A
def cS (g q : Nat) : List Nat := [g] ++ [q]
section
variable {B g q r n c S k : Nat} {w w' : World} {A : Option Addr} {m : Value} {l : List Bs} {E : Nat → Option Bs} {T : List Nat}
theorem IsA.nb (h : IsA B w g A n c m S k l) : NB B w (aS g A) := (NB.cell h.hd h.gB (by decide)).app h.br.nb
theorem IsC.nb (h : IsC B w g q r n E) : NB B w (cS g q) := (NB.cell h.hd h.gB (by decide)).app h.mp.nb
theorem IsA.st (h : IsA B w g A n c m S k l) (hc : Chg T w w') (hT : ∀ x ∈ T, x ∉ aS g A) (hf : Fz B w w') : IsA B w' g A n c m S k l :=
  ⟨hc.blk h.hd (fun hm => hT g hm (by simp [aS])), h.gB, h.br.st hc (fun x hx hm => hT x hx (by simp [aS, hm])) hf⟩
theorem IsC.st (h : IsC B w g q r n E) (hc : Chg T w w') (hT : ∀ x ∈ T, x ∉ cS g q) (hf : Fz B w w') : IsC B w' g q r n E :=
  ⟨hc.blk h.hd (fun hm => hT g hm (by simp [cS])), h.gB, h.mp.st hc (fun hm => hT q hm (by simp [cS])) hf⟩
theorem IsC.ne (h : IsC B w g q r n E) : g ≠ q := fun e => by subst e; exact h.mp.cel _ _ _ h.hd
end
theorem netS_nb {B g n c : Nat} {w : World} {A : Option Addr} {last : Int} {ps : List Pk} (h : IsNet B w g A n c last ps) : NB B w (netS g A) := by
  show NB B w ([g] ++ rowS A)
  refine (NB.cell h.hd h.gB (by decide)).app (fun x hx => ?_)
  have hx := (mem_rowS n c).1 hx
  exact ⟨h.ow.lt x hx, fun cs fr he => own_tyne h.ow he (by decide) hx⟩
end Tc
end Go.Proofs.Ytjmcmilbkhacdaa
