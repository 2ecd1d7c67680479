/- Merged: MdJ MdM MdP. -/
import Derived.Test.YtddoepaplbnlcaaMTa
/- A message in a struct of its own; the walk of MailboxOnce's first half. -/
namespace Go.Proofs.Ytddoepaplbnlcaa
open Go.RowKit Go.Shelf
namespace Mb

theorem ins_at (l : List Msg) (m : Msg) (h : pos l m < (ins l m).length) : (ins l m)[pos l m] = m := by
  have hp := pos_le l m
  have h1 : (ins l m)[pos l m]? = some m := by
    unfold ins
    have hl : (l.take (pos l m)).length = pos l m := by rw [List.length_take]; omega
    rw [List.getElem?_append_right (by omega), hl, Nat.sub_self]; rfl
  rw [List.getElem?_eq_getElem h] at h1
  injection h1
theorem find_ins {l : List Msg} {m : Msg} (hi : Inv l) (h0 : putE l m = 0) : find (ins l m) (key m.a1 m.a2 m.i1 m.i2) = some (pos l m) := by
  have hp := hi.put m
  unfold putL at hp
  rw [if_pos h0] at hp
  have hlt : pos l m < (ins l m).length := by rw [ins_length]; have := pos_le l m; omega
  have h := find_at hp _ hlt
  rw [ins_at l m hlt] at h
  exact h
theorem take_ins {l : List Msg} {m : Msg} (hi : Inv l) (h0 : putE l m = 0) : takeL (ins l m) (key m.a1 m.a2 m.i1 m.i2) = l := by
  have hp := pos_le l m
  have hl : (l.take (pos l m)).length = pos l m := by rw [List.length_take]; omega
  unfold takeL
  rw [find_ins hi h0]
  show (ins l m).take (pos l m) ++ (ins l m).drop (pos l m + 1) = l
  unfold ins
  generalize hq : pos l m = p at *
  have e1 : (l.take p ++ m :: l.drop p).take p = l.take p := List.take_left' hl
  have e2 : (l.take p ++ m :: l.drop p).drop (p + 1) = l.drop p := by
    rw [show l.take p ++ m :: l.drop p = (l.take p ++ [m]) ++ l.drop p by simp]
    exact List.drop_left' (by simp; omega)
  rw [e1, e2, List.take_append_drop]
theorem find_out {l : List Msg} {m : Msg} (h0 : putE l m = 0) : find l (key m.a1 m.a2 m.i1 m.i2) = none := by
  cases hf : find l (key m.a1 m.a2 m.i1 m.i2) with
  | none => rfl
  | some i =>
    obtain ⟨hil, _, _, h3, h4⟩ := find_some hf
    exact absurd ⟨h3, h4⟩ ((putE_zero h0).2.1 _ (List.getElem_mem hil))
theorem once_find {l : List Msg} {m : Msg} {w w' : World} {e : Ending} (hi : Inv l) (h0 : putE l m = 0) (h : FindP (ins l m) (key m.a1 m.a2 m.i1 m.i2) w e w') :
    ∃ X c, e = .returned (.tuple #[.string m.me, .slice X m.ar.length c, .bool true]) ∧ Rd w' X (m.ar.map (Value.int .i64)) ∧ Below w.heap.size w w' := by
  obtain ⟨hb, h⟩ := h
  rw [find_ins hi h0] at h
  obtain ⟨_, X, c, h1, h2⟩ := h
  simp only [ins_at] at h1 h2
  exact ⟨X, c, h1, h2, hb⟩
theorem once_lost {l : List Msg} {m : Msg} {w w' : World} {e : Ending} (h0 : putE l m = 0) (h : FindP l (key m.a1 m.a2 m.i1 m.i2) w e w') :
    e = .returned (.tuple #[.string ⟨#[]⟩, .slice none 0 0, .bool false]) ∧ Below w.heap.size w w' := by
  obtain ⟨hb, h⟩ := h
  rw [find_out h0] at h
  exact ⟨h, hb⟩
theorem once_take {K : List Nat} {B g : Nat} {l : List Msg} {m : Msg} {w w' : World} {e : Ending} (hi : Inv l) (h0 : putE l m = 0) (h : TakeP K B g (ins l m) (key m.a1 m.a2 m.i1 m.i2) w e w') :
    ∃ X c, e = .returned (.tuple #[.slice X m.ar.length c, .int .i64 0]) ∧ Rd w' X (m.ar.map (Value.int .i64)) ∧ BxW K B g l w w' := by
  obtain ⟨hb, h⟩ := h
  rw [find_ins hi h0] at h
  rw [take_ins hi h0] at hb
  obtain ⟨_, X, c, h1, h2⟩ := h
  simp only [ins_at] at h1 h2
  exact ⟨X, c, h1, h2, hb⟩
theorem once_gone {K : List Nat} {B g : Nat} {l : List Msg} {m : Msg} {w w' : World} {e : Ending} (h0 : putE l m = 0) (h : TakeP K B g l (key m.a1 m.a2 m.i1 m.i2) w e w') :
    e = .returned (.tuple #[.slice none 0 0, .int .i64 6]) ∧ Below w.heap.size w w' := by
  obtain ⟨_, h⟩ := h
  rw [find_out h0] at h
  exact h
/-- a message lies in a block -/
def MsgAt (g : Nat) (x : Mm) (w : World) : Prop := w.heap[g]? = some (.cells x.cells.toArray 36 (0, 0))
theorem MsgAt.below {g B : Nat} {x : Mm} {w w' : World} (h : MsgAt g x w) (hb : Below B w w') (hg : g < B) : MsgAt g x w' := (hb.block g hg).trans h
theorem MsgAt.cells {g : Nat} {x : Mm} {w : World} (h : MsgAt g x w) : w.cell? ⟨g, 0, none⟩ = some (.int .i64 x.m.a1) ∧ w.cell? ⟨g, 1, none⟩ = some (.int .i64 x.m.a2) ∧ w.cell? ⟨g, 2, none⟩ = some (.int .i64 x.m.i1) ∧ w.cell? ⟨g, 3, none⟩ = some (.int .i64 x.m.i2) ∧ w.cell? ⟨g, 4, none⟩ = some (.string x.m.me) ∧ w.cell? ⟨g, 5, none⟩ = some (.slice x.a x.m.ar.length x.c) :=
  ⟨(cell_of_row _ _ 0 _ _ _ h).trans rfl, (cell_of_row _ _ 1 _ _ _ h).trans rfl, (cell_of_row _ _ 2 _ _ _ h).trans rfl, (cell_of_row _ _ 3 _ _ _ h).trans rfl, (cell_of_row _ _ 4 _ _ _ h).trans rfl, (cell_of_row _ _ 5 _ _ _ h).trans rfl⟩
theorem Mm.ok.chg {N S : List Nat} {x : Mm} {w w' : World} (h : x.ok w N) (hN : ∀ y ∈ N, y < w.heap.size) (hc : Chg S w w') (hS : ∀ y ∈ N, y ∉ S) : x.ok w' N := h.same fun y hy => hc.block y (hN y hy) (hS y hy)
/-- blocks below the box's base are written -/
theorem Bx.chg {K S : List Nat} {B g : Nat} {l : List Msg} {w w' : World} (h : Bx K B g l w) (hc : Chg S w w') (hS : ∀ x ∈ S, x < B) : Bx K B g l w' := by
  obtain ⟨N, A, n, c, xs, h1, h2, h3, h4⟩ := h
  have ne : ∀ y, B ≤ y → y ∉ S := fun y hy hm => by have := hS y hm; omega
  refine ⟨N, A, n, c, xs, ⟨(hc.block _ h1.lt (ne _ h1.gB)).trans h1.hd, h1.gB, ⟨h1.ow.1, h1.ow.2.imp id fun ⟨b, cap, cur, e1, e2, e3, e4⟩ => ⟨b, cap, cur, e1, e2, (hc.block b (Array.getElem?_eq_some_iff.1 e3).1 (ne b e2)).trans e3, e4⟩⟩, h1.hn, fun x hx => (h1.ok x hx).chg (fun y hy => (h1.nn y hy).1) hc (fun y hy => ne y (h1.nb y hy)), fun y hy => ⟨Nat.lt_of_lt_of_le (h1.nn y hy).1 hc.size, (h1.nn y hy).2⟩, h1.nb⟩, h2, h3, fun y hy => ⟨Nat.lt_of_lt_of_le (h4 y hy).1 hc.size, (h4 y hy).2⟩⟩
theorem Both.chg {S : List Nat} {R B g : Nat} {l : List Msg} {v : Value} {w w' : World} (h : Both R B g l v w) (hc : Chg S w w') (hS : ∀ x ∈ S, x < R) : Both R B g l v w' := by
  obtain ⟨K, M, h1, h2, h3, h4, h5⟩ := h
  exact ⟨K, M, h1.chg hc (fun x hx => Nat.lt_of_lt_of_le (hS x hx) h4), h2.same (fun y hy => hc.block y (h2.lt y hy) (fun hm => by have := hS y hm; have := h5 y hy; omega)) hc.size, h3, h4, h5⟩
theorem one_op {x : Mm} {N : List Nat} {w : World} (h : x.ok w N) (hN : ∀ y ∈ N, y < w.heap.size) :
    IsO (w.alloc (.cells #[.int .u8 0, .int .i64 x.m.a1, .int .i64 x.m.a2, .int .i64 x.m.i1, .int .i64 x.m.i2, .string x.m.me, .slice x.a x.m.ar.length x.c] 41)) N (some ⟨w.heap.size, 0, none⟩) 1 1 [⟨0, x⟩] :=
  ⟨Rd.new w (cells7 [⟨0, x⟩]) _ (0, 0), rfl, by omega, by simp [maxLen], fun o ho => by rw [List.mem_singleton.1 ho]; exact h.same (Same.of_below hN (below1 w _)), fun y hy => Nat.lt_of_lt_of_le (hN y hy) (below1 w _).size⟩
end Mb
end Go.Proofs.Ytddoepaplbnlcaa

/- The walk of MailboxErrors. -/
namespace Go.Proofs.Ytddoepaplbnlcaa
open Go.RowKit Go.Shelf
namespace Mb

theorem putE_bad {l : List Msg} {m : Msg} (h : valid m = false) : putE l m = 1 := by unfold putE; rw [if_pos h]
theorem putE_dup {l : List Msg} (hi : Inv l) {m y : Msg} (hv : valid m = true) (hy : y ∈ l) : putE l ⟨m.a1, m.a2, y.i1, y.i2, m.me, m.ar⟩ = 5 := by
  have h1 := hi.v y hy
  have h2 : valid ⟨m.a1, m.a2, y.i1, y.i2, m.me, m.ar⟩ = true := by
    unfold valid at *
    simp only [Bool.and_eq_true] at *
    exact ⟨⟨⟨⟨hv.1.1.1.1, h1.1.1.1.2⟩, hv.1.1.2⟩, hv.1.2⟩, hv.2⟩
  have h3 : l.any (fun x => sameId x ⟨m.a1, m.a2, y.i1, y.i2, m.me, m.ar⟩) = true := List.any_eq_true.2 ⟨y, hy, by simp [sameId]⟩
  unfold putE
  rw [if_neg (by rw [h2]; simp), if_pos h3]
theorem bad0 (m : Msg) : valid ⟨0, 0, m.i1, m.i2, m.me, m.ar⟩ = false := by simp [valid, validID]
theorem bad1 (m : Msg) : valid ⟨m.a1, m.a2, m.i1, -1, m.me, m.ar⟩ = false := by simp [valid, validID]
theorem bad2 (m : Msg) : valid ⟨m.a1, m.a2, m.i1, m.i2, ⟨#[]⟩, m.ar⟩ = false := by
  have h : (ByteArray.mk #[]).size = 0 := rfl
  simp [valid, h]
theorem bad3 (m : Msg) : valid ⟨m.a1, m.a2, m.i1, m.i2, m.me, m.ar ++ [0]⟩ = false := by simp [valid, good]
theorem bad4 (m : Msg) (ar : List Int) (h : 9 < ar.length) : valid ⟨m.a1, m.a2, m.i1, m.i2, m.me, ar⟩ = false := by
  unfold valid
  rw [decide_eq_false (p := ar.length ≤ 9) (by omega)]
  simp
theorem MsgAt.set {g j : Nat} {v : Value} {x x' : Mm} {w : World} (h : MsgAt g x w) (e : x.cells.toArray.setIfInBounds j v = x'.cells.toArray) : MsgAt g x' (w.setCell ⟨g, j, none⟩ v) := by
  unfold MsgAt
  rw [← e]
  exact heap_setCell_same _ _ _ _ _ _ h
theorem Mm.ok.re {x : Mm} {w : World} {N : List Nat} (h : x.ok w N) (m : Msg) (e : m.ar = x.m.ar) (h1 : -9223372036854775808 ≤ m.a1 ∧ m.a1 ≤ 9223372036854775807) (h2 : -9223372036854775808 ≤ m.a2 ∧ m.a2 ≤ 9223372036854775807) (h3 : -9223372036854775808 ≤ m.i1 ∧ m.i1 ≤ 9223372036854775807) (h4 : -9223372036854775808 ≤ m.i2 ∧ m.i2 ≤ 9223372036854775807) (hs : m.me.size ≤ 9223372036854775807) : (Mm.mk m x.a x.c).ok w N := by
  obtain ⟨a1, a2, i1, i2, me, ar⟩ := m
  obtain rfl : ar = x.m.ar := e
  exact ⟨h.rd, h.c1, h.c2, h.b, h1, h2, h3, h4, h.ar, hs⟩
theorem ok_own {x : Mm} {w w3 wx : World} {N S : List Nat} {X : Option Addr} {k cx B3 : Nat} (h : x.ok w N) (ar : List Int) (har : ∀ z ∈ ar, -9223372036854775808 ≤ z ∧ z ≤ 9223372036854775807) (hk : ar.length = k) (ho : w3.ownsRow B3 3 1 (.slice X k cx) k (ar.map (Value.int .i64))) (hc : Chg S w3 wx) (hS : ∀ y ∈ S, y < B3) :
    ∃ NN : List Nat, (Mm.mk ⟨x.m.a1, x.m.a2, x.m.i1, x.m.i2, x.m.me, ar⟩ X cx).ok wx NN := by
  subst hk
  obtain ⟨_, _, e, h1, h2, _, hr⟩ := own_form ho
  cases e
  have hX : ∀ b off, X = some ⟨b, off, none⟩ → B3 ≤ b ∧ b < w3.heap.size := fun b off e => by
    rcases ho.2 with ⟨h, _⟩ | ⟨g, cap, cur, h, hb, hh, _⟩
    · injection h with h _ _; rw [h] at e; cases e
    · injection h with h _ _; rw [h] at e; cases e
      exact ⟨hb, (Array.getElem?_eq_some_iff.1 hh).1⟩
  exact ⟨(Value.slice X ar.length cx).ownBlock.toList, ⟨hc.rd hr (fun b off e hm => by have := (hX b off e).1; have := hS b hm; omega), h1, h2, fun _ b off e => by have e' : X = some ⟨b, off, none⟩ := e; rw [e']; simp [Value.ownBlock], h.a1, h.a2, h.i1, h.i2, har, h.s⟩⟩
/-- the message was changed: Put is going to refuse it -/
structure ErrT (b0 B : Nat) (l : List Msg) (v : Value) (w4 : World) (want : Int) (x : Mm) (N : List Nat) (wx : World) : Prop where
  at_ : MsgAt b0 x wx
  ok : x.ok wx N
  al : x.m.ar.length ≤ 1000000
  both : Both B B B l v wx
  e : putE l x.m = want
  ne : want ≠ 0
  b : Below b0 w4 wx
  sz : B ≤ wx.heap.size
theorem ErrT.back {b0 B : Nat} {l : List Msg} {v : Value} {w4 w5 wx : World} {want : Int} {x : Mm} {N : List Nat} (h : ErrT b0 B l v w5 want x N wx) (hb : Below w4.heap.size w4 w5) (hB : B ≤ w4.heap.size) (hb0 : b0 < B) : ErrT b0 B l v w4 want x N wx :=
  ⟨h.at_, h.ok, h.al, h.both, h.e, h.ne, (hb.mono (by omega)).trans h.b, h.sz⟩
theorem ErrT.putl {b0 B : Nat} {l : List Msg} {v : Value} {w4 wx : World} {want : Int} {x : Mm} {N : List Nat} (h : ErrT b0 B l v w4 want x N wx) : putL l x.m = l := by unfold putL; rw [if_neg (by rw [h.e]; exact h.ne)]
theorem ErrT.of_set {b0 B : Nat} {l : List Msg} {v : Value} {w4 wx : World} {want : Int} {x : Mm} {N : List Nat} (hc : Chg [b0] w4 wx) (hat : MsgAt b0 x wx) (hok : x.ok wx N) (hal : x.m.ar.length ≤ 1000000) (hb : Both B B B l v w4) (hB : b0 < B) (hsz : B ≤ w4.heap.size) (he : putE l x.m = want) (hne : want ≠ 0) : ErrT b0 B l v w4 want x N wx :=
  ⟨hat, hok, hal, hb.chg hc (fun y hy => by rw [List.mem_singleton.1 hy]; exact hB), he, hne, ⟨hc.os, hc.tape, hc.output, hc.size, fun y hy => hc.block y (by omega) (fun hm => by have := List.mem_singleton.1 hm; omega)⟩, Nat.le_trans hsz hc.size⟩

set_option maxRecDepth 100000 in
set_option maxHeartbeats 4000000 in
theorem errors_calls (N : List Nat) (A : Option Addr) (n c : Nat) (os : List Ot) (x : Mm) (how : UInt8) (w : World) (h : IsO w N A n c os) (hx : x.ok w N) :
    Calls Try.prog 6 #[.slice A n c, .agg x.cells.toArray, .int .u8 (how.toNat : Int)] w fun e w' => e = .returned (.bool true) ∧ Below w.heap.size w w' := by
  have hk8 := how.toNat_lt
  generalize how.toNat = k at *
  rw [show x.cells.toArray = #[.int .i64 x.m.a1, .int .i64 x.m.a2, .int .i64 x.m.i1, .int .i64 x.m.i2, .string x.m.me, .slice x.a x.m.ar.length x.c] from rfl]
  have HO0 := Lib.hid h
  have HX0 := Lib.hid hx
  have hb0 := below1 w (.cells #[.int .i64 x.m.a1, .int .i64 x.m.a2, .int .i64 x.m.i1, .int .i64 x.m.i2, .string x.m.me, .slice x.a x.m.ar.length x.c] 36)
  have hm0 : MsgAt w.heap.size x (w.alloc (.cells #[.int .i64 x.m.a1, .int .i64 x.m.a2, .int .i64 x.m.i1, .int .i64 x.m.i2, .string x.m.me, .slice x.a x.m.ar.length x.c] 36)) := heap_alloc_new w (.cells #[.int .i64 x.m.a1, .int .i64 x.m.a2, .int .i64 x.m.i1, .int .i64 x.m.i2, .string x.m.me, .slice x.a x.m.ar.length x.c] 36)
  have hg0 : w.heap.size < (w.alloc (.cells #[.int .i64 x.m.a1, .int .i64 x.m.a2, .int .i64 x.m.i1, .int .i64 x.m.i2, .string x.m.me, .slice x.a x.m.ar.length x.c] 36)).heap.size := by simp
  clear h hx
  go_enter Try.func6, Try.ntmps6
  go_upto_region 1 with (fail)
  generalize w.alloc _ = w0 at *
  have HB0 := Lib.hid hb0
  have HO := Lib.hid (HO0.out.below hb0)
  have HX := Lib.hid (HX0.out.same (Same.of_below HO0.out.nl hb0))
  have HM := Lib.hid hm0
  have HG := Lib.hid hg0
  have HA := Lib.hid (awake_calls w0)
  have HNL := Lib.hid HO0.out.nl
  clear hb0 hm0 hg0 HO0 HX0
  go_wp2_with fail
  refine HA.out.mono ?_
  rintro e w1 ⟨rfl, hb1⟩
  have HB1 := Lib.hid hb1
  have HWI := Lib.hid (wide_calls N A n c os w1 (HO.out.below hb1))
  clear hb1 HA
  go_upto_region 3 with (fail)
  have HO1 := Lib.hid (HO.out.below HB1.out)
  have HX1 := Lib.hid (HX.out.same (Same.of_below HO.out.nl HB1.out))
  have HM1 := Lib.hid (HM.out.below HB1.out HG.out)
  have HG1 := Lib.hid (Nat.lt_of_lt_of_le HG.out HB1.out.size)
  have HBT1 := Lib.hid (HB0.out.trans (HB1.out.mono HB0.out.size))
  clear HO HX HM HG HB0 HB1
  have HW1 := Lib.hid (wide_calls N A n c os w1 HO1.out)
  have HW2 : Hid (∀ w', Below w1.heap.size w1 w' → Calls Try.prog 11 #[.slice (some ⟨w'.heap.size, 0, none⟩) 1 1] (w'.alloc (.cells #[.int .u8 0, .int .i64 x.m.a1, .int .i64 x.m.a2, .int .i64 x.m.i1, .int .i64 x.m.i2, .string x.m.me, .slice x.a x.m.ar.length x.c] 41)) fun e w'' => e = .returned (.bool (wideB [⟨0, x⟩])) ∧ Below w1.heap.size w1 w'') := Lib.hid (fun w' hb => (wide_calls N _ 1 1 [⟨0, x⟩] _ (one_op (HX1.out.same (Same.of_below HO1.out.nl hb)) (fun y hy => Nat.lt_of_lt_of_le (HO1.out.nl y hy) hb.size))).mono fun e w'' h => ⟨h.1, (hb.trans ((below1 w' _).mono hb.size)).trans (h.2.mono (Nat.le_trans hb.size (below1 w' _).size))⟩)
  go_wp2_with fail
  refine HW1.out.mono ?_
  rintro e w2 ⟨rfl, hb⟩
  have HBA := Lib.hid hb
  clear hb HW1
  cases hwd : wideB os with
  | true =>
    clear hwd HW2
    go_wp2_with fail
    go_ret
    exact ⟨rfl, HBT1.out.trans (HBA.out.mono HBT1.out.size)⟩
  | false =>
    have hww := (wideB_false hwd).2
    have HWW := Lib.hid hww
    obtain ⟨bw, HBW⟩ : ∃ y, Hid (wideB [⟨0, x⟩] = y) := ⟨_, rfl⟩
    rw [HBW.out] at HW2
    have HW3 := Lib.hid (HW2.out w2 HBA.out)
    obtain ⟨m0, m1, m2, m3, m4, m5⟩ := (HM1.out.below HBA.out HG1.out).cells
    clear hwd hww HW2 HBA
    go_wp2_with fail
    refine HW3.out.mono ?_
    rintro e w3 ⟨rfl, hb3⟩
    clear m0 m1 m2 m3 m4 m5 HW3
    have HB3 := Lib.hid hb3
    clear hb3
    cases bw with
    | true =>
      go_wp2_with fail
      go_ret
      exact ⟨rfl, HBT1.out.trans (HB3.out.mono HBT1.out.size)⟩
    | false =>
      have hal := ((wideB_false HBW.out).2 _ (List.mem_singleton.2 rfl)).2
      have HAL : Hid (x.m.ar.length ≤ 20) := Lib.hid hal
      have HO3 := Lib.hid (HO1.out.below HB3.out)
      have HX3 := Lib.hid (HX1.out.same (Same.of_below HO1.out.nl HB3.out))
      have HM3 := Lib.hid (HM1.out.below HB3.out HG1.out)
      have HG3 := Lib.hid (Nat.lt_of_lt_of_le HG1.out HB3.out.size)
      have HBT3 := Lib.hid (HBT1.out.trans (HB3.out.mono HBT1.out.size))
      have HR := Lib.hid (run_calls N A n c os w3 HO3.out (fun o ho => (HWW.out o ho).2))
      clear hal HB3 HO1 HX1 HM1 HG1 HBT1 HWW HBW
      go_wp2_with fail
      refine HR.out.mono ?_
      rintro e w4 ⟨A4, n4, c4, rfl, hbo, hb4⟩
      obtain ⟨l, HLL⟩ : ∃ y, Hid (runL os = y) := ⟨_, rfl⟩
      rw [HLL.out] at hbo
      have hinv := hbo.inv
      have HINV := Lib.hid hbo.inv
      obtain ⟨B, HB⟩ : ∃ y, Hid (w3.heap.size = y) := ⟨_, rfl⟩
      have HSZ := Lib.hid hb4.size
      have HXO := Lib.hid (HX3.out.same (Same.of_below HO3.out.nl hb4))
      have HM4 := Lib.hid (HM3.out.below hb4 HG3.out)
      have HN4 : Hid (∀ y ∈ N, y < w.heap.size) := Lib.hid HNL.out
      have HBT4 := Lib.hid (HBT3.out.trans (hb4.mono HBT3.out.size))
      have HBO := Lib.hid hbo
      have HG4 := HG3
      rw [HB.out] at HBO HSZ HG4 ⊢
      obtain ⟨b0, HB0⟩ : ∃ y, Hid (w.heap.size = y) := ⟨_, rfl⟩
      rw [HB0.out] at HM4 HN4 HG4 ⊢
      clear hbo hb4 HR HLL HO3 HX3 HM3 HG3 HBT3
      go_upto_region 8 with (fail)
      obtain ⟨d0, d1, d2, d3, d4, d5⟩ := HM4.out.cells
      have f0 := frozen_of_row _ _ 0 _ _ HM4.out
      have f1 := frozen_of_row _ _ 1 _ _ HM4.out
      have f2 := frozen_of_row _ _ 2 _ _ HM4.out
      have f3 := frozen_of_row _ _ 3 _ _ HM4.out
      have f4 := frozen_of_row _ _ 4 _ _ HM4.out
      have f5 := frozen_of_row _ _ 5 _ _ HM4.out
      have HIB : Hid (∀ z : Int, z = 0 ∨ z = -1 → -9223372036854775808 ≤ z ∧ z ≤ 9223372036854775807) := Lib.hid (fun z hz => by omega)
      rcases (by omega : k % 6 = 0 ∨ k % 6 = 1 ∨ k % 6 = 2 ∨ k % 6 = 3 ∨ k % 6 = 4 ∨ k % 6 = 5) with hr | hr | hr | hr | hr | hr
      · have t1 : ((k : Int)).tmod 6 = 0 := by rw [Int.tmod_eq_emod_of_nonneg (by omega)]; omega
        clear hr hk8
        go_upto_region 28 with (fail)
        have hc : Chg [b0] w4 ((w4.setCell ⟨b0, 0, none⟩ (.int .i64 0)).setCell ⟨b0, 1, none⟩ (.int .i64 0)) := ((Chg.refl [b0] w4).setCell (p := ⟨b0, 0, none⟩) (.inl (by simp)) _).setCell (p := ⟨b0, 1, none⟩) (.inl (by simp)) _
        have HT := Lib.hid (ErrT.of_set (x := ⟨⟨0, 0, x.m.i1, x.m.i2, x.m.me, x.m.ar⟩, x.a, x.c⟩) hc ((HM4.out.set (x' := ⟨⟨0, x.m.a2, x.m.i1, x.m.i2, x.m.me, x.m.ar⟩, x.a, x.c⟩) rfl).set rfl) ((HXO.out.re ⟨0, 0, x.m.i1, x.m.i2, x.m.me, x.m.ar⟩ rfl (HIB.out 0 (.inl rfl)) (HIB.out 0 (.inl rfl)) HXO.out.i1 HXO.out.i2 HXO.out.s).chg (fun y hy => Nat.lt_of_lt_of_le (Nat.lt_trans (HN4.out y hy) HG4.out) HSZ.out) hc (fun y hy hm => by have h1 := HN4.out y hy; rw [List.mem_singleton.1 hm] at h1; omega)) (Nat.le_trans HAL.out (by omega)) HBO.out HG4.out HSZ.out (putE_bad (bad0 x.m)) (by decide))
        generalize (w4.setCell _ _).setCell _ _ = wx at *
        (clear d0 d1 d2 d3 d4 d5 f0 f1 f2 f3 f4 f5; (obtain ⟨d0, d1, d2, d3, d4, d5⟩ := HT.out.at_.cells; obtain ⟨K, M, hx, hm, hMK⟩ := HT.out.both; have HP := Lib.hid (put_calls K B B l _ N wx hx HT.out.sz HT.out.ok HT.out.al); unfold PutP at HP; rw [HT.out.e] at HP; have HMO := Lib.hid hm; have HMK := Lib.hid hMK; clear hx hm hMK; simp only at d0 d1 d2 d3 d4 d5 HP; go_wp2_with fail; refine HP.out.mono ?_; rintro e w5 ⟨rfl, hx5⟩; have hl := HT.out.putl; simp only at hl; rw [hl] at hx5; have HS := Lib.hid (same_calls (R := B) B B l A4 n4 c4 w5 ⟨K, M, hx5.bx, HMO.out.same (fun y hy => hx5.k y (HMK.out.1 y hy)) hx5.b.size, HMK.out⟩); have HB5 : Hid (Below b0 w4 w5) := Lib.hid (HT.out.b.trans (hx5.b.mono (Nat.le_of_lt HG4.out))); have HS5 := Lib.hid (Nat.le_trans HT.out.sz hx5.b.size); clear hx5 hl d0 d1 d2 d3 d4 d5; go_wp2_with fail; refine HS.out.mono ?_; rintro e w6 ⟨rfl, hb6⟩; have HB6 : Hid (Below w.heap.size w w6) := Lib.hid (by have h6 := HB5.out.trans (hb6.mono (Nat.le_trans (Nat.le_of_lt HG4.out) HS5.out)); rw [← HB0.out] at h6; exact HBT4.out.trans h6); clear hb6; go_wp2_with fail; go_ret; exact ⟨rfl, HB6.out⟩))
      · have t1 : ((k : Int)).tmod 6 = 1 := by rw [Int.tmod_eq_emod_of_nonneg (by omega)]; omega
        clear hr hk8
        go_upto_region 28 with (fail)
        have hc : Chg [b0] w4 (w4.setCell ⟨b0, 3, none⟩ (.int .i64 (-1))) := (Chg.refl [b0] w4).setCell (p := ⟨b0, 3, none⟩) (.inl (by simp)) _
        have HT := Lib.hid (ErrT.of_set (x := ⟨⟨x.m.a1, x.m.a2, x.m.i1, -1, x.m.me, x.m.ar⟩, x.a, x.c⟩) hc (HM4.out.set rfl) ((HXO.out.re ⟨x.m.a1, x.m.a2, x.m.i1, -1, x.m.me, x.m.ar⟩ rfl HXO.out.a1 HXO.out.a2 HXO.out.i1 (HIB.out (-1) (.inr rfl)) HXO.out.s).chg (fun y hy => Nat.lt_of_lt_of_le (Nat.lt_trans (HN4.out y hy) HG4.out) HSZ.out) hc (fun y hy hm => by have h1 := HN4.out y hy; rw [List.mem_singleton.1 hm] at h1; omega)) (Nat.le_trans HAL.out (by omega)) HBO.out HG4.out HSZ.out (putE_bad (bad1 x.m)) (by decide))
        generalize w4.setCell _ _ = wx at *
        (clear d0 d1 d2 d3 d4 d5 f0 f1 f2 f3 f4 f5; (obtain ⟨d0, d1, d2, d3, d4, d5⟩ := HT.out.at_.cells; obtain ⟨K, M, hx, hm, hMK⟩ := HT.out.both; have HP := Lib.hid (put_calls K B B l _ N wx hx HT.out.sz HT.out.ok HT.out.al); unfold PutP at HP; rw [HT.out.e] at HP; have HMO := Lib.hid hm; have HMK := Lib.hid hMK; clear hx hm hMK; simp only at d0 d1 d2 d3 d4 d5 HP; go_wp2_with fail; refine HP.out.mono ?_; rintro e w5 ⟨rfl, hx5⟩; have hl := HT.out.putl; simp only at hl; rw [hl] at hx5; have HS := Lib.hid (same_calls (R := B) B B l A4 n4 c4 w5 ⟨K, M, hx5.bx, HMO.out.same (fun y hy => hx5.k y (HMK.out.1 y hy)) hx5.b.size, HMK.out⟩); have HB5 : Hid (Below b0 w4 w5) := Lib.hid (HT.out.b.trans (hx5.b.mono (Nat.le_of_lt HG4.out))); have HS5 := Lib.hid (Nat.le_trans HT.out.sz hx5.b.size); clear hx5 hl d0 d1 d2 d3 d4 d5; go_wp2_with fail; refine HS.out.mono ?_; rintro e w6 ⟨rfl, hb6⟩; have HB6 : Hid (Below w.heap.size w w6) := Lib.hid (by have h6 := HB5.out.trans (hb6.mono (Nat.le_trans (Nat.le_of_lt HG4.out) HS5.out)); rw [← HB0.out] at h6; exact HBT4.out.trans h6); clear hb6; go_wp2_with fail; go_ret; exact ⟨rfl, HB6.out⟩))
      · have t1 : ((k : Int)).tmod 6 = 2 := by rw [Int.tmod_eq_emod_of_nonneg (by omega)]; omega
        clear hr hk8
        go_upto_region 28 with (fail)
        have hc : Chg [b0] w4 (w4.setCell ⟨b0, 4, none⟩ (.string ⟨#[]⟩)) := (Chg.refl [b0] w4).setCell (p := ⟨b0, 4, none⟩) (.inl (by simp)) _
        have HT := Lib.hid (ErrT.of_set (x := ⟨⟨x.m.a1, x.m.a2, x.m.i1, x.m.i2, ⟨#[]⟩, x.m.ar⟩, x.a, x.c⟩) hc (HM4.out.set rfl) ((HXO.out.re ⟨x.m.a1, x.m.a2, x.m.i1, x.m.i2, ⟨#[]⟩, x.m.ar⟩ rfl HXO.out.a1 HXO.out.a2 HXO.out.i1 HXO.out.i2 (Nat.zero_le _)).chg (fun y hy => Nat.lt_of_lt_of_le (Nat.lt_trans (HN4.out y hy) HG4.out) HSZ.out) hc (fun y hy hm => by have h1 := HN4.out y hy; rw [List.mem_singleton.1 hm] at h1; omega)) (Nat.le_trans HAL.out (by omega)) HBO.out HG4.out HSZ.out (putE_bad (bad2 x.m)) (by decide))
        generalize w4.setCell _ _ = wx at *
        (clear d0 d1 d2 d3 d4 d5 f0 f1 f2 f3 f4 f5; (obtain ⟨d0, d1, d2, d3, d4, d5⟩ := HT.out.at_.cells; obtain ⟨K, M, hx, hm, hMK⟩ := HT.out.both; have HP := Lib.hid (put_calls K B B l _ N wx hx HT.out.sz HT.out.ok HT.out.al); unfold PutP at HP; rw [HT.out.e] at HP; have HMO := Lib.hid hm; have HMK := Lib.hid hMK; clear hx hm hMK; simp only at d0 d1 d2 d3 d4 d5 HP; go_wp2_with fail; refine HP.out.mono ?_; rintro e w5 ⟨rfl, hx5⟩; have hl := HT.out.putl; simp only at hl; rw [hl] at hx5; have HS := Lib.hid (same_calls (R := B) B B l A4 n4 c4 w5 ⟨K, M, hx5.bx, HMO.out.same (fun y hy => hx5.k y (HMK.out.1 y hy)) hx5.b.size, HMK.out⟩); have HB5 : Hid (Below b0 w4 w5) := Lib.hid (HT.out.b.trans (hx5.b.mono (Nat.le_of_lt HG4.out))); have HS5 := Lib.hid (Nat.le_trans HT.out.sz hx5.b.size); clear hx5 hl d0 d1 d2 d3 d4 d5; go_wp2_with fail; refine HS.out.mono ?_; rintro e w6 ⟨rfl, hb6⟩; have HB6 : Hid (Below w.heap.size w w6) := Lib.hid (by have h6 := HB5.out.trans (hb6.mono (Nat.le_trans (Nat.le_of_lt HG4.out) HS5.out)); rw [← HB0.out] at h6; exact HBT4.out.trans h6); clear hb6; go_wp2_with fail; go_ret; exact ⟨rfl, HB6.out⟩))
      · have t1 : ((k : Int)).tmod 6 = 3 := by rw [Int.tmod_eq_emod_of_nonneg (by omega)]; omega
        clear hr hk8
        obtain ⟨al, HAE⟩ : ∃ y, Hid (x.m.ar.length = y) := ⟨_, rfl⟩
        have hal : al ≤ 20 := by rw [← HAE.out]; exact HAL.out
        have hb04 : b0 < w4.heap.size := Nat.lt_of_lt_of_le HG4.out HSZ.out
        rw [HAE.out] at d5
        have n5 : ∀ o, (w4.alloc o).cell? ⟨b0, 5, none⟩ = some (.slice x.a al x.c) := fun o => (World.cell?_alloc_lt w4 o ⟨b0, 5, none⟩ hb04).trans d5
        go_upto_region 28 with (first | (at_builtin; refine wpList_apps _ rfl (.tmp 45) (.tmp 47) 34 rfl w4.heap.size 3 (.int .i64 0) 8 Try.underlying34 info_n rfl (.slice (some ⟨w4.heap.size, 0, none⟩) 0 0) 0 [] rfl (own_empty _ _ _ _ rfl (Nat.le_refl _)) x.a al x.c (x.m.ar.map (Value.int .i64)) rfl (by simp; exact HAE.out) (Rd.alloc HXO.out.rd _) (ni_one _) (by simp only [maxLen]; omega) (by omega) (by simp) ?_; intro X cX w5 hown5 happ5; simp only [Nat.zero_add, List.nil_append] at hown5 happ5; have HO5 := Lib.hid hown5; have HP5 := Lib.hid (((below1 w4 _).trans (happ5.below (own_empty w4.heap.size _ _ _ rfl (Nat.le_refl _)) (by simp)))); clear hown5 happ5) | (at_builtin; refine wpList_apps _ rfl (.tmp 48) (.tmp 49) 34 rfl w4.heap.size 3 (.int .i64 0) 8 Try.underlying34 info_n rfl (.slice X al cX) al (x.m.ar.map (Value.int .i64)) rfl (HO5.out.alloc _) (some ⟨w5.heap.size, 0, none⟩) 1 1 [.int .i64 0] rfl rfl (Rd.one w5 _ _) (by simp [Value.oneCell']) (by simp only [maxLen]; omega) (by omega) (Nat.le_trans HP5.out.size (by simp)) ?_; intro X7 c7 w7 hown7 happ7; have HO7 := Lib.hid hown7; have HP7 := Lib.hid (HP5.out.trans (((below1 w5 _).mono HP5.out.size).trans (happ7.below (HO5.out.alloc _) (Nat.le_trans HP5.out.size (by simp))))); clear hown7 happ7; have HM7 := Lib.hid (HM4.out.below HP7.out hb04); have kq5 : w7.cell? ⟨b0, 5, none⟩ = some (.slice x.a x.m.ar.length x.c) := HM7.out.cells.2.2.2.2.2; have gq5 : w7.frozen? ⟨b0, 5, none⟩ = false := frozen_of_row _ _ 5 _ _ HM7.out))
        have hc : Chg [b0] w4 (w7.setCell ⟨b0, 5, none⟩ (.slice X7 (al + 1) c7)) := (Chg.of_below HP7.out [b0]).setCell (p := ⟨b0, 5, none⟩) (.inl (by simp)) _
        have hc7 : Chg [b0] w7 (w7.setCell ⟨b0, 5, none⟩ (.slice X7 (al + 1) c7)) := (Chg.refl [b0] w7).setCell (p := ⟨b0, 5, none⟩) (.inl (by simp)) _
        obtain ⟨ar', HAR⟩ : ∃ y, Hid (x.m.ar ++ [0] = y) := ⟨x.m.ar ++ [0], Lib.hid rfl⟩
        have hln : ar'.length = al + 1 := by rw [← HAR.out, List.length_append, HAE.out]; rfl
        obtain ⟨NN, hok⟩ := ok_own (wx := w7.setCell ⟨b0, 5, none⟩ (.slice X7 (al + 1) c7)) HXO.out ar' (fun z hz => by rw [← HAR.out] at hz; rcases List.mem_append.1 hz with hz | hz; exact HXO.out.ar z hz; rw [List.mem_singleton.1 hz]; exact HIB.out 0 (.inl rfl)) hln (by rw [← HAR.out, List.map_append]; exact HO7.out) hc7 (by simp only [List.mem_singleton]; intro y hy; omega)
        have hset : x.cells.toArray.setIfInBounds 5 (.slice X7 (al + 1) c7) = (Mm.mk ⟨x.m.a1, x.m.a2, x.m.i1, x.m.i2, x.m.me, ar'⟩ X7 c7).cells.toArray := by rw [← hln]; rfl
        have hbad := putE_bad (l := l) (bad3 x.m)
        rw [HAR.out] at hbad
        have hal' : ar'.length ≤ 1000000 := by omega
        have HT := Lib.hid (ErrT.of_set (x := ⟨⟨x.m.a1, x.m.a2, x.m.i1, x.m.i2, x.m.me, ar'⟩, X7, c7⟩) hc (HM7.out.set hset) hok hal' HBO.out HG4.out HSZ.out hbad (by decide))
        clear hset hbad hal' hln
        clear kq5 gq5 n5 hc7 hok
        generalize w7.setCell _ _ = wx at *
        (clear d0 d1 d2 d3 d4 d5 f0 f1 f2 f3 f4 f5; (obtain ⟨d0, d1, d2, d3, d4, d5⟩ := HT.out.at_.cells; obtain ⟨K, M, hx, hm, hMK⟩ := HT.out.both; have HP := Lib.hid (put_calls K B B l _ NN wx hx HT.out.sz HT.out.ok HT.out.al); unfold PutP at HP; rw [HT.out.e] at HP; have HMO := Lib.hid hm; have HMK := Lib.hid hMK; clear hx hm hMK; simp only at d0 d1 d2 d3 d4 d5 HP; go_wp2_with fail; refine HP.out.mono ?_; rintro e w5 ⟨rfl, hx5⟩; have hl := HT.out.putl; simp only at hl; rw [hl] at hx5; have HS := Lib.hid (same_calls (R := B) B B l A4 n4 c4 w5 ⟨K, M, hx5.bx, HMO.out.same (fun y hy => hx5.k y (HMK.out.1 y hy)) hx5.b.size, HMK.out⟩); have HB5 : Hid (Below b0 w4 w5) := Lib.hid (HT.out.b.trans (hx5.b.mono (Nat.le_of_lt HG4.out))); have HS5 := Lib.hid (Nat.le_trans HT.out.sz hx5.b.size); clear hx5 hl d0 d1 d2 d3 d4 d5; go_wp2_with fail; refine HS.out.mono ?_; rintro e w6 ⟨rfl, hb6⟩; have HB6 : Hid (Below w.heap.size w w6) := Lib.hid (by have h6 := HB5.out.trans (hb6.mono (Nat.le_trans (Nat.le_of_lt HG4.out) HS5.out)); rw [← HB0.out] at h6; exact HBT4.out.trans h6); clear hb6; go_wp2_with fail; go_ret; exact ⟨rfl, HB6.out⟩))
      · have t1 : ((k : Int)).tmod 6 = 4 := by rw [Int.tmod_eq_emod_of_nonneg (by omega)]; omega
        clear hr hk8
        have hb04 : b0 < w4.heap.size := Nat.lt_of_lt_of_le HG4.out HSZ.out
        have hbe := below1 w4 (.cells #[] 3)
        have HOE : Hid ((w4.alloc (.cells #[] 3)).ownsRow w4.heap.size 3 1 (.slice (some ⟨w4.heap.size, 0, none⟩) 0 0) 0 []) := Lib.hid (own_empty _ _ _ _ rfl (Nat.le_refl _))
        have HBE := Lib.hid hbe
        clear d0 d1 d2 d3 d4 d5 f0 f1 f2 f3 f4 f5 hbe
        go_upto_region 20 with (fail)
        generalize w4.alloc _ = we at *
        clear t1
        go_wp2_with fail
        go_loopw [11] (fun v wr => ∃ j : Nat, j ≤ 10 ∧ ∃ X c, v = .slice X j c ∧ wr.ownsRow w4.heap.size 3 1 (.slice X j c) j ((List.replicate j 1).map (Value.int .i64)) ∧ Below w4.heap.size w4 wr) (fun v _ => match v with | .slice _ m _ => 10 - m | _ => 0)
        case atStart => exact ⟨0, by omega, _, _, rfl, HOE.out, HBE.out⟩
        case round =>
          obtain ⟨j, hj, X, cX, rfl, ho, hbw⟩ := hrel
          have HO := Lib.hid ho
          have HBW := Lib.hid hbw
          clear ho hbw
          have j0 : (0 : Int) ≤ (j : Int) := by omega
          by_cases hlt : j < 10
          · have j1 : (j : Int) < 10 := by omega
            go_wp2_with (at_builtin; refine wpList_apps _ rfl (.tmp 58) (.tmp 59) 34 rfl w4.heap.size 3 (.int .i64 0) 8 Try.underlying34 info_n rfl (.slice X j cX) j ((List.replicate j 1).map (Value.int .i64)) rfl (HO.out.alloc _) (some ⟨wr.heap.size, 0, none⟩) 1 1 [.int .i64 1] rfl rfl (Rd.one wr _ _) (by simp [Value.oneCell']) (by simp only [maxLen]; omega) (by omega) (Nat.le_trans HBW.out.size (by simp)) ?_; intro X7 c7 w7 hown7 happ7; have HO7 := Lib.hid hown7; have HP7 := Lib.hid (HBW.out.trans (((below1 wr _).mono HBW.out.size).trans (happ7.below (HO.out.alloc _) (Nat.le_trans HBW.out.size (by simp))))); clear hown7 happ7)
            go_roundw
            case rel => exact ⟨j + 1, by omega, X7, c7, rfl, by rw [List.replicate_succ', List.map_append]; exact HO7.out, HP7.out⟩
            case measure => simp; omega
          · obtain rfl : j = 10 := by omega
            have HM7 := Lib.hid (HM4.out.below HBW.out hb04)
            have kq5 : wr.cell? ⟨b0, 5, none⟩ = some (.slice x.a x.m.ar.length x.c) := HM7.out.cells.2.2.2.2.2
            have gq5 : wr.frozen? ⟨b0, 5, none⟩ = false := frozen_of_row _ _ 5 _ _ HM7.out
            clear hlt hj
            go_upto_region 28 with (fail)
            have hc : Chg [b0] w4 (wr.setCell ⟨b0, 5, none⟩ (.slice X 10 cX)) := (Chg.of_below HBW.out [b0]).setCell (p := ⟨b0, 5, none⟩) (.inl (by simp)) _
            have hc7 : Chg [b0] wr (wr.setCell ⟨b0, 5, none⟩ (.slice X 10 cX)) := (Chg.refl [b0] wr).setCell (p := ⟨b0, 5, none⟩) (.inl (by simp)) _
            obtain ⟨ar', HAR⟩ : ∃ y, Hid (List.replicate 10 (1 : Int) = y) := ⟨List.replicate 10 1, Lib.hid rfl⟩
            have hln : ar'.length = 10 := by rw [← HAR.out]; rfl
            obtain ⟨NN, hok⟩ := ok_own (wx := wr.setCell ⟨b0, 5, none⟩ (.slice X 10 cX)) HXO.out ar' (fun z hz => by rw [← HAR.out] at hz; rw [List.eq_of_mem_replicate hz]; omega) hln (by rw [← HAR.out]; exact HO.out) hc7 (by simp only [List.mem_singleton]; intro y hy; omega)
            have hset : x.cells.toArray.setIfInBounds 5 (.slice X 10 cX) = (Mm.mk ⟨x.m.a1, x.m.a2, x.m.i1, x.m.i2, x.m.me, ar'⟩ X cX).cells.toArray := by rw [← hln]; rfl
            have hbad := putE_bad (l := l) (bad4 x.m ar' (by omega))
            have hal' : ar'.length ≤ 1000000 := by omega
            have HT := Lib.hid (ErrT.of_set (x := ⟨⟨x.m.a1, x.m.a2, x.m.i1, x.m.i2, x.m.me, ar'⟩, X, cX⟩) hc (HM7.out.set hset) hok hal' HBO.out HG4.out HSZ.out hbad (by decide))
            clear hset hbad hal' hln kq5 gq5 hc7 hok hc
            generalize wr.setCell _ _ = wx at *
            (obtain ⟨d0, d1, d2, d3, d4, d5⟩ := HT.out.at_.cells; obtain ⟨K, M, hx, hm, hMK⟩ := HT.out.both; have HP := Lib.hid (put_calls K B B l _ NN wx hx HT.out.sz HT.out.ok HT.out.al); unfold PutP at HP; rw [HT.out.e] at HP; have HMO := Lib.hid hm; have HMK := Lib.hid hMK; clear hx hm hMK; simp only at d0 d1 d2 d3 d4 d5 HP; go_wp2_with fail; refine HP.out.mono ?_; rintro e w5 ⟨rfl, hx5⟩; have hl := HT.out.putl; simp only at hl; rw [hl] at hx5; have HS := Lib.hid (same_calls (R := B) B B l A4 n4 c4 w5 ⟨K, M, hx5.bx, HMO.out.same (fun y hy => hx5.k y (HMK.out.1 y hy)) hx5.b.size, HMK.out⟩); have HB5 : Hid (Below b0 w4 w5) := Lib.hid (HT.out.b.trans (hx5.b.mono (Nat.le_of_lt HG4.out))); have HS5 := Lib.hid (Nat.le_trans HT.out.sz hx5.b.size); clear hx5 hl d0 d1 d2 d3 d4 d5; go_wp2_with fail; refine HS.out.mono ?_; rintro e w6 ⟨rfl, hb6⟩; have HB6 : Hid (Below w.heap.size w w6) := Lib.hid (by have h6 := HB5.out.trans (hb6.mono (Nat.le_trans (Nat.le_of_lt HG4.out) HS5.out)); rw [← HB0.out] at h6; exact HBT4.out.trans h6); clear hb6; go_wp2_with fail; go_ret; exact ⟨rfl, HB6.out⟩)
      · have t1 : ((k : Int)).tmod 6 = 5 := by rw [Int.tmod_eq_emod_of_nonneg (by omega)]; omega
        clear hr hk8
        have HV := Lib.hid (rvalidM_calls x w4 N HXO.out)
        unfold ValB at HV
        rw [show mval x = .agg #[.int .i64 x.m.a1, .int .i64 x.m.a2, .int .i64 x.m.i1, .int .i64 x.m.i2, .string x.m.me, .slice x.a x.m.ar.length x.c] from rfl] at HV
        go_upto_region 24 with (fail)
        go_wp2_with fail
        refine HV.out.mono ?_
        rintro e w5 ⟨rfl, hb5⟩
        have HB5 := Lib.hid hb5
        cases hv : valid x.m with
        | false =>
          clear hv hb5
          go_wp2_with fail
          go_ret
          exact ⟨rfl, HBT4.out.trans (HB5.out.mono HBT4.out.size)⟩
        | true =>
          have HVX := Lib.hid hv
          clear hv
          have HM5 := Lib.hid (HM4.out.below hb5 (Nat.lt_of_lt_of_le HG4.out HSZ.out))
          have hbo5 := HBO.out.below hb5
          have HBO5 := Lib.hid hbo5
          obtain ⟨K, M, hx, ⟨A', n', c', xs, e0, hm2, hml⟩, hMK⟩ := hbo5
          cases e0
          have HX5 := Lib.hid (HXO.out.same (fun y hy => hb5.block y (Nat.lt_of_lt_of_le (Nat.lt_trans (HN4.out y hy) HG4.out) HSZ.out)))
          have HSZ5 := Lib.hid (Nat.le_trans HSZ.out hb5.size)
          have hn4 := hm2.hn
          clear d0 d1 d2 d3 d4 d5 f0 f1 f2 f3 f4 f5 hb5
          obtain ⟨d0, d1, d2, d3, d4, d5⟩ := HM5.out.cells
          have f2 := frozen_of_row _ _ 2 _ _ HM5.out
          have f3 := frozen_of_row _ _ 3 _ _ HM5.out
          by_cases hz : n4 = 0
          · clear hx hm2 hml hMK hn4
            subst hz
            go_wp2_with fail
            go_ret
            exact ⟨rfl, HBT4.out.trans (HB5.out.mono HBT4.out.size)⟩
          · have hpos : 0 < xs.length := by omega
            obtain ⟨b, off, e, hbl, x0, x1, x2, x3, x4, x5⟩ := rd6 hm2.rd 0 hpos
            subst e
            have hl0 : xs[0].m ∈ l := by rw [← hml]; exact List.mem_map_of_mem (List.getElem_mem hpos)
            have HDUP := Lib.hid (putE_dup HINV.out HVX.out hl0)
            have hok0 := hm2.ok _ (List.getElem_mem hpos)
            have hb1 := hok0.i1
            have hb2 := hok0.i2
            have HB12 := Lib.hid (And.intro hb1 hb2)
            have e1 : ((n4 : Int) == 0) = false := by simp; omega
            have e2 : decide ((n4 : Int) = 0) = false := decide_eq_false (by omega)
            have e3 : (0 : Int) < (n4 : Int) := by omega
            clear hx hm2 hml hMK hn4 hl0 hok0 hb1 hb2
            generalize xs[0] = z at *
            go_upto_region 28 with (fail)
            have hc : Chg [b0] w5 ((w5.setCell ⟨b0, 2, none⟩ (.int .i64 z.m.i1)).setCell ⟨b0, 3, none⟩ (.int .i64 z.m.i2)) := ((Chg.refl [b0] w5).setCell (p := ⟨b0, 2, none⟩) (.inl (by simp)) _).setCell (p := ⟨b0, 3, none⟩) (.inl (by simp)) _
            have HT0 := Lib.hid (ErrT.of_set (x := ⟨⟨x.m.a1, x.m.a2, z.m.i1, z.m.i2, x.m.me, x.m.ar⟩, x.a, x.c⟩) hc ((HM5.out.set (x' := ⟨⟨x.m.a1, x.m.a2, z.m.i1, x.m.i2, x.m.me, x.m.ar⟩, x.a, x.c⟩) rfl).set rfl) ((HX5.out.re ⟨x.m.a1, x.m.a2, z.m.i1, z.m.i2, x.m.me, x.m.ar⟩ rfl HX5.out.a1 HX5.out.a2 HB12.out.1 HB12.out.2 HX5.out.s).chg (fun y hy => Nat.lt_of_lt_of_le (Nat.lt_trans (HN4.out y hy) HG4.out) HSZ5.out) hc (fun y hy hm => by have h1 := HN4.out y hy; rw [List.mem_singleton.1 hm] at h1; omega)) (Nat.le_trans HAL.out (by omega)) HBO5.out HG4.out HSZ5.out HDUP.out (by decide))
            generalize (w5.setCell _ _).setCell _ _ = wx at *
            have HT := Lib.hid (HT0.out.back HB5.out HSZ.out HG4.out)
            clear x0 x1 x2 x3 x4 x5 e1 e2 HT0
            have f0 := f2
            have f1 := f2
            have f4 := f2
            have f5 := f2
            generalize z.m.i1 = zi1 at *
            generalize z.m.i2 = zi2 at *
            (clear d0 d1 d2 d3 d4 d5 f0 f1 f2 f3 f4 f5; (obtain ⟨d0, d1, d2, d3, d4, d5⟩ := HT.out.at_.cells; obtain ⟨K, M, hx, hm, hMK⟩ := HT.out.both; have HP := Lib.hid (put_calls K B B l _ N wx hx HT.out.sz HT.out.ok HT.out.al); unfold PutP at HP; rw [HT.out.e] at HP; have HMO := Lib.hid hm; have HMK := Lib.hid hMK; clear hx hm hMK; simp only at d0 d1 d2 d3 d4 d5 HP; go_wp2_with fail; refine HP.out.mono ?_; rintro e w5 ⟨rfl, hx5⟩; have hl := HT.out.putl; simp only at hl; rw [hl] at hx5; have HS := Lib.hid (same_calls (R := B) B B l (some ⟨b, off, none⟩) n4 c4 w5 ⟨K, M, hx5.bx, HMO.out.same (fun y hy => hx5.k y (HMK.out.1 y hy)) hx5.b.size, HMK.out⟩); have HB5 : Hid (Below b0 w4 w5) := Lib.hid (HT.out.b.trans (hx5.b.mono (Nat.le_of_lt HG4.out))); have HS5 := Lib.hid (Nat.le_trans HT.out.sz hx5.b.size); clear hx5 hl d0 d1 d2 d3 d4 d5; go_wp2_with fail; refine HS.out.mono ?_; rintro e w6 ⟨rfl, hb6⟩; have HB6 : Hid (Below w.heap.size w w6) := Lib.hid (by have h6 := HB5.out.trans (hb6.mono (Nat.le_trans (Nat.le_of_lt HG4.out) HS5.out)); rw [← HB0.out] at h6; exact HBT4.out.trans h6); clear hb6; go_wp2_with fail; go_ret; exact ⟨rfl, HB6.out⟩))
theorem errors_row (W : World) (A : Option Addr) (n c : Nat) (os : List Ot) (h : IsO W (List.range W.heap.size) A n c os) (x : Mm) (hx : x.ok W (List.range W.heap.size)) (how : UInt8) :
    Calls Try.prog 6 #[.slice A n c, .agg x.cells.toArray, .int .u8 (how.toNat : Int)] W fun e w' => e = .returned (.bool true) ∧ Below W.heap.size W w' := errors_calls _ A n c os x how W h hx
end Mb
end Go.Proofs.Ytddoepaplbnlcaa

/- Arguments of type Message and api.ID, opened. -/
namespace Go.Proofs.Ytddoepaplbnlcaa
open Go.ChangeShapes Go.WideShapes Go.ChangeAt Go.RowKit Go.Deep
section
variable {H : Type} {enc : TypeId × Value → H} {P : Program} {W : World} {b : Nat} {sp : Nat → Bool} {hd : Bool}
/-- a struct as an argument: its cells -/
theorem open_structN {t : TypeId} {fs : Array Field} {r : Reach} {b0 : Nat} {v : Value} {d : DataW H} {p : List MemPlace} (ht : P.underlying t = some (.struct fs)) (hv : Value.okWide P W r b0 t v) (h : DataW.Trod enc P W b sp hd t v d p) :
    ∃ cs : List Value, v = .agg cs.toArray ∧ cs.length = P.cellsOf t ∧ ∃ k y, DataW.trod enc P W b sp hd k t cs = some y := by
  have hv2 : ∃ cs, v = .agg cs ∧ cs.size = P.cellsOf t := by
    simp only [Value.okWide, ht] at hv
    obtain ⟨cs, h1, h2, _⟩ := hv
    exact ⟨cs, h1, h2⟩
  obtain ⟨⟨cs⟩, rfl, hsz⟩ := hv2
  obtain ⟨fuel, hf⟩ := h
  exact ⟨cs, rfl, hsz, fuel, _, hf⟩
end
namespace Mb
section
variable {H : Type} {enc : TypeId × Value → H} {W : World} {b : Nat} {sp : Nat → Bool} {hd : Bool}
theorem cells_msg : Try.prog.cellsOf 36 = 6 := by kernel_rfl
theorem cells_id : Try.prog.cellsOf 30 = 2 := by kernel_rfl
set_option maxRecDepth 100000 in
theorem open_msg {r : Reach} {b0 : Nat} {v : Value} {d : DataW H} {p : List MemPlace} (hv : Value.okWide Try.prog W r b0 36 v) (h : DataW.Trod enc Try.prog W b sp hd 36 v d p) :
    ∃ x : Mm, v = .agg x.cells.toArray ∧ x.ok W (List.range W.heap.size) := by
  obtain ⟨cs, rfl, hl, k, y, hf⟩ := open_structN Try.underlying36 hv h
  have hl6 : cs.length = 6 := hl.trans cells_msg
  match cs, hl6 with
  | [u0, u1, u2, u3, u4, u5], _ =>
    obtain ⟨x, e, hx⟩ := open_msgc hf
    exact ⟨x, by rw [e], hx⟩
set_option maxRecDepth 100000 in
theorem open_id {r : Reach} {b0 : Nat} {v : Value} {d : DataW H} {p : List MemPlace} (hv : Value.okWide Try.prog W r b0 30 v) (h : DataW.Trod enc Try.prog W b sp hd 30 v d p) :
    ∃ a c : Int, v = .agg #[.int .i64 a, .int .i64 c] ∧ (-9223372036854775808 ≤ a ∧ a ≤ 9223372036854775807) ∧ (-9223372036854775808 ≤ c ∧ c ≤ 9223372036854775807) := by
  obtain ⟨cs, rfl, hl, k, y, hf⟩ := open_structN Try.underlying30 hv h
  have hl2 : cs.length = 2 := hl.trans cells_id
  match cs, hl2 with
  | [u0, u1], _ =>
    obtain ⟨a, c, rfl, rfl, h1, h2⟩ := open_idc hf
    exact ⟨a, c, rfl, h1, h2⟩
end
end Mb
end Go.Proofs.Ytddoepaplbnlcaa
