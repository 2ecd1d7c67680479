/- Merged: MdJ MdL MdQ MdP. -/
import Derived.Test.YtddoepaplbnlcaaMTa
/- A message in a struct of its own; the walk of MailboxOnce's first half. -/
namespace Go.Proofs.Ytddoepaplbnlcaa
open Go.RowKit Go.Shelf
namespace Mb

theorem ins_at (l : List Msg) (m : Msg) (h : pos l m < (ins l m).length) : (ins l m)[pos l m] = m := by
  have hp := pos_le l m
  have h1 : (ins l m)[pos l m]? = some m := by
    unfold ins
    have hl : (l.take (pos l m)).length = pos l m := by rw [List.length_take]; omega
    rw [List.getElem?_append_right (by omega), hl, Nat.sub_self]; rfl
  rw [List.getElem?_eq_getElem h] at h1
  injection h1
theorem find_ins {l : List Msg} {m : Msg} (hi : Inv l) (h0 : putE l m = 0) : find (ins l m) (key m.a1 m.a2 m.i1 m.i2) = some (pos l m) := by
  have hp := hi.put m
  unfold putL at hp
  rw [if_pos h0] at hp
  have hlt : pos l m < (ins l m).length := by rw [ins_length]; have := pos_le l m; omega
  have h := find_at hp _ hlt
  rw [ins_at l m hlt] at h
  exact h
theorem take_ins {l : List Msg} {m : Msg} (hi : Inv l) (h0 : putE l m = 0) : takeL (ins l m) (key m.a1 m.a2 m.i1 m.i2) = l := by
  have hp := pos_le l m
  have hl : (l.take (pos l m)).length = pos l m := by rw [List.length_take]; omega
  unfold takeL
  rw [find_ins hi h0]
  show (ins l m).take (pos l m) ++ (ins l m).drop (pos l m + 1) = l
  unfold ins
  generalize hq : pos l m = p at *
  have e1 : (l.take p ++ m :: l.drop p).take p = l.take p := List.take_left' hl
  have e2 : (l.take p ++ m :: l.drop p).drop (p + 1) = l.drop p := by
    rw [show l.take p ++ m :: l.drop p = (l.take p ++ [m]) ++ l.drop p by simp]
    exact List.drop_left' (by simp; omega)
  rw [e1, e2, List.take_append_drop]
theorem find_out {l : List Msg} {m : Msg} (h0 : putE l m = 0) : find l (key m.a1 m.a2 m.i1 m.i2) = none := by
  cases hf : find l (key m.a1 m.a2 m.i1 m.i2) with
  | none => rfl
  | some i =>
    obtain ⟨hil, _, _, h3, h4⟩ := find_some hf
    exact absurd ⟨h3, h4⟩ ((putE_zero h0).2.1 _ (List.getElem_mem hil))
theorem once_find {l : List Msg} {m : Msg} {w w' : World} {e : Ending} (hi : Inv l) (h0 : putE l m = 0) (h : FindP (ins l m) (key m.a1 m.a2 m.i1 m.i2) w e w') :
    ∃ X c, e = .returned (.tuple #[.string m.me, .slice X m.ar.length c, .bool true]) ∧ Rd w' X (m.ar.map (Value.int .i64)) ∧ Below w.heap.size w w' := by
  obtain ⟨hb, h⟩ := h
  rw [find_ins hi h0] at h
  obtain ⟨_, X, c, h1, h2⟩ := h
  simp only [ins_at] at h1 h2
  exact ⟨X, c, h1, h2, hb⟩
theorem once_lost {l : List Msg} {m : Msg} {w w' : World} {e : Ending} (h0 : putE l m = 0) (h : FindP l (key m.a1 m.a2 m.i1 m.i2) w e w') :
    e = .returned (.tuple #[.string ⟨#[]⟩, .slice none 0 0, .bool false]) ∧ Below w.heap.size w w' := by
  obtain ⟨hb, h⟩ := h
  rw [find_out h0] at h
  exact ⟨h, hb⟩
theorem once_take {K : List Nat} {B g : Nat} {l : List Msg} {m : Msg} {w w' : World} {e : Ending} (hi : Inv l) (h0 : putE l m = 0) (h : TakeP K B g (ins l m) (key m.a1 m.a2 m.i1 m.i2) w e w') :
    ∃ X c, e = .returned (.tuple #[.slice X m.ar.length c, .int .i64 0]) ∧ Rd w' X (m.ar.map (Value.int .i64)) ∧ BxW K B g l w w' := by
  obtain ⟨hb, h⟩ := h
  rw [find_ins hi h0] at h
  rw [take_ins hi h0] at hb
  obtain ⟨_, X, c, h1, h2⟩ := h
  simp only [ins_at] at h1 h2
  exact ⟨X, c, h1, h2, hb⟩
theorem once_gone {K : List Nat} {B g : Nat} {l : List Msg} {m : Msg} {w w' : World} {e : Ending} (h0 : putE l m = 0) (h : TakeP K B g l (key m.a1 m.a2 m.i1 m.i2) w e w') :
    e = .returned (.tuple #[.slice none 0 0, .int .i64 6]) ∧ Below w.heap.size w w' := by
  obtain ⟨_, h⟩ := h
  rw [find_out h0] at h
  exact h
/-- a message lies in a block -/
def MsgAt (g : Nat) (x : Mm) (w : World) : Prop := w.heap[g]? = some (.cells x.cells.toArray 36 (0, 0))
theorem MsgAt.below {g B : Nat} {x : Mm} {w w' : World} (h : MsgAt g x w) (hb : Below B w w') (hg : g < B) : MsgAt g x w' := (hb.block g hg).trans h
theorem MsgAt.cells {g : Nat} {x : Mm} {w : World} (h : MsgAt g x w) : w.cell? ⟨g, 0, none⟩ = some (.int .i64 x.m.a1) ∧ w.cell? ⟨g, 1, none⟩ = some (.int .i64 x.m.a2) ∧ w.cell? ⟨g, 2, none⟩ = some (.int .i64 x.m.i1) ∧ w.cell? ⟨g, 3, none⟩ = some (.int .i64 x.m.i2) ∧ w.cell? ⟨g, 4, none⟩ = some (.string x.m.me) ∧ w.cell? ⟨g, 5, none⟩ = some (.slice x.a x.m.ar.length x.c) :=
  ⟨(cell_of_row _ _ 0 _ _ _ h).trans rfl, (cell_of_row _ _ 1 _ _ _ h).trans rfl, (cell_of_row _ _ 2 _ _ _ h).trans rfl, (cell_of_row _ _ 3 _ _ _ h).trans rfl, (cell_of_row _ _ 4 _ _ _ h).trans rfl, (cell_of_row _ _ 5 _ _ _ h).trans rfl⟩
theorem Mm.ok.chg {N S : List Nat} {x : Mm} {w w' : World} (h : x.ok w N) (hN : ∀ y ∈ N, y < w.heap.size) (hc : Chg S w w') (hS : ∀ y ∈ N, y ∉ S) : x.ok w' N := h.same fun y hy => hc.block y (hN y hy) (hS y hy)
/-- blocks below the box's base are written -/
theorem Bx.chg {K S : List Nat} {B g : Nat} {l : List Msg} {w w' : World} (h : Bx K B g l w) (hc : Chg S w w') (hS : ∀ x ∈ S, x < B) : Bx K B g l w' := by
  obtain ⟨N, A, n, c, xs, h1, h2, h3, h4⟩ := h
  have ne : ∀ y, B ≤ y → y ∉ S := fun y hy hm => by have := hS y hm; omega
  refine ⟨N, A, n, c, xs, ⟨(hc.block _ h1.lt (ne _ h1.gB)).trans h1.hd, h1.gB, ⟨h1.ow.1, h1.ow.2.imp id fun ⟨b, cap, cur, e1, e2, e3, e4⟩ => ⟨b, cap, cur, e1, e2, (hc.block b (Array.getElem?_eq_some_iff.1 e3).1 (ne b e2)).trans e3, e4⟩⟩, h1.hn, fun x hx => (h1.ok x hx).chg (fun y hy => (h1.nn y hy).1) hc (fun y hy => ne y (h1.nb y hy)), fun y hy => ⟨Nat.lt_of_lt_of_le (h1.nn y hy).1 hc.size, (h1.nn y hy).2⟩, h1.nb⟩, h2, h3, fun y hy => ⟨Nat.lt_of_lt_of_le (h4 y hy).1 hc.size, (h4 y hy).2⟩⟩
theorem Both.chg {S : List Nat} {R B g : Nat} {l : List Msg} {v : Value} {w w' : World} (h : Both R B g l v w) (hc : Chg S w w') (hS : ∀ x ∈ S, x < R) : Both R B g l v w' := by
  obtain ⟨K, M, h1, h2, h3, h4, h5⟩ := h
  exact ⟨K, M, h1.chg hc (fun x hx => Nat.lt_of_lt_of_le (hS x hx) h4), h2.same (fun y hy => hc.block y (h2.lt y hy) (fun hm => by have := hS y hm; have := h5 y hy; omega)) hc.size, h3, h4, h5⟩
theorem one_op {x : Mm} {N : List Nat} {w : World} (h : x.ok w N) (hN : ∀ y ∈ N, y < w.heap.size) :
    IsO (w.alloc (.cells #[.int .u8 0, .int .i64 x.m.a1, .int .i64 x.m.a2, .int .i64 x.m.i1, .int .i64 x.m.i2, .string x.m.me, .slice x.a x.m.ar.length x.c] 41)) N (some ⟨w.heap.size, 0, none⟩) 1 1 [⟨0, x⟩] :=
  ⟨Rd.new w (cells7 [⟨0, x⟩]) _ (0, 0), rfl, by omega, by simp [maxLen], fun o ho => by rw [List.mem_singleton.1 ho]; exact h.same (Same.of_below hN (below1 w _)), fun y hy => Nat.lt_of_lt_of_le (hN y hy) (below1 w _).size⟩
end Mb
end Go.Proofs.Ytddoepaplbnlcaa

/- The actors of a box: plain mathematics. -/
namespace Go.Proofs.Ytddoepaplbnlcaa
namespace Mb

def lt2 (a b : Int × Int) : Prop := a.1 < b.1 ∨ a.1 = b.1 ∧ a.2 < b.2
def le2 (a b : Int × Int) : Prop := lt2 a b ∨ a = b
theorem mem_dedup (L : List (Int × Int)) (a : Int × Int) : a ∈ dedup L ↔ a ∈ L := by
  fun_induction dedup L with
  | case1 => exact Iff.rfl
  | case2 => exact Iff.rfl
  | case3 x l ih => rw [ih]; simp
  | case4 x y l h ih => rw [List.mem_cons, ih]; exact List.mem_cons.symm
theorem dedup_sorted (L : List (Int × Int)) (h : L.Pairwise le2) : (dedup L).Pairwise lt2 := by
  fun_induction dedup L with
  | case1 => exact .nil
  | case2 x => exact List.pairwise_singleton _ _
  | case3 x l ih => exact ih (List.pairwise_cons.1 h).2
  | case4 x y l hn ih =>
    obtain ⟨h1, h2⟩ := List.pairwise_cons.1 h
    have hxy : lt2 x y := (h1 y (.head _)).resolve_right hn
    refine List.pairwise_cons.2 ⟨fun z hz => ?_, ih h2⟩
    rcases List.mem_cons.1 ((mem_dedup _ _).1 hz) with rfl | hz
    · exact hxy
    · rcases (List.pairwise_cons.1 h2).1 z hz with h3 | rfl
      · unfold lt2 at *; omega
      · exact hxy
theorem actors_sorted {l : List Msg} (h : Inv l) : (actorsL l).Pairwise lt2 := by
  refine dedup_sorted _ (List.pairwise_map.2 (h.s.imp fun {x y} hl => ?_))
  unfold Lt at hl
  unfold le2 lt2
  simp only [Prod.mk.injEq]
  omega
theorem mem_actors {l : List Msg} {a : Int × Int} : a ∈ actorsL l ↔ ∃ x ∈ l, (x.a1, x.a2) = a := by
  unfold actorsL; rw [mem_dedup, List.mem_map]
theorem isA_iff {x : Msg} {a : Int × Int} : isA a.1 a.2 x = true ↔ (x.a1, x.a2) = a := by
  obtain ⟨a1, a2⟩ := a
  simp [isA]
theorem of_pos {l : List Msg} {a : Int × Int} : 0 < (ofL l a.1 a.2).length ↔ ∃ x ∈ l, (x.a1, x.a2) = a := by
  unfold ofL
  rw [List.length_map, List.length_pos_iff_exists_mem]
  constructor
  · rintro ⟨x, hx⟩
    obtain ⟨h1, h2⟩ := List.mem_filter.1 hx
    exact ⟨x, h1, isA_iff.1 h2⟩
  · rintro ⟨x, h1, h2⟩
    exact ⟨x, List.mem_filter.2 ⟨h1, isA_iff.2 h2⟩⟩
theorem of_sorted {l : List Msg} (h : Inv l) (a : Int × Int) : (ofL l a.1 a.2).Pairwise lt2 := by
  unfold ofL
  refine List.pairwise_map.2 (List.Pairwise.imp_of_mem (fun {x y} hx hy hl => ?_) (h.s.filter _))
  have e1 := isA_iff.1 (List.mem_filter.1 hx).2
  have e2 := isA_iff.1 (List.mem_filter.1 hy).2
  have e := e1.trans e2.symm
  simp only [Prod.mk.injEq] at e
  unfold Lt at hl
  unfold lt2
  simp only
  omega
theorem of_find {l : List Msg} {a : Int × Int} {i : Int × Int} (hi : i ∈ ofL l a.1 a.2) : ∃ k, find l (key a.1 a.2 i.1 i.2) = some k := by
  unfold ofL at hi
  obtain ⟨x, hx, rfl⟩ := List.mem_map.1 hi
  obtain ⟨h1, h2⟩ := List.mem_filter.1 hx
  have e := isA_iff.1 h2
  cases hf : find l (key a.1 a.2 x.i1 x.i2) with
  | some k => exact ⟨k, rfl⟩
  | none => exact absurd (show Eq4 x (key a.1 a.2 x.i1 x.i2) from ⟨congrArg Prod.fst e, congrArg Prod.snd e, rfl, rfl⟩) (find_none hf x h1)
/-- how many messages these actors have -/
def cntL (l : List Msg) (L : List (Int × Int)) : Nat := (L.map fun a => (ofL l a.1 a.2).length).sum
theorem cntL_append (l : List Msg) (L L' : List (Int × Int)) : cntL l (L ++ L') = cntL l L + cntL l L' := by
  unfold cntL; rw [List.map_append, List.sum_append]
theorem cntL_one (l : List Msg) (a : Int × Int) : cntL l [a] = (ofL l a.1 a.2).length := by simp [cntL]
theorem cntL_cons (x : Msg) (l : List Msg) (L : List (Int × Int)) : cntL (x :: l) L = (L.filter fun a => decide ((x.a1, x.a2) = a)).length + cntL l L := by
  induction L with
  | nil => rfl
  | cons a L ih =>
    have h1 : cntL (x :: l) (a :: L) = (ofL (x :: l) a.1 a.2).length + cntL (x :: l) L := by simp [cntL]
    have h2 : cntL l (a :: L) = (ofL l a.1 a.2).length + cntL l L := by simp [cntL]
    rw [h1, h2, ih]
    by_cases he : (x.a1, x.a2) = a
    · rw [List.filter_cons_of_pos (by simpa using he)]
      have h3 : (ofL (x :: l) a.1 a.2).length = (ofL l a.1 a.2).length + 1 := by unfold ofL; rw [List.filter_cons_of_pos (isA_iff.2 he)]; simp
      rw [h3, List.length_cons]; omega
    · rw [List.filter_cons_of_neg (by simpa using he)]
      have h3 : (ofL (x :: l) a.1 a.2).length = (ofL l a.1 a.2).length := by unfold ofL; rw [List.filter_cons_of_neg (fun h => he (isA_iff.1 h))]
      rw [h3]; omega
theorem one_of {L : List (Int × Int)} (h : L.Pairwise lt2) {y : Int × Int} (hy : y ∈ L) : (L.filter fun a => decide (y = a)).length = 1 := by
  induction L with
  | nil => cases hy
  | cons a L ih =>
    obtain ⟨h1, h2⟩ := List.pairwise_cons.1 h
    by_cases he : y = a
    · rw [List.filter_cons_of_pos (by simpa using he), List.length_cons]
      have : L.filter (fun b => decide (y = b)) = [] := List.filter_eq_nil_iff.2 (fun b hb => by
        have hl := h1 b hb
        rw [decide_eq_true_eq]
        rintro rfl
        subst he
        unfold lt2 at hl
        omega)
      rw [this]; rfl
    · rw [List.filter_cons_of_neg (by simpa using he)]
      exact ih h2 ((List.mem_cons.1 hy).resolve_left he)
theorem cnt_cover (l : List Msg) (L : List (Int × Int)) (h : L.Pairwise lt2) (hc : ∀ x ∈ l, (x.a1, x.a2) ∈ L) : cntL l L = l.length := by
  induction l with
  | nil =>
    clear hc
    induction L with
    | nil => rfl
    | cons a L ih =>
      have h1 : cntL [] (a :: L) = cntL [] L := by simp [cntL, ofL]
      rw [h1]; exact ih (List.pairwise_cons.1 h).2
  | cons x l ih => rw [cntL_cons, one_of h (hc x (.head _)), ih (fun y hy => hc y (.tail _ hy)), List.length_cons]; omega
theorem cnt_all {l : List Msg} (h : Inv l) : cntL l (actorsL l) = l.length := cnt_cover l _ (actors_sorted h) fun x hx => mem_actors.2 ⟨x, hx, rfl⟩
theorem cnt_le {l : List Msg} (h : Inv l) (k : Nat) : cntL l ((actorsL l).take k) ≤ l.length := by
  have h1 := cntL_append l ((actorsL l).take k) ((actorsL l).drop k)
  rw [List.take_append_drop, cnt_all h] at h1
  omega
theorem cnt_succ (l : List Msg) (L : List (Int × Int)) (k : Nat) (hk : k < L.length) : cntL l (L.take (k + 1)) = cntL l (L.take k) + (ofL l L[k].1 L[k].2).length := by
  rw [List.take_succ_eq_append_getElem hk, cntL_append, cntL_one]
def inL (L : List (Int × Int)) (a : Int × Int) : Bool := L.any fun b => decide (b = a)
theorem in_succ (L : List (Int × Int)) (a : Int × Int) (k : Nat) (hk : k < L.length) : inL (L.take (k + 1)) a = (inL (L.take k) a || decide (L[k] = a)) := by
  unfold inL; rw [List.take_succ_eq_append_getElem hk, List.any_append]; simp
theorem in_all (l : List Msg) (a : Int × Int) : inL (actorsL l) a = decide (0 < (ofL l a.1 a.2).length) := by
  rw [Bool.eq_iff_iff, decide_eq_true_eq, of_pos]
  unfold inL
  rw [List.any_eq_true]
  constructor
  · rintro ⟨b, hb, he⟩
    obtain ⟨x, hx, h2⟩ := mem_actors.1 hb
    exact ⟨x, hx, h2.trans (by simpa using he)⟩
  · rintro ⟨x, hx, he⟩
    exact ⟨_, mem_actors.2 ⟨x, hx, rfl⟩, by simpa using he⟩
theorem actors_len {l : List Msg} : (actorsL l).length ≤ l.length := by
  unfold actorsL
  have h : ∀ L : List (Int × Int), (dedup L).length ≤ L.length := fun L => by
    fun_induction dedup L with
    | case1 => exact Nat.le_refl _
    | case2 => exact Nat.le_refl _
    | case3 x l ih => exact Nat.le_trans ih (by simp)
    | case4 x y l h ih => rw [List.length_cons, List.length_cons]; omega
  exact Nat.le_trans (h _) (by simp)
end Mb
end Go.Proofs.Ytddoepaplbnlcaa

/- The walk of MailboxActors. -/
namespace Go.Proofs.Ytddoepaplbnlcaa
open Go.RowKit Go.Shelf
namespace Mb

theorem cmp_lt2 {a b : Int × Int} (h : lt2 a b) : cmpID a.1 a.2 b.1 b.2 = -1 := by
  unfold lt2 at h
  rcases cmpID_cases a.1 a.2 b.1 b.2 with ⟨_, e⟩ | ⟨h2, _⟩ | ⟨h2, _⟩
  · exact e
  · omega
  · omega
theorem compare_lt2 {a b : Int × Int} (h : lt2 a b) (w w' : World) (hb : Below w.heap.size w w') : Calls Try.prog 25 #[.agg #[.int .i64 a.1, .int .i64 a.2], .agg #[.int .i64 b.1, .int .i64 b.2]] w' fun e w'' => e = .returned (.int .i64 (-1)) ∧ Below w.heap.size w w'' :=
  (rcompare_calls a.1 a.2 b.1 b.2 w').mono fun e w'' h2 => ⟨by rw [h2.1, cmp_lt2 h], hb.trans (h2.2.mono hb.size)⟩
theorem find_in {K : List Nat} {B g : Nat} {l : List Msg} {a i : Int × Int} {w : World} (hx : Bx K B g l w) (hi : i ∈ ofL l a.1 a.2) (w' : World) (hb : Below w.heap.size w w') :
    Calls Try.prog 18 #[.pointer (some ⟨g, 0, none⟩), .agg #[.int .i64 a.1, .int .i64 a.2], .agg #[.int .i64 i.1, .int .i64 i.2]] w' fun e w'' => ∃ s X m c, e = .returned (.tuple #[.string s, .slice X m c, .bool true]) ∧ Below w.heap.size w w'' := by
  obtain ⟨q, hq⟩ := of_find hi
  refine (find_calls K B g l a.1 a.2 i.1 i.2 w' (hx.below hb)).mono ?_
  rintro e w'' ⟨hb2, h2⟩
  rw [hq] at h2
  obtain ⟨_, X, c, h3, _⟩ := h2
  exact ⟨_, X, _, c, h3, hb.trans (hb2.mono hb.size)⟩
set_option maxRecDepth 100000 in
set_option maxHeartbeats 4000000 in
theorem actorsLaw_calls (N : List Nat) (A : Option Addr) (n c : Nat) (os : List Ot) (act : Int × Int) (w : World) (h : IsO w N A n c os) :
    Calls Try.prog 7 #[.slice A n c, .agg #[.int .i64 act.1, .int .i64 act.2]] w fun e w' => e = .returned (.bool true) ∧ Below w.heap.size w w' := by
  have HO0 := Lib.hid h
  have hb0 := below1 w (.cells #[.int .i64 act.1, .int .i64 act.2] 30)
  have hk0 := heap_alloc_new w (.cells #[.int .i64 act.1, .int .i64 act.2] 30)
  clear h
  go_enter Try.func7, Try.ntmps7
  go_upto_region 1 with (fail)
  generalize w.alloc _ = w0 at *
  have HB0 := Lib.hid hb0
  have HO := Lib.hid (HO0.out.below hb0)
  have HK0 := Lib.hid hk0
  have HA := Lib.hid (awake_calls w0)
  clear hb0 hk0 HO0
  go_wp2_with fail
  refine HA.out.mono ?_
  rintro e w1 ⟨rfl, hb1⟩
  have HB1 := Lib.hid hb1
  have HWI := Lib.hid (wide_calls N A n c os w1 (HO.out.below hb1))
  clear hb1 HA
  go_wp2_with fail
  refine HWI.out.mono ?_
  rintro e w2 ⟨rfl, hb2⟩
  have hb2' := HB1.out.trans (hb2.mono HB1.out.size)
  have HO2 := Lib.hid (HO.out.below hb2')
  have HB2 := Lib.hid hb2'
  have HBT2 := Lib.hid (HB0.out.trans (hb2'.mono HB0.out.size))
  clear hb2 hb2' HWI
  cases hwd : wideB os with
  | true =>
    clear hwd
    go_wp2_with fail
    go_ret
    exact ⟨rfl, HBT2.out⟩
  | false =>
    have HR := Lib.hid (run_calls N A n c os w2 HO2.out (fun o ho => ((wideB_false hwd).2 o ho).2))
    clear hwd
    go_wp2_with fail
    refine HR.out.mono ?_
    rintro e w3 ⟨A3, n3, c3, rfl, hbo, hb3⟩
    have HB3 := Lib.hid (HBT2.out.trans (hb3.mono HBT2.out.size))
    have hk3 : w3.heap[w.heap.size]? = _ := (hb3.block _ (Nat.lt_of_lt_of_le (Array.getElem?_eq_some_iff.1 HK0.out).1 HB2.out.size)).trans ((HB2.out.block _ (Array.getElem?_eq_some_iff.1 HK0.out).1).trans HK0.out)
    have hi := hbo.inv
    obtain ⟨l, HLL⟩ : ∃ x, Hid (runL os = x) := ⟨_, rfl⟩
    obtain ⟨K, M, hx, _⟩ := hbo
    obtain ⟨B, HB⟩ : ∃ x, Hid (w2.heap.size = x) := ⟨_, rfl⟩
    rw [HLL.out] at hx hi
    rw [HB.out] at hx ⊢
    have HX := Lib.hid hx
    have HI := Lib.hid hi
    have HK3 := Lib.hid hk3
    have HA := Lib.hid (actors_calls K B B l w3 hx)
    have hl1 : l.length ≤ 1024 := hi.n
    have hact : (actorsL l).length ≤ l.length := actors_len
    obtain ⟨L, HAL⟩ : ∃ x, Hid (actorsL l = x) := ⟨_, rfl⟩
    unfold NewI at HA
    rw [HAL.out] at HA hact
    obtain ⟨na, HNA⟩ : ∃ x, Hid (L.length = x) := ⟨_, rfl⟩
    rw [HNA.out] at HA hact
    clear hb3 HR hx hi hk3 HLL HO2 HB1 HB2 HBT2 HK0 HO HB0
    go_upto_region 10 with (fail)
    go_wp2_with fail
    refine HA.out.mono ?_
    rintro e w5 ⟨X1, c1, rfl, ho1, hb5⟩
    obtain ⟨r1, z1⟩ := rd_of_own ho1
    have HR1 := Lib.hid r1
    have HB5 := Lib.hid (HB3.out.trans (hb5.mono HB3.out.size))
    have HX5 := Lib.hid (HX.out.below hb5)
    have HK5 := Lib.hid ((hb5.block _ (Array.getElem?_eq_some_iff.1 HK3.out).1).trans HK3.out)
    have HSO := Lib.hid (actors_sorted HI.out)
    have HCL := Lib.hid (cnt_le HI.out)
    have HCA := Lib.hid (cnt_all HI.out)
    have HIA := Lib.hid (in_all l act)
    rw [HAL.out] at HSO HCL HCA HIA
    clear ho1 hb5 r1 HA HX HK3
    go_upto_region 11 with (fail)
    go_wp2_with fail
    go_loopw [8, 9, 11] (fun nv iv i wr => ∃ k : Nat, k ≤ na ∧ i = .int .i64 k ∧ nv = .int .i64 (cntL l (L.take k) : Nat) ∧ iv = .bool (inL (L.take k) act) ∧ Below w5.heap.size w5 wr) (fun _ _ i _ => na - (intOf i).toNat)
    case atStart => exact ⟨0, by omega, rfl, rfl, rfl, Below.refl _ _⟩
    case round =>
      obtain ⟨k, hk, rfl, rfl, rfl, hbw⟩ := hrel
      have HBW := Lib.hid hbw
      clear hbw
      have j0 : (0 : Int) ≤ (k : Int) := by omega
      obtain ⟨cn, HCN⟩ : ∃ x, Hid (cntL l (L.take k) = x) := ⟨_, rfl⟩
      obtain ⟨ib, HIB⟩ : ∃ x, Hid (inL (L.take k) act = x) := ⟨_, rfl⟩
      rw [HCN.out, HIB.out]
      by_cases hlt : k < na
      · have j1 : (k : Int) < (na : Int) := by omega
        have hkL : k < L.length := by rw [HNA.out]; exact hlt
        obtain ⟨b, off, e, hbl, x0, x1⟩ := rd2 (HR1.out.below HBW.out) k hkL
        subst e
        have HXW := Lib.hid (HX5.out.below HBW.out)
        have HOF := Lib.hid (of_calls K B B l L[k].1 L[k].2 wr HXW.out)
        obtain ⟨D, HD⟩ : ∃ x, Hid (ofL l L[k].1 L[k].2 = x) := ⟨ofL l L[k].1 L[k].2, Lib.hid rfl⟩
        obtain ⟨nd, HND⟩ : ∃ x, Hid (D.length = x) := ⟨_, rfl⟩
        have hnd0 : 0 < nd := by
          rw [← HND.out, ← HD.out]
          exact of_pos.2 (mem_actors.1 (by rw [HAL.out]; exact List.getElem_mem hkL))
        have hcs := cnt_succ l L k hkL
        have HIS := Lib.hid (in_succ L act k hkL)
        rw [HD.out, HND.out, HCN.out] at hcs
        have hcl := HCL.out (k + 1)
        rw [hcs] at hcl
        rw [HIB.out] at HIS
        have HCS := Lib.hid hcs
        have HDS := Lib.hid (of_sorted HI.out L[k])
        rw [HD.out] at HDS
        have HFI : Hid (∀ i ∈ D, ∀ w6 w', Bx K B B l w6 → Below w6.heap.size w6 w' → Calls Try.prog 18 #[.pointer (some ⟨B, 0, none⟩), .agg #[.int .i64 L[k].1, .int .i64 L[k].2], .agg #[.int .i64 i.1, .int .i64 i.2]] w' fun e w'' => ∃ s X m c, e = .returned (.tuple #[.string s, .slice X m c, .bool true]) ∧ Below w6.heap.size w6 w'') := Lib.hid (fun i hi w6 w' hx6 hb => find_in hx6 (by rw [HD.out]; exact hi) w' hb)
        have HPR : Hid (∀ p (hp : p < L.length), p + 1 = k → lt2 L[p] L[k]) := Lib.hid (fun p hp hpk => List.pairwise_iff_getElem.1 HSO.out p k hp hkL (by omega))
        have HXC : Hid (∀ p (hp : p < L.length), wr.cell? ⟨b, off + p * 2, none⟩ = some (.int .i64 L[p].1) ∧ wr.cell? ⟨b, off + p * 2 + 1, none⟩ = some (.int .i64 L[p].2)) := Lib.hid (fun p hp => by
          obtain ⟨b', off', e', _, h⟩ := rd2 (HR1.out.below HBW.out) p hp
          cases e'
          exact h)
        unfold NewI at HOF
        rw [HD.out, HND.out] at HOF
        clear hcs HD
        go_upto_region 14 with (fail)
        go_wp2_with fail
        refine HOF.out.mono ?_
        rintro e w6 ⟨X6, c6, rfl, ho6, hb6⟩
        obtain ⟨r6, z6⟩ := rd_of_own ho6
        have HR6 := Lib.hid r6
        have HB6 := Lib.hid (HBW.out.trans (hb6.mono HBW.out.size))
        have HX6 := Lib.hid (HXW.out.below hb6)
        have hbl6 := Nat.lt_of_lt_of_le hbl hb6.size
        have HXC6 : Hid (∀ p (hp : p < L.length), w6.cell? ⟨b, off + p * 2, none⟩ = some (.int .i64 L[p].1) ∧ w6.cell? ⟨b, off + p * 2 + 1, none⟩ = some (.int .i64 L[p].2)) := Lib.hid (fun p hp => ⟨(hb6.cell (p := ⟨b, off + p * 2, none⟩) hbl).trans (HXC.out p hp).1, (hb6.cell (p := ⟨b, off + p * 2 + 1, none⟩) hbl).trans (HXC.out p hp).2⟩)
        clear ho6 hb6 r6 x0 x1 HOF HXW HXC
        have q0 : ((nd : Int) == 0) = false := by simp; omega
        have q1 : decide ((nd : Int) = 0) = false := decide_eq_false (by omega)
        go_upto_region 15 with (fail)
        go_cut [62] (fun v wx => v = .bool false ∧ Below w6.heap.size w6 wx)
        case first =>
          by_cases hk0 : k = 0
          · have d0 : decide ((0 : Int) < (k : Int)) = false := decide_eq_false (by omega)
            have d1 : decide (0 < k) = false := decide_eq_false (by omega)
            clear hk0
            go_quiet (fail)
            have HBQ := Lib.hid (blw_drewN (Below.refl w6.heap.size w6) nq)
            go_wp2_with fail
            go_meet
            exact ⟨rfl, HBQ.out⟩
          · obtain ⟨p, hpj⟩ : ∃ p, p + 1 = k := ⟨k - 1, by omega⟩
            have hpL : p < L.length := by omega
            have d0 : decide ((0 : Int) < (k : Int)) = true := decide_eq_true (by omega)
            have d1 : decide (0 < k) = true := decide_eq_true (by omega)
            have hsub : (k : Int) - 1 = (p : Int) := by omega
            have hw1 : IntKind.i64.wrap ((k : Int) - 1) = (p : Int) := by rw [hsub]; exact IntWalk.i64_in _ (by omega)
            have hw2 : IntKind.i64.wrap (p : Int) = (p : Int) := IntWalk.i64_in _ (by omega)
            have p0 : (0 : Int) ≤ (p : Int) := by omega
            have p1 : (p : Int) < (na : Int) := by omega
            have HCP := Lib.hid (fun w' hb => compare_lt2 (HPR.out p hpL hpj) w6 w' hb)
            obtain ⟨g0, g1⟩ := HXC6.out p hpL
            obtain ⟨x0, x1⟩ := HXC6.out k hkL
            generalize L[p] = y at *
            generalize L[k] = z at *
            have m0 : ∀ w', Below w6.heap.size w6 w' → w'.cell? ⟨b, off + k * 2, none⟩ = some (.int .i64 z.1) := fun w' h => (h.cell (p := ⟨b, off + k * 2, none⟩) hbl6).trans x0
            have m1 : ∀ w', Below w6.heap.size w6 w' → w'.cell? ⟨b, off + k * 2 + 1, none⟩ = some (.int .i64 z.2) := fun w' h => (h.cell (p := ⟨b, off + k * 2 + 1, none⟩) hbl6).trans x1
            have r0 : ∀ w', Below w6.heap.size w6 w' → w'.cell? ⟨b, off + p * 2, none⟩ = some (.int .i64 y.1) := fun w' h => (h.cell (p := ⟨b, off + p * 2, none⟩) hbl6).trans g0
            have r1 : ∀ w', Below w6.heap.size w6 w' → w'.cell? ⟨b, off + p * 2 + 1, none⟩ = some (.int .i64 y.2) := fun w' h => (h.cell (p := ⟨b, off + p * 2 + 1, none⟩) hbl6).trans g1
            clear x0 x1 g0 g1 hk0 hpj
            go_region_held3 (fun w' => Below w6.heap.size w6 w') (first | exact (Below.refl _ _).drew | assumption) (first | (go_at_call 25; refine (HCP.out _ (by assumption)).mono ?_; rintro e wb ⟨rfl, hcb⟩))
            have HBQ := Lib.hid (by assumption : Below w6.heap.size w6 _)
            clear m0 m1 r0 r1 d0 d1 hsub hw1 hw2
            go_wp2_with fail
            go_meet
            exact ⟨rfl, HBQ.out⟩
        case rest =>
          rename World => w7
          obtain ⟨rfl, hb7⟩ := hcut
          have HB7 := Lib.hid hb7
          obtain ⟨v0, v1⟩ := HXC6.out k hkL
          have y0 := (hb7.cell (p := ⟨b, off + k * 2, none⟩) hbl6).trans v0
          have y1 := (hb7.cell (p := ⟨b, off + k * 2 + 1, none⟩) hbl6).trans v1
          have Y01 := Lib.hid (And.intro y0 y1)
          have hbl7 := Nat.lt_of_lt_of_le hbl6 hb7.size
          have HX7 := Lib.hid (HX6.out.below hb7)
          have HR7 := Lib.hid (HR6.out.below hb7)
          have HC7 := Lib.hid (HB6.out.trans (hb7.mono HB6.out.size))
          clear hb7 q0 q1 v0 v1 y0 y1 HPR HXC6 HX6 HR6 HB6
          generalize L[k] = z at *
          go_wp2_with fail
          go_loopw [13] (fun i wr => ∃ j : Nat, j ≤ nd ∧ i = .int .i64 j ∧ Below w7.heap.size w7 wr) (fun i _ => nd - (intOf i).toNat)
          case atStart => exact ⟨0, by omega, rfl, Below.refl _ _⟩
          case round =>
            obtain ⟨j, hj, rfl, hbi⟩ := hrel
            have HBI := Lib.hid hbi
            clear hbi
            have i0 : (0 : Int) ≤ (j : Int) := by omega
            by_cases hlj : j < nd
            · have i1 : (j : Int) < (nd : Int) := by omega
              have hjD : j < D.length := by rw [HND.out]; exact hlj
              have HRW := Lib.hid (HR7.out.below HBI.out)
              have HXW := Lib.hid (HX7.out.below HBI.out)
              obtain ⟨b2, off2, e2, hbl2, x0, x1⟩ := rd2 HRW.out j hjD
              subst e2
              have hblw := Nat.lt_of_lt_of_le hbl7 HBI.out.size
              have u0 := (HBI.out.cell (p := ⟨b, off + k * 2, none⟩) hbl7).trans Y01.out.1
              have u1 := (HBI.out.cell (p := ⟨b, off + k * 2 + 1, none⟩) hbl7).trans Y01.out.2
              have HF := Lib.hid (HFI.out D[j] (List.getElem_mem hjD) wr · HXW.out)
              have HPR : Hid (∀ p (hp : p < D.length), p + 1 = j → lt2 D[p] D[j]) := Lib.hid (fun p hp hpk => List.pairwise_iff_getElem.1 HDS.out p j hp hjD (by omega))
              have HXD : Hid (∀ p (hp : p < D.length), wr.cell? ⟨b2, off2 + p * 2, none⟩ = some (.int .i64 D[p].1) ∧ wr.cell? ⟨b2, off2 + p * 2 + 1, none⟩ = some (.int .i64 D[p].2)) := Lib.hid (fun p hp => by
                obtain ⟨b', off', e', _, h⟩ := rd2 HRW.out p hp
                cases e'
                exact h)
              have m0 : ∀ w', Below wr.heap.size wr w' → w'.cell? ⟨b, off + k * 2, none⟩ = some (.int .i64 z.1) := fun w' h => (h.cell (p := ⟨b, off + k * 2, none⟩) hblw).trans u0
              have m1 : ∀ w', Below wr.heap.size wr w' → w'.cell? ⟨b, off + k * 2 + 1, none⟩ = some (.int .i64 z.2) := fun w' h => (h.cell (p := ⟨b, off + k * 2 + 1, none⟩) hblw).trans u1
              have r0 : ∀ w', Below wr.heap.size wr w' → w'.cell? ⟨b2, off2 + j * 2, none⟩ = some (.int .i64 D[j].1) := fun w' h => (h.cell (p := ⟨b2, off2 + j * 2, none⟩) hbl2).trans x0
              have r1 : ∀ w', Below wr.heap.size wr w' → w'.cell? ⟨b2, off2 + j * 2 + 1, none⟩ = some (.int .i64 D[j].2) := fun w' h => (h.cell (p := ⟨b2, off2 + j * 2 + 1, none⟩) hbl2).trans x1
              clear x0 x1 u0 u1
              go_upto_region 20 with (fail)
              go_region_held3 (fun w' => Below wr.heap.size wr w') (first | exact (Below.refl _ _).drew | assumption) (first | (go_at_call 18; refine (HF.out _ (by assumption)).mono ?_; rintro e w8 ⟨s8, X8, l8, c8, rfl, hc8⟩))
              have HC8 := Lib.hid hc8
              have hbl8 := Nat.lt_of_lt_of_le hbl2 hc8.size
              clear m0 m1 r0 r1 HF hc8
              go_upto_region 21 with (fail)
              by_cases hj0 : j = 0
              · have d0 : decide ((0 : Int) < (j : Int)) = false := decide_eq_false (by omega)
                have d1 : decide (0 < j) = false := decide_eq_false (by omega)
                clear hj0
                go_quiet (fail)
                have HBQ := Lib.hid (blw_drewN (HBI.out.trans (HC8.out.mono HBI.out.size)) nq)
                clear d0 d1
                go_wp2_with fail
                go_roundw
                case rel => exact ⟨j + 1, by omega, by go_num, HBQ.out⟩
                case measure => simp [intOf]; omega
              · obtain ⟨p, hpj⟩ : ∃ p, p + 1 = j := ⟨j - 1, by omega⟩
                have hpD : p < D.length := by omega
                have d0 : decide ((0 : Int) < (j : Int)) = true := decide_eq_true (by omega)
                have d1 : decide (0 < j) = true := decide_eq_true (by omega)
                have hsub : (j : Int) - 1 = (p : Int) := by omega
                have hw1 : IntKind.i64.wrap ((j : Int) - 1) = (p : Int) := by rw [hsub]; exact IntWalk.i64_in _ (by omega)
                have hw2 : IntKind.i64.wrap (p : Int) = (p : Int) := IntWalk.i64_in _ (by omega)
                have p0 : (0 : Int) ≤ (p : Int) := by omega
                have p1 : (p : Int) < (nd : Int) := by omega
                have HCP := Lib.hid (fun w' hb => compare_lt2 (HPR.out p hpD hpj) w8 w' hb)
                obtain ⟨g0, g1⟩ := HXD.out p hpD
                obtain ⟨x0, x1⟩ := HXD.out j hjD
                generalize D[p] = y at *
                generalize D[j] = q at *
                have m0 : ∀ w', Below w8.heap.size w8 w' → w'.cell? ⟨b2, off2 + j * 2, none⟩ = some (.int .i64 q.1) := fun w' h => (h.cell (p := ⟨b2, off2 + j * 2, none⟩) hbl8).trans ((HC8.out.cell (p := ⟨b2, off2 + j * 2, none⟩) hbl2).trans x0)
                have m1 : ∀ w', Below w8.heap.size w8 w' → w'.cell? ⟨b2, off2 + j * 2 + 1, none⟩ = some (.int .i64 q.2) := fun w' h => (h.cell (p := ⟨b2, off2 + j * 2 + 1, none⟩) hbl8).trans ((HC8.out.cell (p := ⟨b2, off2 + j * 2 + 1, none⟩) hbl2).trans x1)
                have r0 : ∀ w', Below w8.heap.size w8 w' → w'.cell? ⟨b2, off2 + p * 2, none⟩ = some (.int .i64 y.1) := fun w' h => (h.cell (p := ⟨b2, off2 + p * 2, none⟩) hbl8).trans ((HC8.out.cell (p := ⟨b2, off2 + p * 2, none⟩) hbl2).trans g0)
                have r1 : ∀ w', Below w8.heap.size w8 w' → w'.cell? ⟨b2, off2 + p * 2 + 1, none⟩ = some (.int .i64 y.2) := fun w' h => (h.cell (p := ⟨b2, off2 + p * 2 + 1, none⟩) hbl8).trans ((HC8.out.cell (p := ⟨b2, off2 + p * 2 + 1, none⟩) hbl2).trans g1)
                clear x0 x1 g0 g1 hj0 hpj
                go_region_held3 (fun w' => Below w8.heap.size w8 w') (first | exact (Below.refl _ _).drew | assumption) (first | (go_at_call 25; refine (HCP.out _ (by assumption)).mono ?_; rintro e wb ⟨rfl, hcb⟩))
                have HBQ := Lib.hid ((HBI.out.trans (HC8.out.mono HBI.out.size)).trans ((by assumption : Below w8.heap.size w8 _).mono (Nat.le_trans HBI.out.size HC8.out.size)))
                clear m0 m1 r0 r1 d0 d1 hsub hw1 hw2
                go_wp2_with fail
                go_roundw
                case rel => exact ⟨j + 1, by omega, by go_num, HBQ.out⟩
                case measure => simp [intOf]; omega
            · obtain rfl : j = nd := by omega
              have hwn : IntKind.i64.wrap ((cn : Int) + (j : Int)) = (cn : Int) + (j : Int) := IntWalk.i64_in _ (by omega)
              have HCE := Lib.hid (HC7.out.trans (HBI.out.mono HC7.out.size))
              have y0 := (HBI.out.cell (p := ⟨b, off + k * 2, none⟩) hbl7).trans Y01.out.1
              have y1 := (HBI.out.cell (p := ⟨b, off + k * 2 + 1, none⟩) hbl7).trans Y01.out.2
              have hke := (HCE.out.block _ (Array.getElem?_eq_some_iff.1 HK5.out).1).trans HK5.out
              have a0 : wr.cell? ⟨w.heap.size, 0, none⟩ = some (.int .i64 act.1) := (cell_of_row _ _ 0 _ _ _ hke).trans rfl
              have a1 : wr.cell? ⟨w.heap.size, 1, none⟩ = some (.int .i64 act.2) := (cell_of_row _ _ 1 _ _ _ hke).trans rfl
              have heq := eq_pair z act
              clear hke hlj hj
              go_upto_region 24 with (fail)
              cases ib with
              | true =>
                go_quiet (fail)
                have HBQ := Lib.hid (blw_drewN HCE.out nq)
                clear a0 a1 y0 y1 heq
                go_wp2_with fail
                go_roundw
                case rel => exact ⟨k + 1, by omega, by go_num, by rw [HCS.out]; go_num, by rw [HIS.out]; rfl, HBQ.out⟩
                case measure => simp [intOf]; omega
              | false =>
                cases hza : decide (z = act) with
                | true =>
                  rw [hza] at heq HIS
                  clear hza
                  go_quiet (fail)
                  have HBQ := Lib.hid (blw_drewN HCE.out nq)
                  clear a0 a1 y0 y1 heq
                  go_wp2_with fail
                  go_roundw
                  case rel => exact ⟨k + 1, by omega, by go_num, by rw [HCS.out]; go_num, by rw [HIS.out]; rfl, HBQ.out⟩
                  case measure => simp [intOf]; omega
                | false =>
                  rw [hza] at heq HIS
                  clear hza
                  go_quiet (fail)
                  have HBQ := Lib.hid (blw_drewN HCE.out nq)
                  clear a0 a1 y0 y1 heq
                  go_wp2_with fail
                  go_roundw
                  case rel => exact ⟨k + 1, by omega, by go_num, by rw [HCS.out]; go_num, by rw [HIS.out]; rfl, HBQ.out⟩
                  case measure => simp [intOf]; omega
      · obtain rfl : k = na := by omega
        have htk : L.take k = L := List.take_of_length_le (Nat.le_of_eq HNA.out)
        have hcn := HCN.out
        have hib := HIB.out
        rw [htk, HCA.out] at hcn
        rw [htk, HIA.out] at hib
        have HXW := Lib.hid (HX5.out.below HBW.out)
        have HBE := Lib.hid (HB5.out.trans (HBW.out.mono HB5.out.size))
        have HKE := Lib.hid ((HBW.out.block _ (Array.getElem?_eq_some_iff.1 HK5.out).1).trans HK5.out)
        have HLN := Lib.hid (len_calls HXW.out)
        rw [hcn] at HLN
        have HOF := Lib.hid (of_calls K B B l act.1 act.2 wr HXW.out)
        unfold NewI at HOF
        obtain ⟨no, HNO⟩ : ∃ x, Hid ((ofL l act.1 act.2).length = x) := ⟨_, Lib.hid rfl⟩
        rw [HNO.out] at HOF hib
        have a0 : wr.cell? ⟨w.heap.size, 0, none⟩ = some (.int .i64 act.1) := (cell_of_row _ _ 0 _ _ _ HKE.out).trans rfl
        have a1 : wr.cell? ⟨w.heap.size, 1, none⟩ = some (.int .i64 act.2) := (cell_of_row _ _ 1 _ _ _ HKE.out).trans rfl
        have hno : ib = decide ((0 : Int) < (no : Int)) := by rw [← hib, decide_eq_decide]; omega
        have hc0 : ((cn : Int) == (cn : Int)) = true := beq_self_eq_true _
        clear htk hcn hib hlt hk
        go_upto_region 25 with (fail)
        go_wp2_with fail
        refine HLN.out.mono ?_
        rintro e w8 ⟨rfl, rfl⟩
        clear HLN
        cases hb0 : decide ((0 : Int) < (no : Int)) with
        | true =>
          rw [hb0] at hno
          subst hno
          have hb1 : decide (0 < no) = true := by rw [← hb0, decide_eq_decide]; omega
          go_wp2_with fail
          refine HOF.out.mono ?_
          rintro e w9 ⟨X9, c9, rfl, _, hb9⟩
          have HB9 := Lib.hid (HBE.out.trans (hb9.mono HBE.out.size))
          clear hb9 a0 a1
          go_wp2_with fail
          go_ret
          exact ⟨rfl, HB9.out⟩
        | false =>
          rw [hb0] at hno
          subst hno
          have hb1 : decide (0 < no) = false := by rw [← hb0, decide_eq_decide]; omega
          go_wp2_with fail
          refine HOF.out.mono ?_
          rintro e w9 ⟨X9, c9, rfl, _, hb9⟩
          have HB9 := Lib.hid (HBE.out.trans (hb9.mono HBE.out.size))
          clear hb9 a0 a1
          go_wp2_with fail
          go_ret
          exact ⟨rfl, HB9.out⟩
theorem actors_row (W : World) (A : Option Addr) (n c : Nat) (os : List Ot) (h : IsO W (List.range W.heap.size) A n c os) (a b : Int) (_ : -9223372036854775808 ≤ a ∧ a ≤ 9223372036854775807) (_ : -9223372036854775808 ≤ b ∧ b ≤ 9223372036854775807) :
    Calls Try.prog 7 #[.slice A n c, .agg #[.int .i64 a, .int .i64 b]] W fun e w' => e = .returned (.bool true) ∧ Below W.heap.size W w' := actorsLaw_calls _ A n c os (a, b) W h
end Mb
end Go.Proofs.Ytddoepaplbnlcaa

/- Arguments of type Message and api.ID, opened. -/
namespace Go.Proofs.Ytddoepaplbnlcaa
open Go.ChangeShapes Go.WideShapes Go.ChangeAt Go.RowKit Go.Deep
section
variable {H : Type} {enc : TypeId × Value → H} {P : Program} {W : World} {b : Nat} {sp : Nat → Bool} {hd : Bool}
/-- a struct as an argument: its cells -/
theorem open_structN {t : TypeId} {fs : Array Field} {r : Reach} {b0 : Nat} {v : Value} {d : DataW H} {p : List MemPlace} (ht : P.underlying t = some (.struct fs)) (hv : Value.okWide P W r b0 t v) (h : DataW.Trod enc P W b sp hd t v d p) :
    ∃ cs : List Value, v = .agg cs.toArray ∧ cs.length = P.cellsOf t ∧ ∃ k y, DataW.trod enc P W b sp hd k t cs = some y := by
  have hv2 : ∃ cs, v = .agg cs ∧ cs.size = P.cellsOf t := by
    simp only [Value.okWide, ht] at hv
    obtain ⟨cs, h1, h2, _⟩ := hv
    exact ⟨cs, h1, h2⟩
  obtain ⟨⟨cs⟩, rfl, hsz⟩ := hv2
  obtain ⟨fuel, hf⟩ := h
  exact ⟨cs, rfl, hsz, fuel, _, hf⟩
end
namespace Mb
section
variable {H : Type} {enc : TypeId × Value → H} {W : World} {b : Nat} {sp : Nat → Bool} {hd : Bool}
theorem cells_msg : Try.prog.cellsOf 36 = 6 := by kernel_rfl
theorem cells_id : Try.prog.cellsOf 30 = 2 := by kernel_rfl
set_option maxRecDepth 100000 in
theorem open_msg {r : Reach} {b0 : Nat} {v : Value} {d : DataW H} {p : List MemPlace} (hv : Value.okWide Try.prog W r b0 36 v) (h : DataW.Trod enc Try.prog W b sp hd 36 v d p) :
    ∃ x : Mm, v = .agg x.cells.toArray ∧ x.ok W (List.range W.heap.size) := by
  obtain ⟨cs, rfl, hl, k, y, hf⟩ := open_structN Try.underlying36 hv h
  have hl6 : cs.length = 6 := hl.trans cells_msg
  match cs, hl6 with
  | [u0, u1, u2, u3, u4, u5], _ =>
    obtain ⟨x, e, hx⟩ := open_msgc hf
    exact ⟨x, by rw [e], hx⟩
set_option maxRecDepth 100000 in
theorem open_id {r : Reach} {b0 : Nat} {v : Value} {d : DataW H} {p : List MemPlace} (hv : Value.okWide Try.prog W r b0 30 v) (h : DataW.Trod enc Try.prog W b sp hd 30 v d p) :
    ∃ a c : Int, v = .agg #[.int .i64 a, .int .i64 c] ∧ (-9223372036854775808 ≤ a ∧ a ≤ 9223372036854775807) ∧ (-9223372036854775808 ≤ c ∧ c ≤ 9223372036854775807) := by
  obtain ⟨cs, rfl, hl, k, y, hf⟩ := open_structN Try.underlying30 hv h
  have hl2 : cs.length = 2 := hl.trans cells_id
  match cs, hl2 with
  | [u0, u1], _ =>
    obtain ⟨a, c, rfl, rfl, h1, h2⟩ := open_idc hf
    exact ⟨a, c, rfl, h1, h2⟩
end
end Mb
end Go.Proofs.Ytddoepaplbnlcaa
