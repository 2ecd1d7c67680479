/- The walk of slices.DeleteFunc over messages. -/
import Derived.Test.YtddoepaplbnlcaaMbJ
namespace Go.Proofs.Ytddoepaplbnlcaa
open Go.RowKit Go.Shelf
namespace Mb

theorem set6 (L : List Mm) (d : Nat) (x : Mm) (hd : d < L.length) :
    ((((((cells6 L).set (d * 6) (.int .i64 x.m.a1)).set (d * 6 + 1) (.int .i64 x.m.a2)).set (d * 6 + 2) (.int .i64 x.m.i1)).set (d * 6 + 3) (.int .i64 x.m.i2)).set (d * 6 + 4) (.string x.m.me)).set (d * 6 + 5) (.slice x.a x.m.ar.length x.c) = cells6 (L.set d x) := by
  induction L generalizing d with
  | nil => simp at hd
  | cons y l ih =>
    have hc : ∀ (z : Mm) (l : List Mm), cells6 (z :: l) = z.cells ++ cells6 l := fun z l => by simp [cells6]
    cases d with
    | zero => rw [List.set_cons_zero, hc, hc]; rfl
    | succ d =>
      have hs : ∀ (t : Nat) (u : Value) (r : List Value), (y.cells ++ r).set ((d + 1) * 6 + t) u = y.cells ++ r.set (d * 6 + t) u := fun t u r => by
        have hl : y.cells.length = 6 := rfl
        rw [List.set_append_right _ _ (by omega), hl, show (d + 1) * 6 + t - 6 = d * 6 + t by omega]
      rw [List.set_cons_succ, hc, hc, ← ih d (by simpa using hd)]
      have h0 := hs 0
      simp only [Nat.add_zero] at h0
      rw [h0, hs, hs, hs, hs, hs]
theorem filter_take_succ {α : Type} (q : α → Bool) (xs : List α) (k : Nat) (hk : k < xs.length) : (xs.take (k + 1)).filter q = (xs.take k).filter q ++ (if q xs[k] = true then [xs[k]] else []) := by
  rw [List.take_succ_eq_append_getElem hk, List.filter_append]
  congr 1
  cases h : q xs[k] <;> simp [h]
/-- the row at a round of DeleteFunc -/
def DelR (B g n c : Nat) (xs : List Mm) (q : Mm → Bool) (k d : Nat) (wr : World) : Prop :=
  ∃ js : List Mm, ((xs.take k).filter q).length = d ∧ js.length + d = k ∧ wr.ownsRow B 76 6 (.slice (some ⟨g, 0, none⟩) n c) n (cells6 ((xs.take k).filter q ++ js ++ xs.drop k))
theorem DelR.skip {B g n c k d : Nat} {xs : List Mm} {q : Mm → Bool} {wr wr' : World} (h : DelR B g n c xs q k d wr) (hk : k < xs.length) (hq : q xs[k] = false) (hb : Below wr.heap.size wr wr') : DelR B g n c xs q (k + 1) d wr' := by
  obtain ⟨js, h1, h2, h3⟩ := h
  have e := filter_take_succ q xs k hk
  rw [hq, if_neg (by simp), List.append_nil] at e
  refine ⟨js ++ [xs[k]], by rw [e]; exact h1, by simp; omega, ?_⟩
  rw [e]
  have e2 : xs.drop k = xs[k] :: xs.drop (k + 1) := List.drop_eq_getElem_cons hk
  rw [e2] at h3
  have e3 : (xs.take k).filter q ++ (js ++ [xs[k]]) ++ xs.drop (k + 1) = (xs.take k).filter q ++ js ++ xs[k] :: xs.drop (k + 1) := by simp
  rw [e3]; exact own_belowS h3 hb
theorem DelR.keep {B g n c k d : Nat} {xs : List Mm} {q : Mm → Bool} {wr : World} (h : DelR B g n c xs q k d wr) (hk : k < xs.length) (hd : d < k) (hq : q xs[k] = true) : DelR B g n c xs q (k + 1) (d + 1)
    ((((((wr.setCell ⟨g, d * 6, none⟩ (.int .i64 xs[k].m.a1)).setCell ⟨g, d * 6 + 1, none⟩ (.int .i64 xs[k].m.a2)).setCell ⟨g, d * 6 + 2, none⟩ (.int .i64 xs[k].m.i1)).setCell ⟨g, d * 6 + 3, none⟩ (.int .i64 xs[k].m.i2)).setCell ⟨g, d * 6 + 4, none⟩ (.string xs[k].m.me)).setCell ⟨g, d * 6 + 5, none⟩ (.slice xs[k].a xs[k].m.ar.length xs[k].c)) := by
  obtain ⟨js, h1, h2, h3⟩ := h
  have e := filter_take_succ q xs k hk
  rw [hq, if_pos rfl] at e
  obtain ⟨j0, jt, rfl⟩ : ∃ a b, js = a :: b := by
    cases js with
    | nil => simp at h2; omega
    | cons a b => exact ⟨a, b, rfl⟩
  have hL : ((xs.take k).filter q ++ (j0 :: jt) ++ xs.drop k).length = xs.length := by
    rw [List.length_append, List.length_append, h1, List.length_drop]; omega
  have hs := own_set (own_set (own_set (own_set (own_set (own_set h3 (d * 6) (.int .i64 xs[k].m.a1)) (d * 6 + 1) (.int .i64 xs[k].m.a2)) (d * 6 + 2) (.int .i64 xs[k].m.i1)) (d * 6 + 3) (.int .i64 xs[k].m.i2)) (d * 6 + 4) (.string xs[k].m.me)) (d * 6 + 5) (.slice xs[k].a xs[k].m.ar.length xs[k].c)
  rw [set6 _ d xs[k] (by rw [hL]; omega)] at hs
  refine ⟨jt ++ [xs[k]], by rw [e, List.length_append, h1]; rfl, by simp at h2 ⊢; omega, ?_⟩
  have e2 : xs.drop k = xs[k] :: xs.drop (k + 1) := List.drop_eq_getElem_cons hk
  have e3 : ((xs.take k).filter q ++ (j0 :: jt) ++ xs.drop k).set d xs[k] = (xs.take (k + 1)).filter q ++ (jt ++ [xs[k]]) ++ xs.drop (k + 1) := by
    rw [e2, e, List.append_assoc, List.set_append_right _ _ (by omega), h1, Nat.sub_self]
    simp
  rw [← e3]; exact hs
theorem DelR.cells {B g n c k d : Nat} {xs : List Mm} {q : Mm → Bool} {wr : World} (h : DelR B g n c xs q k d wr) (t : Nat) (ht : t < n * 6) : ∃ u, wr.cell? ⟨g, t, none⟩ = some u ∧ wr.frozen? ⟨g, t, none⟩ = false := by
  obtain ⟨js, _, _, h3⟩ := h
  have hl := h3.1
  obtain ⟨u, hu⟩ : ∃ u, (cells6 ((xs.take k).filter q ++ js ++ xs.drop k))[t]? = some u := ⟨_, List.getElem?_eq_getElem (by rw [hl]; exact ht)⟩
  exact ⟨u, own_cells h3 t u hu⟩
theorem DelR.head {B g n c k d : Nat} {xs : List Mm} {q : Mm → Bool} {wr : World} (h : DelR B g n c xs q k d wr) (hk : k < xs.length) (t : Nat) (u : Value) (ht : t < 6) (hu : xs[k].cells[t]? = some u) : wr.cell? ⟨g, k * 6 + t, none⟩ = some u := by
  obtain ⟨js, h1, h2, h3⟩ := h
  refine (own_cells h3 (k * 6 + t) u ?_).1
  have hl : ((xs.take k).filter q ++ js).length = k := by rw [List.length_append, h1]; omega
  have hkl : k < ((xs.take k).filter q ++ js ++ xs.drop k).length := by rw [List.length_append, hl, List.length_drop]; omega
  have := flat_get Mm.len ((xs.take k).filter q ++ js ++ xs.drop k) k t hkl ht
  rw [show cells6 _ = _ from rfl] 
  refine this.trans ?_
  rw [List.getElem_append_right (by omega)]
  simp only [hl, Nat.sub_self, List.getElem_drop, Nat.add_zero]
  exact hu
theorem idxI_cases {α : Type} (l : List α) (p : α → Bool) : (idxI l p = -1 ∧ l.filter (fun x => !p x) = l) ∨ ∃ i, ∃ hi : i < l.length, idxI l p = (i : Int) ∧ p l[i] = true ∧ (l.take i).filter (fun x => !p x) = l.take i := by
  unfold idxI
  cases hf : l.findIdx? p with
  | none => exact .inl ⟨rfl, List.filter_eq_self.2 fun x hx => by rw [List.findIdx?_eq_none_iff.1 hf x hx]; rfl⟩
  | some i =>
    obtain ⟨h1, h2, h3⟩ := List.findIdx?_eq_some_iff_getElem.1 hf
    refine .inr ⟨i, h1, rfl, h2, List.filter_eq_self.2 fun x hx => ?_⟩
    obtain ⟨j, hj, rfl⟩ := List.mem_take_iff_getElem.1 hx
    have := h3 j (by omega)
    simpa using this
theorem chg6 (w : World) (g d : Nat) (u0 u1 u2 u3 u4 u5 : Value) : Chg [g] w ((((((w.setCell ⟨g, d * 6, none⟩ u0).setCell ⟨g, d * 6 + 1, none⟩ u1).setCell ⟨g, d * 6 + 2, none⟩ u2).setCell ⟨g, d * 6 + 3, none⟩ u3).setCell ⟨g, d * 6 + 4, none⟩ u4).setCell ⟨g, d * 6 + 5, none⟩ u5) :=
  ((((((Chg.refl [g] w).setCell (p := ⟨g, d * 6, none⟩) (.inl List.mem_cons_self) u0).setCell (p := ⟨g, d * 6 + 1, none⟩) (.inl List.mem_cons_self) u1).setCell (p := ⟨g, d * 6 + 2, none⟩) (.inl List.mem_cons_self) u2).setCell (p := ⟨g, d * 6 + 3, none⟩) (.inl List.mem_cons_self) u3).setCell (p := ⟨g, d * 6 + 4, none⟩) (.inl List.mem_cons_self) u4).setCell (p := ⟨g, d * 6 + 5, none⟩) (.inl List.mem_cons_self) u5
theorem DelR.below {B g n c k d : Nat} {xs : List Mm} {q : Mm → Bool} {wr wr' : World} (h : DelR B g n c xs q k d wr) (hb : Below wr.heap.size wr wr') : DelR B g n c xs q k d wr' := by
  obtain ⟨js, h1, h2, h3⟩ := h
  exact ⟨js, h1, h2, own_belowS h3 hb⟩
set_option maxRecDepth 100000 in
set_option maxHeartbeats 4000000 in
theorem deleteFunc_calls (F : Nat) (caps : Array Value) (hcf : ∀ (args : Array Value) (w' : World), (callFunc F args).run Try.prog w' = .ok (.enter F args) w') (p : Msg → Bool) (B n c : Nat) (A : Option Addr) (xs : List Mm) (w : World)
    (ho : w.ownsRow B 76 6 (.slice A n c) n (cells6 xs)) (hr : Rd w A (cells6 xs)) (hn : n ≤ 1000000) (hxl : xs.length = n)
    (H : ∀ x : Mm, ∀ w', (∀ g off, A = some ⟨g, off, none⟩ → Chg [g] w w') → (A = none → Below w.heap.size w w') → Calls Try.prog F (#[mval x] ++ caps) w' fun e w'' => e = .returned (.bool (p x.m)) ∧ Below w'.heap.size w' w'') :
    Calls Try.prog 86 #[.slice A n c, .func (.func F) #[] caps] w (InsP B (.slice A n c) (xs.filter fun x => !p x.m) w) := by
  have HI := Lib.hid (indexM_calls F caps hcf p A n c xs w hxl hr (by omega) (fun x w' hb => H x w' (fun g _ _ => Chg.of_below hb [g]) (fun _ => hb)))
  rcases idxI_cases xs (fun x => p x.m) with ⟨hi, hf⟩ | ⟨i, hil, hi, hpi, hf⟩
  · rw [hi] at HI
    have HP : Hid (∀ w', Below w.heap.size w w' → InsP B (.slice A n c) (xs.filter fun x => !p x.m) w (.returned (.slice A n c)) w') := Lib.hid fun w' hb => by
      rw [hf]
      refine ⟨A, c, by rw [hxl], ?_, ?_⟩
      · rw [hxl]; exact own_belowS ho hb
      · rw [hxl]; exact ⟨⟨hb.os, hb.tape, hb.output, hb.size, fun k hk _ => hb.block k hk⟩, .inl rfl⟩
    clear ho hr hi hf hxl H
    go_enter Try.func86, Try.ntmps86
    go_wp2_with (refine HI.out.mono ?_; rintro e w' ⟨rfl, hb⟩)
    go_ret
    exact HP.out _ hb
  · rw [hi] at HI
    obtain ⟨g, c', he, hBg, hnc, hcm, hgl⟩ := own_some ho (by omega)
    cases he
    have hcm' := hcm
    unfold maxLen at hcm'
    have HH := Lib.hid (fun (x : Mm) (w' : World) (hc : Chg [g] w w') => H x w' (fun g' off e => by cases e; exact hc) (fun e => by cases e))
    have HO := Lib.hid ho
    have HN := Lib.hid hxl
    have hin : i < n := by omega
    have H0 : Hid (∀ w', Below w.heap.size w w' → DelR B g n c xs (fun x => !p x.m) (i + 1) i w') := Lib.hid fun w' hb => by
      have e := filter_take_succ (fun x => !p x.m) xs i hil
      simp only [hpi, Bool.not_true] at e
      rw [if_neg (by simp), List.append_nil, hf] at e
      refine ⟨[xs[i]], by rw [e, List.length_take]; omega, by simp; omega, ?_⟩
      rw [e]
      have e2 : xs.take i ++ [xs[i]] ++ xs.drop (i + 1) = xs := by
        rw [List.append_assoc, List.singleton_append, ← List.drop_eq_getElem_cons hil, List.take_append_drop]
      rw [e2]; exact own_belowS ho hb
    have i1 : ((i : Int) == -1) = false := by rw [beq_eq_false_iff_ne]; omega
    clear ho hr hi hf hxl H hpi
    go_enter Try.func86, Try.ntmps86
    go_wp2_with (refine HI.out.mono ?_; rintro e w1 ⟨rfl, hb1⟩)
    have HB1 := Lib.hid hb1
    have HC1 := Lib.hid (Chg.of_below hb1 [g])
    clear hb1 i1
    go_loopw [5, 6, 7] (fun i j _ wr => ∃ k d : Nat, d < k ∧ k ≤ n ∧ i = .int .i64 d ∧ j = .int .i64 k ∧ DelR B g n c xs (fun x => !p x.m) k d wr ∧ Chg [g] w wr) (fun _ j _ _ => n - (intOf j).toNat)
    case atStart => exact ⟨i + 1, i, by omega, by omega, rfl, by go_num, H0.out _ HB1.out, HC1.out⟩
    case round =>
      obtain ⟨k, d, hdk, hk, rfl, rfl, hdr, hcg⟩ := hrel
      have HDR := Lib.hid hdr
      have HCG := Lib.hid hcg
      clear hdr hcg
      have j0 : (0 : Int) ≤ (k : Int) := by omega
      have j2 : (0 : Int) ≤ (d : Int) := by omega
      have j3 : (d : Int) < (n : Int) := by omega
      by_cases hlt : k < n
      · have j1 : (k : Int) < (n : Int) := by omega
        have hkl : k < xs.length := by have := HN.out; omega
        have x0 := HDR.out.head hkl 0 _ (by omega) rfl
        have x1 := HDR.out.head hkl 1 _ (by omega) rfl
        have x2 := HDR.out.head hkl 2 _ (by omega) rfl
        have x3 := HDR.out.head hkl 3 _ (by omega) rfl
        have x4 := HDR.out.head hkl 4 _ (by omega) rfl
        have x5 := HDR.out.head hkl 5 _ (by omega) rfl
        simp only [Nat.add_zero] at x0
        have HS := Lib.hid (fun (w' : World) (hb : Below wr.heap.size wr w') (hq : (!p xs[k].m) = false) => HDR.out.skip hkl hq hb)
        have HK := Lib.hid (fun (w' : World) (hb : DelR B g n c xs (fun x => !p x.m) k d w') (hq : (!p xs[k].m) = true) => hb.keep hkl hdk hq)
        have HC := Lib.hid (HH.out xs[k])
        generalize xs[k] = z at *
        have HB1 := Lib.hid (below1 wr (.cells #[.int .i64 z.m.a1, .int .i64 z.m.a2, .int .i64 z.m.i1, .int .i64 z.m.i2, .string z.m.me, .slice z.a z.m.ar.length z.c] 76))
        have HN1 := Lib.hid (heap_alloc_new wr (.cells #[.int .i64 z.m.a1, .int .i64 z.m.a2, .int .i64 z.m.i1, .int .i64 z.m.i2, .string z.m.me, .slice z.a z.m.ar.length z.c] 76))
        cases hp : p z.m with
        | true =>
          rw [hp] at HC HS
          clear hp HK
          unfold mval Mm.cells at HC
          go_wp2_with ((with_reducible refine (HC.out _ ?_).mono ?_); exact HCG.out.trans (Chg.of_below HB1.out [g]) (by simp); rintro e w2 ⟨rfl, hb⟩; have HB2 := Lib.hid (HB1.out.trans (hb.mono HB1.out.size)); clear hb)
          go_roundw
          case rel => exact ⟨k + 1, d, by omega, by omega, rfl, by go_num, HS.out _ HB2.out rfl, HCG.out.trans (Chg.of_below HB2.out [g]) (by simp)⟩
          case measure => simp [intOf]; omega
        | false =>
          rw [hp] at HC HK
          clear hp HS
          unfold mval Mm.cells at HC
          go_upto_region 9 with (((with_reducible refine (HC.out _ ?_).mono ?_); exact HCG.out.trans (Chg.of_below HB1.out [g]) (by simp); rintro e w2 ⟨rfl, hb⟩; have HB2 := Lib.hid (HB1.out.trans (hb.mono HB1.out.size)); have HN2 := Lib.hid ((hb.block _ (Array.getElem?_eq_some_iff.1 HN1.out).1).trans HN1.out); clear hb))
          have HDR2 := Lib.hid (HDR.out.below HB2.out)
          obtain ⟨v0, cg0, fg0⟩ := HDR2.out.cells (d * 6 + 0) (by omega)
          obtain ⟨v1, cg1, fg1⟩ := HDR2.out.cells (d * 6 + 1) (by omega)
          obtain ⟨v2, cg2, fg2⟩ := HDR2.out.cells (d * 6 + 2) (by omega)
          obtain ⟨v3, cg3, fg3⟩ := HDR2.out.cells (d * 6 + 3) (by omega)
          obtain ⟨v4, cg4, fg4⟩ := HDR2.out.cells (d * 6 + 4) (by omega)
          obtain ⟨v5, cg5, fg5⟩ := HDR2.out.cells (d * 6 + 5) (by omega)
          simp only [Nat.add_zero] at cg0 fg0
          have dx0 : w2.cell? ⟨wr.heap.size, 0, none⟩ = some (.int .i64 z.m.a1) := (cell_of_row _ _ 0 _ _ _ HN2.out).trans rfl
          have dx1 : w2.cell? ⟨wr.heap.size, 1, none⟩ = some (.int .i64 z.m.a2) := (cell_of_row _ _ 1 _ _ _ HN2.out).trans rfl
          have dx2 : w2.cell? ⟨wr.heap.size, 2, none⟩ = some (.int .i64 z.m.i1) := (cell_of_row _ _ 2 _ _ _ HN2.out).trans rfl
          have dx3 : w2.cell? ⟨wr.heap.size, 3, none⟩ = some (.int .i64 z.m.i2) := (cell_of_row _ _ 3 _ _ _ HN2.out).trans rfl
          have dx4 : w2.cell? ⟨wr.heap.size, 4, none⟩ = some (.string z.m.me) := (cell_of_row _ _ 4 _ _ _ HN2.out).trans rfl
          have dx5 : w2.cell? ⟨wr.heap.size, 5, none⟩ = some (.slice z.a z.m.ar.length z.c) := (cell_of_row _ _ 5 _ _ _ HN2.out).trans rfl
          clear x0 x1 x2 x3 x4 x5
          have HK2 := Lib.hid (HK.out _ HDR2.out rfl)
          have HC2 := Lib.hid ((HCG.out.trans (Chg.of_below HB2.out [g]) (by simp)).trans' (chg6 w2 g d (.int .i64 z.m.a1) (.int .i64 z.m.a2) (.int .i64 z.m.i1) (.int .i64 z.m.i2) (.string z.m.me) (.slice z.a z.m.ar.length z.c)))
          go_wp2_with fail
          go_roundw
          case rel => exact ⟨k + 1, d + 1, by omega, by omega, by go_num, by go_num, HK2.out, HC2.out⟩
          case measure => simp [intOf]; omega
      · obtain rfl : k = n := by omega
        obtain ⟨js, h1, h2, h3⟩ := HDR.out
        rw [List.take_of_length_le (Nat.le_of_eq HN.out)] at h1 h3
        have h4 := own_less h3 rfl d (by omega) (fun h => by omega)
        have e4 : (cells6 (xs.filter (fun x => !p x.m) ++ js ++ xs.drop k)).take (d * 6) = cells6 (xs.filter fun x => !p x.m) := by
          have := flat_take Mm.len (xs.filter (fun x => !p x.m) ++ js ++ xs.drop k) d (by rw [List.length_append, List.length_append, h1]; omega)
          refine this.trans ?_
          rw [List.append_assoc, List.take_append_of_le_length (Nat.le_of_eq h1.symm), List.take_of_length_le (Nat.le_of_eq h1)]
          rfl
        rw [e4] at h4
        obtain ⟨w2, hr2, ho3, hw2⟩ := run_clearTail (P := Try.prog) 72 zM Try.underlying72 zero_m rfl zM_one h4 (k - d) (by omega) (by omega)
        have HP : Hid (InsP B (.slice (some ⟨g, 0, none⟩) k c) (xs.filter fun x => !p x.m) w (.returned (.slice (some ⟨g, 0, none⟩) d c)) w2) := by
          refine ⟨_, c, by rw [h1], ?_, ?_, .inl rfl⟩
          · rw [h1]; exact ho3
          · have hcg := HCG.out
            exact ⟨hw2.os.trans hcg.os, hw2.tape.trans hcg.tape, hw2.output.trans hcg.output, by rw [hw2.size]; exact hcg.size, fun m hm hne => (hw2.block m hne).trans (hcg.block m hm (fun hmm => hne (by simp only [List.mem_singleton] at hmm; rw [hmm]; rfl)))⟩
        have hc1 : ∀ w' : World, (Instr.slice 72 (.slice (some ⟨g, 0, none⟩) k c) (some (.int .i64 d)) none none).run Try.prog w' = .ok (.slice (some ⟨g, d * 6, none⟩) (k - d) (c - d)) w' := fun w' => by
          have h := run_cutS_l Try.underlying72 elem_m size_m (some ⟨g, 0, none⟩) k c d (by omega) w'
          rwa [cutS_some _ _ _ _ (by omega)] at h
        have hc2 : ∀ w' : World, (Instr.slice 72 (.slice (some ⟨g, 0, none⟩) k c) none (some (.int .i64 d)) none).run Try.prog w' = .ok (.slice (some ⟨g, 0, none⟩) d c) w' := fun w' => run_cutS_h Try.underlying72 elem_m (some ⟨g, 0, none⟩) k c d (by omega) size_m w'
        have HR2 := Lib.hid hr2
        clear h1 h2 h3 h4 e4 hr2 ho3 hw2
        go_wp2_with (refine wpList_clear_run wr (by rfl) _ 72 (by rfl) _ (by rfl) (HR2.out _ _) ?_)
        go_ret
        exact HP.out
end Mb
end Go.Proofs.Ytddoepaplbnlcaa
