/- Merged: MdJ MdK MdP. -/
import Derived.Test.YtddoepaplbnlcaaMTa
/- A message in a struct of its own; the walk of MailboxOnce's first half. -/
namespace Go.Proofs.Ytddoepaplbnlcaa
open Go.RowKit Go.Shelf
namespace Mb

theorem ins_at (l : List Msg) (m : Msg) (h : pos l m < (ins l m).length) : (ins l m)[pos l m] = m := by
  have hp := pos_le l m
  have h1 : (ins l m)[pos l m]? = some m := by
    unfold ins
    have hl : (l.take (pos l m)).length = pos l m := by rw [List.length_take]; omega
    rw [List.getElem?_append_right (by omega), hl, Nat.sub_self]; rfl
  rw [List.getElem?_eq_getElem h] at h1
  injection h1
theorem find_ins {l : List Msg} {m : Msg} (hi : Inv l) (h0 : putE l m = 0) : find (ins l m) (key m.a1 m.a2 m.i1 m.i2) = some (pos l m) := by
  have hp := hi.put m
  unfold putL at hp
  rw [if_pos h0] at hp
  have hlt : pos l m < (ins l m).length := by rw [ins_length]; have := pos_le l m; omega
  have h := find_at hp _ hlt
  rw [ins_at l m hlt] at h
  exact h
theorem take_ins {l : List Msg} {m : Msg} (hi : Inv l) (h0 : putE l m = 0) : takeL (ins l m) (key m.a1 m.a2 m.i1 m.i2) = l := by
  have hp := pos_le l m
  have hl : (l.take (pos l m)).length = pos l m := by rw [List.length_take]; omega
  unfold takeL
  rw [find_ins hi h0]
  show (ins l m).take (pos l m) ++ (ins l m).drop (pos l m + 1) = l
  unfold ins
  generalize hq : pos l m = p at *
  have e1 : (l.take p ++ m :: l.drop p).take p = l.take p := List.take_left' hl
  have e2 : (l.take p ++ m :: l.drop p).drop (p + 1) = l.drop p := by
    rw [show l.take p ++ m :: l.drop p = (l.take p ++ [m]) ++ l.drop p by simp]
    exact List.drop_left' (by simp; omega)
  rw [e1, e2, List.take_append_drop]
theorem find_out {l : List Msg} {m : Msg} (h0 : putE l m = 0) : find l (key m.a1 m.a2 m.i1 m.i2) = none := by
  cases hf : find l (key m.a1 m.a2 m.i1 m.i2) with
  | none => rfl
  | some i =>
    obtain ⟨hil, _, _, h3, h4⟩ := find_some hf
    exact absurd ⟨h3, h4⟩ ((putE_zero h0).2.1 _ (List.getElem_mem hil))
theorem once_find {l : List Msg} {m : Msg} {w w' : World} {e : Ending} (hi : Inv l) (h0 : putE l m = 0) (h : FindP (ins l m) (key m.a1 m.a2 m.i1 m.i2) w e w') :
    ∃ X c, e = .returned (.tuple #[.string m.me, .slice X m.ar.length c, .bool true]) ∧ Rd w' X (m.ar.map (Value.int .i64)) ∧ Below w.heap.size w w' := by
  obtain ⟨hb, h⟩ := h
  rw [find_ins hi h0] at h
  obtain ⟨_, X, c, h1, h2⟩ := h
  simp only [ins_at] at h1 h2
  exact ⟨X, c, h1, h2, hb⟩
theorem once_lost {l : List Msg} {m : Msg} {w w' : World} {e : Ending} (h0 : putE l m = 0) (h : FindP l (key m.a1 m.a2 m.i1 m.i2) w e w') :
    e = .returned (.tuple #[.string ⟨#[]⟩, .slice none 0 0, .bool false]) ∧ Below w.heap.size w w' := by
  obtain ⟨hb, h⟩ := h
  rw [find_out h0] at h
  exact ⟨h, hb⟩
theorem once_take {K : List Nat} {B g : Nat} {l : List Msg} {m : Msg} {w w' : World} {e : Ending} (hi : Inv l) (h0 : putE l m = 0) (h : TakeP K B g (ins l m) (key m.a1 m.a2 m.i1 m.i2) w e w') :
    ∃ X c, e = .returned (.tuple #[.slice X m.ar.length c, .int .i64 0]) ∧ Rd w' X (m.ar.map (Value.int .i64)) ∧ BxW K B g l w w' := by
  obtain ⟨hb, h⟩ := h
  rw [find_ins hi h0] at h
  rw [take_ins hi h0] at hb
  obtain ⟨_, X, c, h1, h2⟩ := h
  simp only [ins_at] at h1 h2
  exact ⟨X, c, h1, h2, hb⟩
theorem once_gone {K : List Nat} {B g : Nat} {l : List Msg} {m : Msg} {w w' : World} {e : Ending} (h0 : putE l m = 0) (h : TakeP K B g l (key m.a1 m.a2 m.i1 m.i2) w e w') :
    e = .returned (.tuple #[.slice none 0 0, .int .i64 6]) ∧ Below w.heap.size w w' := by
  obtain ⟨_, h⟩ := h
  rw [find_out h0] at h
  exact h
/-- a message lies in a block -/
def MsgAt (g : Nat) (x : Mm) (w : World) : Prop := w.heap[g]? = some (.cells x.cells.toArray 36 (0, 0))
theorem MsgAt.below {g B : Nat} {x : Mm} {w w' : World} (h : MsgAt g x w) (hb : Below B w w') (hg : g < B) : MsgAt g x w' := (hb.block g hg).trans h
theorem MsgAt.cells {g : Nat} {x : Mm} {w : World} (h : MsgAt g x w) : w.cell? ⟨g, 0, none⟩ = some (.int .i64 x.m.a1) ∧ w.cell? ⟨g, 1, none⟩ = some (.int .i64 x.m.a2) ∧ w.cell? ⟨g, 2, none⟩ = some (.int .i64 x.m.i1) ∧ w.cell? ⟨g, 3, none⟩ = some (.int .i64 x.m.i2) ∧ w.cell? ⟨g, 4, none⟩ = some (.string x.m.me) ∧ w.cell? ⟨g, 5, none⟩ = some (.slice x.a x.m.ar.length x.c) :=
  ⟨(cell_of_row _ _ 0 _ _ _ h).trans rfl, (cell_of_row _ _ 1 _ _ _ h).trans rfl, (cell_of_row _ _ 2 _ _ _ h).trans rfl, (cell_of_row _ _ 3 _ _ _ h).trans rfl, (cell_of_row _ _ 4 _ _ _ h).trans rfl, (cell_of_row _ _ 5 _ _ _ h).trans rfl⟩
theorem Mm.ok.chg {N S : List Nat} {x : Mm} {w w' : World} (h : x.ok w N) (hN : ∀ y ∈ N, y < w.heap.size) (hc : Chg S w w') (hS : ∀ y ∈ N, y ∉ S) : x.ok w' N := h.same fun y hy => hc.block y (hN y hy) (hS y hy)
/-- blocks below the box's base are written -/
theorem Bx.chg {K S : List Nat} {B g : Nat} {l : List Msg} {w w' : World} (h : Bx K B g l w) (hc : Chg S w w') (hS : ∀ x ∈ S, x < B) : Bx K B g l w' := by
  obtain ⟨N, A, n, c, xs, h1, h2, h3, h4⟩ := h
  have ne : ∀ y, B ≤ y → y ∉ S := fun y hy hm => by have := hS y hm; omega
  refine ⟨N, A, n, c, xs, ⟨(hc.block _ h1.lt (ne _ h1.gB)).trans h1.hd, h1.gB, ⟨h1.ow.1, h1.ow.2.imp id fun ⟨b, cap, cur, e1, e2, e3, e4⟩ => ⟨b, cap, cur, e1, e2, (hc.block b (Array.getElem?_eq_some_iff.1 e3).1 (ne b e2)).trans e3, e4⟩⟩, h1.hn, fun x hx => (h1.ok x hx).chg (fun y hy => (h1.nn y hy).1) hc (fun y hy => ne y (h1.nb y hy)), fun y hy => ⟨Nat.lt_of_lt_of_le (h1.nn y hy).1 hc.size, (h1.nn y hy).2⟩, h1.nb⟩, h2, h3, fun y hy => ⟨Nat.lt_of_lt_of_le (h4 y hy).1 hc.size, (h4 y hy).2⟩⟩
theorem Both.chg {S : List Nat} {R B g : Nat} {l : List Msg} {v : Value} {w w' : World} (h : Both R B g l v w) (hc : Chg S w w') (hS : ∀ x ∈ S, x < R) : Both R B g l v w' := by
  obtain ⟨K, M, h1, h2, h3, h4, h5⟩ := h
  exact ⟨K, M, h1.chg hc (fun x hx => Nat.lt_of_lt_of_le (hS x hx) h4), h2.same (fun y hy => hc.block y (h2.lt y hy) (fun hm => by have := hS y hm; have := h5 y hy; omega)) hc.size, h3, h4, h5⟩
theorem one_op {x : Mm} {N : List Nat} {w : World} (h : x.ok w N) (hN : ∀ y ∈ N, y < w.heap.size) :
    IsO (w.alloc (.cells #[.int .u8 0, .int .i64 x.m.a1, .int .i64 x.m.a2, .int .i64 x.m.i1, .int .i64 x.m.i2, .string x.m.me, .slice x.a x.m.ar.length x.c] 41)) N (some ⟨w.heap.size, 0, none⟩) 1 1 [⟨0, x⟩] :=
  ⟨Rd.new w (cells7 [⟨0, x⟩]) _ (0, 0), rfl, by omega, by simp [maxLen], fun o ho => by rw [List.mem_singleton.1 ho]; exact h.same (Same.of_below hN (below1 w _)), fun y hy => Nat.lt_of_lt_of_le (hN y hy) (below1 w _).size⟩
end Mb
end Go.Proofs.Ytddoepaplbnlcaa

/- The walk of MailboxOnce. -/
namespace Go.Proofs.Ytddoepaplbnlcaa
open Go.RowKit Go.Shelf
namespace Mb

set_option maxRecDepth 100000 in
set_option maxHeartbeats 4000000 in
theorem once_calls (N : List Nat) (A : Option Addr) (n c : Nat) (os : List Ot) (x : Mm) (w : World) (h : IsO w N A n c os) (hx : x.ok w N) :
    Calls Try.prog 5 #[.slice A n c, .agg x.cells.toArray] w fun e w' => e = .returned (.bool true) ∧ Below w.heap.size w w' := by
  rw [show x.cells.toArray = #[.int .i64 x.m.a1, .int .i64 x.m.a2, .int .i64 x.m.i1, .int .i64 x.m.i2, .string x.m.me, .slice x.a x.m.ar.length x.c] from rfl]
  have HO0 := Lib.hid h
  have HX0 := Lib.hid hx
  have hb0 := below1 w (.cells #[.int .i64 x.m.a1, .int .i64 x.m.a2, .int .i64 x.m.i1, .int .i64 x.m.i2, .string x.m.me, .slice x.a x.m.ar.length x.c] 36)
  have hm0 : MsgAt w.heap.size x (w.alloc (.cells #[.int .i64 x.m.a1, .int .i64 x.m.a2, .int .i64 x.m.i1, .int .i64 x.m.i2, .string x.m.me, .slice x.a x.m.ar.length x.c] 36)) := heap_alloc_new w (.cells #[.int .i64 x.m.a1, .int .i64 x.m.a2, .int .i64 x.m.i1, .int .i64 x.m.i2, .string x.m.me, .slice x.a x.m.ar.length x.c] 36)
  have hg0 : w.heap.size < (w.alloc (.cells #[.int .i64 x.m.a1, .int .i64 x.m.a2, .int .i64 x.m.i1, .int .i64 x.m.i2, .string x.m.me, .slice x.a x.m.ar.length x.c] 36)).heap.size := by simp
  clear h hx
  go_enter Try.func5, Try.ntmps5
  go_upto_region 1 with (fail)
  generalize w.alloc _ = w0 at *
  have HB0 := Lib.hid hb0
  have HO := Lib.hid (HO0.out.below hb0)
  have HX := Lib.hid (HX0.out.same (Same.of_below HO0.out.nl hb0))
  have HM := Lib.hid hm0
  have HG := Lib.hid hg0
  have HA := Lib.hid (awake_calls w0)
  have HNL := Lib.hid HO0.out.nl
  clear hb0 hm0 hg0 HO0 HX0
  go_wp2_with fail
  refine HA.out.mono ?_
  rintro e w1 ⟨rfl, hb1⟩
  have HB1 := Lib.hid hb1
  have HWI := Lib.hid (wide_calls N A n c os w1 (HO.out.below hb1))
  clear hb1 HA
  go_upto_region 3 with (fail)
  have HO1 := Lib.hid (HO.out.below HB1.out)
  have HX1 := Lib.hid (HX.out.same (Same.of_below HO.out.nl HB1.out))
  have HM1 := Lib.hid (HM.out.below HB1.out HG.out)
  have HG1 := Lib.hid (Nat.lt_of_lt_of_le HG.out HB1.out.size)
  have HBT1 := Lib.hid (HB0.out.trans (HB1.out.mono HB0.out.size))
  clear HO HX HM HG HB0 HB1
  have HW1 := Lib.hid (wide_calls N A n c os w1 HO1.out)
  have HW2 : Hid (∀ w', Below w1.heap.size w1 w' → Calls Try.prog 11 #[.slice (some ⟨w'.heap.size, 0, none⟩) 1 1] (w'.alloc (.cells #[.int .u8 0, .int .i64 x.m.a1, .int .i64 x.m.a2, .int .i64 x.m.i1, .int .i64 x.m.i2, .string x.m.me, .slice x.a x.m.ar.length x.c] 41)) fun e w'' => e = .returned (.bool (wideB [⟨0, x⟩])) ∧ Below w1.heap.size w1 w'') := Lib.hid (fun w' hb => (wide_calls N _ 1 1 [⟨0, x⟩] _ (one_op (HX1.out.same (Same.of_below HO1.out.nl hb)) (fun y hy => Nat.lt_of_lt_of_le (HO1.out.nl y hy) hb.size))).mono fun e w'' h => ⟨h.1, (hb.trans ((below1 w' _).mono hb.size)).trans (h.2.mono (Nat.le_trans hb.size (below1 w' _).size))⟩)
  go_wp2_with fail
  refine HW1.out.mono ?_
  rintro e w2 ⟨rfl, hb⟩
  have HBA := Lib.hid hb
  clear hb HW1
  cases hwd : wideB os with
  | true =>
    clear hwd HW2
    go_wp2_with fail
    go_ret
    exact ⟨rfl, HBT1.out.trans (HBA.out.mono HBT1.out.size)⟩
  | false =>
    have hww := (wideB_false hwd).2
    have HWW := Lib.hid hww
    obtain ⟨bw, HBW⟩ : ∃ y, Hid (wideB [⟨0, x⟩] = y) := ⟨_, rfl⟩
    rw [HBW.out] at HW2
    have HW3 := Lib.hid (HW2.out w2 HBA.out)
    obtain ⟨m0, m1, m2, m3, m4, m5⟩ := (HM1.out.below HBA.out HG1.out).cells
    clear hwd hww HW2 HBA
    go_wp2_with fail
    refine HW3.out.mono ?_
    rintro e w3 ⟨rfl, hb3⟩
    clear m0 m1 m2 m3 m4 m5 HW3
    have HB3 := Lib.hid hb3
    clear hb3
    cases bw with
    | true =>
      go_wp2_with fail
      go_ret
      exact ⟨rfl, HBT1.out.trans (HB3.out.mono HBT1.out.size)⟩
    | false =>
      have hal := ((wideB_false HBW.out).2 _ (List.mem_singleton.2 rfl)).2
      have HAL : Hid (x.m.ar.length ≤ 20) := Lib.hid hal
      have HO3 := Lib.hid (HO1.out.below HB3.out)
      have HX3 := Lib.hid (HX1.out.same (Same.of_below HO1.out.nl HB3.out))
      have HM3 := Lib.hid (HM1.out.below HB3.out HG1.out)
      have HG3 := Lib.hid (Nat.lt_of_lt_of_le HG1.out HB3.out.size)
      have HBT3 := Lib.hid (HBT1.out.trans (HB3.out.mono HBT1.out.size))
      have HR := Lib.hid (run_calls N A n c os w3 HO3.out (fun o ho => (HWW.out o ho).2))
      clear hal HB3 HO1 HX1 HM1 HG1 HBT1 HWW HBW
      go_wp2_with fail
      refine HR.out.mono ?_
      rintro e w4 ⟨A4, n4, c4, rfl, hbo, hb4⟩
      obtain ⟨l, HLL⟩ : ∃ y, Hid (runL os = y) := ⟨_, rfl⟩
      rw [HLL.out] at hbo
      have hinv := hbo.inv
      obtain ⟨K, M, hx, hm, hMK⟩ := hbo
      have HX4 := Lib.hid hx
      have HMO := Lib.hid hm
      have HMK := Lib.hid hMK
      have HI := Lib.hid hinv
      have HN4 : Hid (n4 = l.length) := by obtain ⟨_, _, _, xs, e0, h2, h3⟩ := hm; cases e0; rw [← h3, List.length_map]; exact Lib.hid h2.hn.symm
      have HXO := Lib.hid (HX3.out.same (Same.of_below HO3.out.nl hb4))
      have HM4 := Lib.hid (HM3.out.below hb4 HG3.out)
      have HG4 := HG3
      have HBT4 := Lib.hid (HBT3.out.trans (hb4.mono HBT3.out.size))
      have HSZ := Lib.hid hb4.size
      obtain ⟨d0, d1, d2, d3, d4, d5⟩ := HM4.out.cells
      obtain ⟨B, HB⟩ : ∃ y, Hid (w3.heap.size = y) := ⟨_, rfl⟩
      have HP := Lib.hid (put_calls K B B l x N w4 (HB.out ▸ hx) (HB.out ▸ hb4.size) HXO.out (Nat.le_trans HAL.out (by omega)))
      unfold PutP at HP
      obtain ⟨E, HE⟩ : ∃ y, Hid (putE l x.m = y) := ⟨_, rfl⟩
      rw [HE.out] at HP
      rw [HB.out] at HX4 HMK HSZ HG4 ⊢
      clear hx hm hMK hinv hb4 HR HLL HO3 HX3 HM3 HG3 HBT3
      go_upto_region 8 with (fail)
      go_wp2_with fail
      refine HP.out.mono ?_
      rintro e w5 ⟨rfl, hx5⟩
      have HB5 := Lib.hid hx5.b
      have HM5 := Lib.hid (HM4.out.below hx5.b HG4.out)
      have HX5 := Lib.hid (HXO.out.same (fun y hy => hx5.b.block y (Nat.lt_trans (HNL.out y hy) HG4.out)))
      have hmo5 := HMO.out.same (fun y hy => hx5.k y (HMK.out.1 y hy)) hx5.b.size
      have hsz5 := Nat.le_trans HSZ.out hx5.b.size
      clear d0 d1 d2 d3 d4 d5
      by_cases hE : E = 0
      · subst hE
        have hl : putL l x.m = ins l x.m := by unfold putL; rw [if_pos HE.out]
        rw [hl] at hx5
        have HX6 := Lib.hid hx5.bx
        have HK5 := Lib.hid hx5.k
        have HMO5 := Lib.hid hmo5
        have HSZ5 := Lib.hid hsz5
        have HF := Lib.hid (find_calls K B B (ins l x.m) x.m.a1 x.m.a2 x.m.i1 x.m.i2 w5 hx5.bx)
        obtain ⟨d0, d1, d2, d3, d4, d5⟩ := HM5.out.cells
        clear hx5 hl hmo5 hsz5 HP
        go_upto_region 10 with (fail)
        go_wp2_with fail
        refine HF.out.mono ?_
        intro e w6 h6
        obtain ⟨X6, c6, rfl, hr6, hb6⟩ := once_find HI.out HE.out h6
        clear h6 HF d0 d1 d2 d3 d4 d5
        have HR6 := Lib.hid hr6
        have HB6 := Lib.hid hb6
        have hm6 := HM5.out.below hb6 (Nat.lt_of_lt_of_le HG4.out HSZ5.out)
        obtain ⟨d0, d1, d2, d3, d4, d5⟩ := hm6.cells
        have HM6 := Lib.hid hm6
        have hx6 := HX5.out.same (fun y hy => hb6.block y (Nat.lt_of_lt_of_le (Nat.lt_trans (HNL.out y hy) HG4.out) HSZ5.out))
        have HX7 := Lib.hid hx6
        have HBX6 := Lib.hid (HX6.out.below hb6)
        have HMO6 := Lib.hid (HMO5.out.below hb6)
        have hsz6 := Nat.le_trans HSZ5.out hb6.size
        have HSZ6 := Lib.hid hsz6
        have HIN := Lib.hid (ints_calls X6 x.a x.m.ar.length x.m.ar.length c6 x.c x.m.ar x.m.ar w6 rfl rfl hr6 hx6.rd (by have := HAL.out; omega) (by have := HAL.out; omega))
        rw [decide_eq_true rfl] at HIN
        have hn4 : n4 = l.length := HN4.out
        have hlen : (ins l x.m).length = n4 + 1 := by rw [ins_length, hn4]
        have hn41 : n4 ≤ 1024 := by rw [hn4]; exact HI.out.n
        have HL6 : Hid (∀ w', Below w6.heap.size w6 w' → Calls Try.prog 20 #[.pointer (some ⟨B, 0, none⟩)] w' fun e w'' => e = .returned (.int .i64 ((n4 : Int) + 1)) ∧ w' = w'') := Lib.hid (fun w' hb => (len_calls (HBX6.out.below hb)).mono fun e w'' h => ⟨by rw [h.1, hlen]; rfl, h.2⟩)
        have wn : IntKind.i64.wrap ((n4 : Int) + 1) = (n4 : Int) + 1 := IntWalk.i64_in _ (by omega)
        clear hr6 hb6 hm6 hx6 hn4 hlen hsz6
        go_upto_region 11 with (fail)
        go_wp2_with fail
        refine HIN.out.mono ?_
        rintro e w7 ⟨rfl, hb7⟩
        have HL7 := Lib.hid (HL6.out w7 hb7)
        have HB7 := Lib.hid hb7
        clear hb7 HL6 HIN
        go_wp2_with fail
        refine HL7.out.mono ?_
        rintro e w8 ⟨rfl, rfl⟩
        go_upto_region 13 with (fail)
        clear HL7 d0 d1 d2 d3 d4 d5 wn
        have HBX8 := Lib.hid (HBX6.out.below HB7.out)
        have HMO8 := Lib.hid (HMO6.out.below HB7.out)
        have HSZ8 := Lib.hid (Nat.le_trans HSZ6.out HB7.out.size)
        have HM8 := Lib.hid (HM6.out.below HB7.out (Nat.lt_of_lt_of_le HG4.out HSZ6.out))
        have HT1 := Lib.hid (take_calls K B B (ins l x.m) x.m.a1 x.m.a2 x.m.i1 x.m.i2 w7 HBX8.out HSZ8.out)
        have HX8 := Lib.hid (HX7.out.same (fun y hy => HB7.out.block y (Nat.lt_of_lt_of_le (Nat.lt_trans (HNL.out y hy) HG4.out) HSZ6.out)))
        obtain ⟨d0, d1, d2, d3, d4, d5⟩ := HM8.out.cells
        go_wp2_with fail
        refine HT1.out.mono ?_
        intro e w9 h9
        obtain ⟨X9, c9, rfl, hr9, hx9⟩ := once_take HI.out HE.out h9
        have HR9 := Lib.hid hr9
        have HB9 := Lib.hid hx9.b
        have HBX9 := Lib.hid hx9.bx
        have HMO9 := Lib.hid (HMO8.out.same (fun y hy => hx9.k y (HMK.out.1 y hy)) hx9.b.size)
        have HSZ9 := Lib.hid (Nat.le_trans HSZ8.out hx9.b.size)
        have HM9 := Lib.hid (HM8.out.below hx9.b HG4.out)
        have HX9 := Lib.hid (HX8.out.same (fun y hy => hx9.b.block y (Nat.lt_trans (HNL.out y hy) HG4.out)))
        have HT2 := Lib.hid (take_calls K B B l x.m.a1 x.m.a2 x.m.i1 x.m.i2 w9 HBX9.out HSZ9.out)
        clear h9 hr9 hx9 HT1 d0 d1 d2 d3 d4 d5
        go_upto_region 14 with (fail)
        obtain ⟨d0, d1, d2, d3, d4, d5⟩ := HM9.out.cells
        go_wp2_with fail
        refine HT2.out.mono ?_
        intro e w10 h10
        obtain ⟨rfl, hb10⟩ := once_gone HE.out h10
        have HB10 := Lib.hid hb10
        have HBX10 := Lib.hid (HBX9.out.below hb10)
        have HMO10 := Lib.hid (HMO9.out.below hb10)
        have HSZ10 := Lib.hid (Nat.le_trans HSZ9.out hb10.size)
        have HM10 := Lib.hid (HM9.out.below hb10 (Nat.lt_of_lt_of_le HG4.out HSZ9.out))
        have HX10 := Lib.hid (HX9.out.same (fun y hy => hb10.block y (Nat.lt_of_lt_of_le (Nat.lt_trans (HNL.out y hy) HG4.out) HSZ9.out)))
        have HR10 := Lib.hid (HR9.out.below hb10)
        have HF2 := Lib.hid (find_calls K B B l x.m.a1 x.m.a2 x.m.i1 x.m.i2 w10 HBX10.out)
        clear h10 hb10 HT2 d0 d1 d2 d3 d4 d5
        go_upto_region 15 with (fail)
        obtain ⟨d0, d1, d2, d3, d4, d5⟩ := HM10.out.cells
        go_wp2_with fail
        refine HF2.out.mono ?_
        intro e w11 h11
        obtain ⟨rfl, hb11⟩ := once_lost HE.out h11
        have HB11 := Lib.hid hb11
        have HBX11 := Lib.hid (HBX10.out.below hb11)
        have HMO11 := Lib.hid (HMO10.out.below hb11)
        have HSZ11 := Lib.hid (Nat.le_trans HSZ10.out hb11.size)
        have HM11 := Lib.hid (HM10.out.below hb11 (Nat.lt_of_lt_of_le HG4.out HSZ10.out))
        have HX11 := Lib.hid (HX10.out.same (fun y hy => hb11.block y (Nat.lt_of_lt_of_le (Nat.lt_trans (HNL.out y hy) HG4.out) HSZ10.out)))
        have HI11 := Lib.hid (ints_calls X9 x.a x.m.ar.length x.m.ar.length c9 x.c x.m.ar x.m.ar w11 rfl rfl (HR10.out.below hb11) HX11.out.rd (by have := HAL.out; omega) (by have := HAL.out; omega))
        rw [decide_eq_true rfl] at HI11
        clear h11 hb11 HF2 d0 d1 d2 d3 d4 d5
        go_upto_region 16 with (fail)
        obtain ⟨d0, d1, d2, d3, d4, d5⟩ := HM11.out.cells
        go_wp2_with fail
        refine HI11.out.mono ?_
        rintro e w12 ⟨rfl, hb12⟩
        have HB12 := Lib.hid hb12
        have HS := Lib.hid (same_calls (R := B) B B l A4 n4 c4 w12 ⟨K, M, HBX11.out.below hb12, HMO11.out.below hb12, HMK.out⟩)
        have hg := Nat.le_of_lt HG4.out
        have HF5 : Hid (Below w.heap.size w w12) := Lib.hid (HBT4.out.trans ((HB5.out.mono hg).trans ((HB6.out.mono (Nat.le_trans hg HSZ5.out)).trans ((HB7.out.mono (Nat.le_trans hg HSZ6.out)).trans ((HB9.out.mono hg).trans ((HB10.out.mono (Nat.le_trans hg HSZ9.out)).trans ((HB11.out.mono (Nat.le_trans hg HSZ10.out)).trans (hb12.mono (Nat.le_trans hg HSZ11.out)))))))))
        clear hb12 hg HI11 d0 d1 d2 d3 d4 d5
        go_wp2_with fail
        refine HS.out.mono ?_
        rintro e w13 ⟨rfl, hb13⟩
        have HF13 := Lib.hid (HF5.out.trans (hb13.mono HF5.out.size))
        clear hb13
        go_wp2_with fail
        go_ret
        exact ⟨rfl, HF13.out⟩
      · have hl : putL l x.m = l := by unfold putL; rw [if_neg (by rw [HE.out]; exact hE)]
        rw [hl] at hx5
        have HS := Lib.hid (same_calls B B l A4 n4 c4 w5 ⟨K, M, hx5.bx, hmo5, HMK.out⟩)
        have e1 : (E == 0) = false := by simpa using hE
        have e2 : decide (E = 0) = false := decide_eq_false hE
        have HSZ5 := Lib.hid hsz5
        clear hx5 hl hmo5 hsz5
        go_wp2_with fail
        refine HS.out.mono ?_
        rintro e w6 ⟨rfl, hb6⟩
        have HB6 := Lib.hid hb6
        clear hb6 e1 e2
        go_wp2_with fail
        go_ret
        exact ⟨rfl, HBT4.out.trans ((HB5.out.mono (Nat.le_of_lt HG4.out)).trans (HB6.out.mono (Nat.le_trans (Nat.le_of_lt HG4.out) HSZ5.out)))⟩
theorem once_row (W : World) (A : Option Addr) (n c : Nat) (os : List Ot) (h : IsO W (List.range W.heap.size) A n c os) (x : Mm) (hx : x.ok W (List.range W.heap.size)) :
    Calls Try.prog 5 #[.slice A n c, .agg x.cells.toArray] W fun e w' => e = .returned (.bool true) ∧ Below W.heap.size W w' := once_calls _ A n c os x W h hx
end Mb
end Go.Proofs.Ytddoepaplbnlcaa

/- Arguments of type Message and api.ID, opened. -/
namespace Go.Proofs.Ytddoepaplbnlcaa
open Go.ChangeShapes Go.WideShapes Go.ChangeAt Go.RowKit Go.Deep
section
variable {H : Type} {enc : TypeId × Value → H} {P : Program} {W : World} {b : Nat} {sp : Nat → Bool} {hd : Bool}
/-- a struct as an argument: its cells -/
theorem open_structN {t : TypeId} {fs : Array Field} {r : Reach} {b0 : Nat} {v : Value} {d : DataW H} {p : List MemPlace} (ht : P.underlying t = some (.struct fs)) (hv : Value.okWide P W r b0 t v) (h : DataW.Trod enc P W b sp hd t v d p) :
    ∃ cs : List Value, v = .agg cs.toArray ∧ cs.length = P.cellsOf t ∧ ∃ k y, DataW.trod enc P W b sp hd k t cs = some y := by
  have hv2 : ∃ cs, v = .agg cs ∧ cs.size = P.cellsOf t := by
    simp only [Value.okWide, ht] at hv
    obtain ⟨cs, h1, h2, _⟩ := hv
    exact ⟨cs, h1, h2⟩
  obtain ⟨⟨cs⟩, rfl, hsz⟩ := hv2
  obtain ⟨fuel, hf⟩ := h
  exact ⟨cs, rfl, hsz, fuel, _, hf⟩
end
namespace Mb
section
variable {H : Type} {enc : TypeId × Value → H} {W : World} {b : Nat} {sp : Nat → Bool} {hd : Bool}
theorem cells_msg : Try.prog.cellsOf 36 = 6 := by kernel_rfl
theorem cells_id : Try.prog.cellsOf 30 = 2 := by kernel_rfl
set_option maxRecDepth 100000 in
theorem open_msg {r : Reach} {b0 : Nat} {v : Value} {d : DataW H} {p : List MemPlace} (hv : Value.okWide Try.prog W r b0 36 v) (h : DataW.Trod enc Try.prog W b sp hd 36 v d p) :
    ∃ x : Mm, v = .agg x.cells.toArray ∧ x.ok W (List.range W.heap.size) := by
  obtain ⟨cs, rfl, hl, k, y, hf⟩ := open_structN Try.underlying36 hv h
  have hl6 : cs.length = 6 := hl.trans cells_msg
  match cs, hl6 with
  | [u0, u1, u2, u3, u4, u5], _ =>
    obtain ⟨x, e, hx⟩ := open_msgc hf
    exact ⟨x, by rw [e], hx⟩
set_option maxRecDepth 100000 in
theorem open_id {r : Reach} {b0 : Nat} {v : Value} {d : DataW H} {p : List MemPlace} (hv : Value.okWide Try.prog W r b0 30 v) (h : DataW.Trod enc Try.prog W b sp hd 30 v d p) :
    ∃ a c : Int, v = .agg #[.int .i64 a, .int .i64 c] ∧ (-9223372036854775808 ≤ a ∧ a ≤ 9223372036854775807) ∧ (-9223372036854775808 ≤ c ∧ c ≤ 9223372036854775807) := by
  obtain ⟨cs, rfl, hl, k, y, hf⟩ := open_structN Try.underlying30 hv h
  have hl2 : cs.length = 2 := hl.trans cells_id
  match cs, hl2 with
  | [u0, u1], _ =>
    obtain ⟨a, c, rfl, rfl, h1, h2⟩ := open_idc hf
    exact ⟨a, c, rfl, h1, h2⟩
end
end Mb
end Go.Proofs.Ytddoepaplbnlcaa
