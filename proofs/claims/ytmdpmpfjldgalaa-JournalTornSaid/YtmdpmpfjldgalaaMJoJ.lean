/- The walk of the law JournalRoom. -/
import Derived.Test.YtmdpmpfjldgalaaMJoI
namespace Go.Proofs.Ytmdpmpfjldgalaa
open Go.RowKit
namespace Jn
open Dk Wi Wr

theorem below_set9 {B nb : Nat} {w0 w : World} {c0 c1 c2 c3 c4 c5 c6 c7 c8 : Value} (h : Below B w0 w) (hB : B ≤ w.heap.size) (hnb : B ≤ nb) : Below B w0 ((((((((((w.setCell ⟨nb, 0, none⟩ c0).setCell ⟨nb, 1, none⟩ c1).setCell ⟨nb, 2, none⟩ c2).setCell ⟨nb, 3, none⟩ c3).setCell ⟨nb, 4, none⟩ c4).setCell ⟨nb, 5, none⟩ c5).setCell ⟨nb, 6, none⟩ c6).setCell ⟨nb, 7, none⟩ c7).setCell ⟨nb, 8, none⟩ c8)) :=
  h.trans ((chg_set9 w nb c0 c1 c2 c3 c4 c5 c6 c7 c8).below hB (by simpa using hnb))
/-- what seen leaves, with its idle cells -/
def SeenX (w : World) (t : Nat) (s : List UInt8) (rs : List (List UInt8)) (e : Ending) (w' : World) : Prop :=
  ∃ sa sl sc ra rl rc N, e = .returned (.agg #[.slice none 0 0, .slice none 0 0, .bool false, .int .i64 0, .int .i64 (t : Int), .slice sa sl sc, .slice ra rl rc, .int .i64 0, .bool false]) ∧
    SmV w' N (.agg #[.slice none 0 0, .slice none 0 0, .bool false, .int .i64 0, .int .i64 (t : Int), .slice sa sl sc, .slice ra rl rc, .int .i64 0, .bool false]) t s rs ∧ Below w.heap.size w w' ∧ ∀ y ∈ N, w.heap.size ≤ y ∧ y < w'.heap.size
set_option maxRecDepth 100000 in
set_option maxHeartbeats 1000000 in
theorem seenx_calls {gj g h : Nat} {W R : List Nat} {j : Jr} (w : World) (k : IsJ w gj g W R h j) (hh : h ≤ 100) : Calls Try.prog 24 #[.pointer (some ⟨gj, 0, none⟩)] w (SeenX w j.t j.s j.rs) := by
  have hb1 := below1 w (.cells #[.slice none 0 0, .slice none 0 0, .bool false, .int .i64 0, .int .i64 0, .slice none 0 0, .slice none 0 0, .int .i64 0, .bool false] 46)
  have hk1 := heap_alloc_new w (.cells #[.slice none 0 0, .slice none 0 0, .bool false, .int .i64 0, .int .i64 0, .slice none 0 0, .slice none 0 0, .int .i64 0, .bool false] 46)
  obtain ⟨w1, HW1⟩ : ∃ x, Hid (w.alloc (.cells #[.slice none 0 0, .slice none 0 0, .bool false, .int .i64 0, .int .i64 0, .slice none 0 0, .slice none 0 0, .int .i64 0, .bool false] 46) = x) := ⟨_, rfl⟩
  rw [HW1.out] at hb1 hk1
  have HB1 := Lib.hid hb1
  have HK1 := Lib.hid hk1
  have hs1 : w.heap.size < w1.heap.size := (Array.getElem?_eq_some_iff.1 hk1).1
  have HK := Lib.hid (k.below hb1)
  have HT := Lib.hid (turn_calls HK.out)
  have HS := Lib.hid (state_calls HK.out hh)
  clear k hb1 hk1
  go_enter Try.func24, Try.ntmps24
  go_upto_region 1 with (fail)
  rw [HW1.out]
  go_wp2_with fail
  (with_reducible refine HT.out.mono ?_)
  rintro e w2 ⟨rfl, rfl⟩
  go_wp2_with fail
  (with_reducible refine HS.out.mono ?_)
  rintro e w2 ⟨Y, c, k, rfl, hk, ho, hb2⟩
  have HB2 := Lib.hid hb2
  have HKL := Lib.hid hk
  have HO := Lib.hid ho
  have hs2 := hb2.size
  have HR := Lib.hid (records_calls (HK.out.below hb2) hh)
  clear hb2 hk ho
  go_wp2_with fail
  (with_reducible refine HR.out.mono ?_)
  rintro e w3 ⟨A, c3, ms, N, rfl, hrs, hrr, hN, hb3⟩
  have HB3 := Lib.hid hb3
  have HRS := Lib.hid hrs
  have HRR := Lib.hid hrr
  have HNN := Lib.hid hN
  have hz3 := Lib.hid ((hb3.block _ (by omega)).trans ((HB2.out.block _ hs1).trans HK1.out))
  have HF : Hid (SeenX w j.t j.s j.rs (.returned (.agg #[.slice none 0 0, .slice none 0 0, .bool false, .int .i64 0, .int .i64 (j.t : Int), .slice Y k c, .slice A ms.length c3, .int .i64 0, .bool false])) (((((((((w3.setCell ⟨w.heap.size, 0, none⟩ (.slice none 0 0)).setCell ⟨w.heap.size, 1, none⟩ (.slice none 0 0)).setCell ⟨w.heap.size, 2, none⟩ (.bool false)).setCell ⟨w.heap.size, 3, none⟩ (.int .i64 0)).setCell ⟨w.heap.size, 4, none⟩ (.int .i64 (j.t : Int))).setCell ⟨w.heap.size, 5, none⟩ (.slice Y k c)).setCell ⟨w.heap.size, 6, none⟩ (.slice A ms.length c3)).setCell ⟨w.heap.size, 7, none⟩ (.int .i64 0)).setCell ⟨w.heap.size, 8, none⟩ (.bool false))) := by
    have hcs := chg_set9 w3 w.heap.size (.slice none 0 0) (.slice none 0 0) (.bool false) (.int .i64 0) (.int .i64 (j.t : Int)) (.slice Y k c) (.slice A ms.length c3) (.int .i64 0) (.bool false)
    have hY : ∀ x ∈ bl Y, w1.heap.size ≤ x ∧ x < w2.heap.size := fun x hx => by
      obtain ⟨off, rfl⟩ := mem_bl hx
      have h := HO.out
      unfold OB at h
      rw [← HKL.out] at h
      exact own_cut (k := 0) (c' := c) h (by rw [cutA_zero])
    have hr := HO.out.rb
    have hk' := HKL.out
    subst hk'
    have hB : Below w.heap.size w w3 := HB1.out.trans ((HB2.out.trans (HB3.out.mono hs2)).mono HB1.out.size)
    have hsz := hcs.size
    have hs3 := HB3.out.size
    refine ⟨Y, _, c, A, ms.length, c3, bl Y ++ N, rfl, ⟨_, _, _, _, Y, c, A, c3, ms, _, _, rfl, ?_, ?_, HRS.out⟩, hB.trans (hcs.below hB.size (by simp)), fun y hy => ?_⟩
    · refine InR.chg (InR.below ⟨hr.1, hr.2.2.1, hr.2.2.2, fun _ b off e => by rw [show Y = _ from e]; simp [bl]⟩ HB3.out) hcs (fun x hx hm => ?_)
      simp only [List.mem_singleton] at hx
      subst hx
      rcases List.mem_append.1 hm with hm | hm
      · have := (hY _ hm).1; omega
      · have := (HNN.out _ hm).1; omega
    · refine (HRR.out.sub (fun x hx => List.mem_append_right _ hx)).kept (fun x hx => hcs.block x ?_ (fun hm => ?_))
      · rcases List.mem_append.1 hx with hx | hx
        · have := (hY _ hx).2; omega
        · exact (HNN.out _ hx).2
      · simp only [List.mem_singleton] at hm
        subst hm
        rcases List.mem_append.1 hx with hx | hx
        · have := (hY _ hx).1; omega
        · have := (HNN.out _ hx).1; omega
    · rcases List.mem_append.1 hy with hy | hy
      · have := hY _ hy; omega
      · have := HNN.out _ hy; omega
  clear hb3 hrs hrr hN HR HS HT
  have zc0 : w3.cell? ⟨w.heap.size, 0, none⟩ = some _ := (cell_of_row _ _ 0 _ _ _ hz3.out).trans rfl; have zf0 : w3.frozen? ⟨w.heap.size, 0, none⟩ = false := frozen_of_row _ _ _ _ _ hz3.out; have zc1 : w3.cell? ⟨w.heap.size, 1, none⟩ = some _ := (cell_of_row _ _ 1 _ _ _ hz3.out).trans rfl; have zf1 : w3.frozen? ⟨w.heap.size, 1, none⟩ = false := frozen_of_row _ _ _ _ _ hz3.out; have zc2 : w3.cell? ⟨w.heap.size, 2, none⟩ = some _ := (cell_of_row _ _ 2 _ _ _ hz3.out).trans rfl; have zf2 : w3.frozen? ⟨w.heap.size, 2, none⟩ = false := frozen_of_row _ _ _ _ _ hz3.out; have zc3 : w3.cell? ⟨w.heap.size, 3, none⟩ = some _ := (cell_of_row _ _ 3 _ _ _ hz3.out).trans rfl; have zf3 : w3.frozen? ⟨w.heap.size, 3, none⟩ = false := frozen_of_row _ _ _ _ _ hz3.out; have zc4 : w3.cell? ⟨w.heap.size, 4, none⟩ = some _ := (cell_of_row _ _ 4 _ _ _ hz3.out).trans rfl; have zf4 : w3.frozen? ⟨w.heap.size, 4, none⟩ = false := frozen_of_row _ _ _ _ _ hz3.out; have zc5 : w3.cell? ⟨w.heap.size, 5, none⟩ = some _ := (cell_of_row _ _ 5 _ _ _ hz3.out).trans rfl; have zf5 : w3.frozen? ⟨w.heap.size, 5, none⟩ = false := frozen_of_row _ _ _ _ _ hz3.out; have zc6 : w3.cell? ⟨w.heap.size, 6, none⟩ = some _ := (cell_of_row _ _ 6 _ _ _ hz3.out).trans rfl; have zf6 : w3.frozen? ⟨w.heap.size, 6, none⟩ = false := frozen_of_row _ _ _ _ _ hz3.out; have zc7 : w3.cell? ⟨w.heap.size, 7, none⟩ = some _ := (cell_of_row _ _ 7 _ _ _ hz3.out).trans rfl; have zf7 : w3.frozen? ⟨w.heap.size, 7, none⟩ = false := frozen_of_row _ _ _ _ _ hz3.out; have zc8 : w3.cell? ⟨w.heap.size, 8, none⟩ = some _ := (cell_of_row _ _ 8 _ _ _ hz3.out).trans rfl; have zf8 : w3.frozen? ⟨w.heap.size, 8, none⟩ = false := frozen_of_row _ _ _ _ _ hz3.out
  go_wp2_with fail
  have hz := heap_set9 hz3.out (.slice none 0 0) (.slice none 0 0) (.bool false) (.int .i64 0) (.int .i64 (j.t : Int)) (.slice Y k c) (.slice A ms.length c3) (.int .i64 0) (.bool false)
  refine bodyPost_ret (results_cell_row rfl _ _ w.heap.size 46 _ (0, 0) _ rfl hz Try.underlying46 rfl size_jr) rfl ?_
  exact HF.out
section
variable {w0 w1 w w' w2 w6 : World} {F F' S N : List Nat} {x g q b t nb : Nat} {s : List UInt8} {rs : List (List UInt8)} {D : St} {j : Jr} {c0 c1 c2 c3 c4 c5 c6 c7 c8 : Value}
theorem PJ.turn (h : PJ w0 x g q F D j w) : Calls Try.prog 35 #[.pointer (some ⟨q, 0, none⟩)] w fun e w' => e = .returned (.int .i64 (j.t : Int)) ∧ w = w' := jo_turn h.jo
theorem PJ.room (h : PJ w0 x g q F D j w) (hn : D.n ≤ 100) : Calls Try.prog 25 #[.pointer (some ⟨q, 0, none⟩)] w fun e w' => e = .returned (.int .i64 ((half D - j.e : Nat) : Int)) ∧ Below w.heap.size w w' := jo_room h.jo hn
theorem PJ.records (h : PJ w0 x g q F D j w) (hn : D.n ≤ 100) : Calls Try.prog 36 #[.pointer (some ⟨q, 0, none⟩)] w fun e w' => ∃ X c, e = .returned (.slice X j.rs.length c) ∧ Below w.heap.size w w' := by
  obtain ⟨W, R, _, hi, _⟩ := h.jo
  refine (records_calls hi (by unfold half; omega)).mono ?_
  rintro e w' ⟨A, c, ms, N, rfl, hrs, _, _, hb⟩
  exact ⟨A, c, by rw [hrs, List.length_map], hb⟩
theorem PJ.seenN (h : PJ w0 x g q F D j w) (hn : D.n ≤ 100) : Calls Try.prog 24 #[.pointer (some ⟨q, 0, none⟩)] w (SeenX w j.t j.s j.rs) := by
  obtain ⟨W, R, _, hi, _⟩ := h.jo
  exact seenx_calls w hi (by unfold half; omega)
theorem was_alloc (h : PJ w0 x g q F D j w2) (hb : Below w2.heap.size w2 w6) (hN : ∀ y ∈ N, w2.heap.size ≤ y ∧ y < w6.heap.size) (hv : SmV w6 N (.agg #[c0, c1, c2, c3, c4, c5, c6, c7, c8]) t s rs) :
    ∃ F2, PJ w0 x g q F2 D j (w6.alloc (.cells #[c0, c1, c2, c3, c4, c5, c6, c7, c8] 46)) ∧ WB w0 F2 w6.heap.size t s rs (w6.alloc (.cells #[c0, c1, c2, c3, c4, c5, c6, c7, c8] 46)) := by
  have hb7 := below1 w6 (.cells #[c0, c1, c2, c3, c4, c5, c6, c7, c8] 46)
  have hn7 := heap_alloc_new w6 (.cells #[c0, c1, c2, c3, c4, c5, c6, c7, c8] 46)
  have hz7 : (w6.alloc (.cells #[c0, c1, c2, c3, c4, c5, c6, c7, c8] 46)).heap.size = w6.heap.size + 1 := by simp
  have hs := hb.size
  refine ⟨w6.heap.size :: (N ++ F), h.grow (hb.trans (hb7.mono hs)) (fun y hy => ?_) (by have := h.xF; simp [this]), ⟨_, _, _, _, _, _, _, _, _, N, hn7, hv.below hb7, by simp, fun y hy => .inl (by simp [hy]), fun hy => by have := (hN _ hy).2; omega⟩⟩
  simp only [List.mem_cons, List.mem_append] at hy
  rcases hy with rfl | hy | hy
  · exact .inr ⟨hs, by omega⟩
  · exact .inr ⟨(hN y hy).1, by have := (hN y hy).2; omega⟩
  · exact .inl hy
theorem was_set {a0 a1 a2 a3 a4 a5 a6 a7 a8 : Value} (h : PJ w0 x g q F D j w2) (hb : Below w2.heap.size w2 w6) (hN : ∀ y ∈ N, w2.heap.size ≤ y ∧ y < w6.heap.size) (hv : SmV w6 N (.agg #[c0, c1, c2, c3, c4, c5, c6, c7, c8]) t s rs)
    (hz : w6.heap[nb]? = some (.cells #[a0, a1, a2, a3, a4, a5, a6, a7, a8] 46 (0, 0))) (hnb : w2.heap.size ≤ nb) (hnN : nb ∉ N) :
    ∃ F2, PJ w0 x g q F2 D j ((((((((((w6.setCell ⟨nb, 0, none⟩ c0).setCell ⟨nb, 1, none⟩ c1).setCell ⟨nb, 2, none⟩ c2).setCell ⟨nb, 3, none⟩ c3).setCell ⟨nb, 4, none⟩ c4).setCell ⟨nb, 5, none⟩ c5).setCell ⟨nb, 6, none⟩ c6).setCell ⟨nb, 7, none⟩ c7).setCell ⟨nb, 8, none⟩ c8)) ∧ WB w0 F2 nb t s rs ((((((((((w6.setCell ⟨nb, 0, none⟩ c0).setCell ⟨nb, 1, none⟩ c1).setCell ⟨nb, 2, none⟩ c2).setCell ⟨nb, 3, none⟩ c3).setCell ⟨nb, 4, none⟩ c4).setCell ⟨nb, 5, none⟩ c5).setCell ⟨nb, 6, none⟩ c6).setCell ⟨nb, 7, none⟩ c7).setCell ⟨nb, 8, none⟩ c8)) := by
  have hcs := chg_set9 w6 nb c0 c1 c2 c3 c4 c5 c6 c7 c8
  have hn7 := heap_set9 hz c0 c1 c2 c3 c4 c5 c6 c7 c8
  have hnl : nb < w6.heap.size := (Array.getElem?_eq_some_iff.1 hz).1
  have hxl := h.xl
  refine ⟨nb :: (N ++ F), (h.grow hb (F' := nb :: (N ++ F)) (fun y hy => ?_) (by have := h.xF; simp [this])).wr hcs (fun y hy => ?_) (by simp; omega), ⟨_, _, _, _, _, _, _, _, _, N, hn7, hv.kept (fun y hy => hcs.block y (hN y hy).2 (fun hm => ?_)), by simp, fun y hy => .inl (by simp [hy]), hnN⟩⟩
  · simp only [List.mem_cons, List.mem_append] at hy
    rcases hy with rfl | hy | hy
    · exact .inr ⟨hnb, hnl⟩
    · exact .inr (hN y hy)
    · exact .inl hy
  · simp only [List.mem_singleton] at hy
    subst hy
    exact ⟨by simp, Nat.le_trans h.b.size hnb⟩
  · simp only [List.mem_singleton] at hm
    subst hm
    exact hnN hy
/-- a record more in the variable -/
theorem WB.push {w8 w10 : World} {A sa ra X10 : Option Addr} {c n sc rc c10 : Nat} {l : List UInt8} {NR : List Nat} {ms : List Rm} {u : Value} (hw8 : Below w1.heap.size w1 w8) (hb : Below w8.heap.size w8 w10)
    (hd : w8.heap[b]? = some (.cells #[c0, c1, c2, c3, .int .i64 (t : Int), .slice sa s.length sc, .slice ra ms.length rc, c7, c8] 46 (0, 0))) (hs : InR w8 N ⟨sa, sc, s⟩) (hr : RsR w8 N ra rc ms) (hbF : b ∈ F) (hNF : ∀ y ∈ N, y ∈ F ∨ y < w1.heap.size) (hbN : b ∉ N) (hNl : ∀ y ∈ N, y < w8.heap.size)
    (hR : InR w1 NR ⟨A, c, l⟩) (hRl : ∀ y ∈ NR, y < w1.heap.size) (hl : l.length = n) (hu : u = .slice A n c) (hb1 : w1.heap.size ≤ b)
    (ho : w10.ownsRow w8.heap.size 29 1 (.slice X10 (ms.length + 1) c10) (ms.length + 1) (ms.map rval ++ [u])) (hF' : ∀ y ∈ bl X10 ++ F, y ∈ F') :
    WB w1 F' b t s (ms.map (·.d) ++ [l]) (w10.setCell ⟨b, 6, none⟩ (.slice X10 (ms.length + 1) c10)) := by
  subst hl hu
  have hbl8 : b < w8.heap.size := (Array.getElem?_eq_some_iff.1 hd).1
  have hcs : Chg [b] w10 (w10.setCell ⟨b, 6, none⟩ (.slice X10 (ms.length + 1) c10)) := (Chg.refl _ _).setCell (p := ⟨b, 6, none⟩) (.inl (by simp)) _
  have hX : ∀ y ∈ bl X10, w8.heap.size ≤ y ∧ y < w10.heap.size := fun y hy => by
    obtain ⟨off, rfl⟩ := mem_bl hy
    exact own_cut (k := 0) (c' := c10) ho (by rw [cutA_zero])
  obtain ⟨_, _, e0, hk1, hk2, _, hrd⟩ := own_form ho
  cases e0
  have hkN : Kept N w8 (w10.setCell ⟨b, 6, none⟩ (.slice X10 (ms.length + 1) c10)) := (Kept.of_below hNl hb).trans (fun y hy => hcs.block y (Nat.lt_of_lt_of_le (hNl y hy) hb.size) (fun hm => by simp only [List.mem_singleton] at hm; subst hm; exact hbN hy))
  have hw10 : Below w1.heap.size w1 w10 := hw8.trans (hb.mono hw8.size)
  have hwe : Below w1.heap.size w1 (w10.setCell ⟨b, 6, none⟩ (.slice X10 (ms.length + 1) c10)) := hw10.trans (hcs.below hw10.size (by simpa using hb1))
  refine ⟨_, _, _, _, _, _, _, _, _, bl X10 ++ (N ++ NR), heap_setCell_same _ _ _ _ _ _ ((hb.block _ hbl8).trans hd), ⟨_, _, _, _, _, _, X10, c10, ms ++ [⟨A, c, l⟩], _, _, by rw [List.length_append]; rfl, (hs.kept hkN).sub (fun y hy => by simp [hy]), ⟨?_, by rw [List.length_append]; exact hk1, hk2, fun _ b off e => by rw [e]; simp [bl], fun m hm => ?_⟩, by rw [List.map_append]; rfl⟩, hF' b (by simp [hbF]), fun y hy => ?_, fun hy => ?_⟩
  · rw [List.map_append]
    exact hcs.rd hrd (fun b' off e hm => by
      simp only [List.mem_singleton] at hm
      have := (hX b' (by rw [e]; simp [bl])).1
      omega)
  · rcases List.mem_append.1 hm with hm | hm
    · exact ((hr.el m hm).kept hkN).sub (fun y hy => by simp [hy])
    · simp only [List.mem_singleton] at hm
      subst hm
      exact (hR.below hwe).sub (fun y hy => by simp [hy])
  · rcases List.mem_append.1 hy with hy | hy
    · exact .inl (hF' y (by simp [hy]))
    · rcases List.mem_append.1 hy with hy | hy
      · exact (hNF y hy).imp (fun h => hF' y (by simp [h])) id
      · exact .inr (hRl y hy)
  · rcases List.mem_append.1 hy with hy | hy
    · have := (hX b hy).1; omega
    · rcases List.mem_append.1 hy with hy | hy
      · exact hbN hy
      · have := hRl b hy; omega
end
end Jn
end Go.Proofs.Ytmdpmpfjldgalaa
