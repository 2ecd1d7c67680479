/- The walks of refmeshref19: FailAfter, Sync, Crash. -/
import Derived.Test.YtoallpinpeolfaaDkW
namespace Go.Proofs.Ytoallpinpeolfaa
open Go.RowKit
namespace Dk

/-- the writes are forgotten, the bytes are others -/
theorem IsK'.fresh {w : World} {N0 : List Nat} {D : St} {A X Y : Option Addr} {ca cx cy : Nat} {P : List Pm} {b : List UInt8} {f : Int} {x : Bool} (h : IsK' w N0 D A ca X cx P) (hr : RB w Y b) (hbl : b.length = 64 * D.n) (hcy : 64 * D.n ≤ cy) (hcm : cy ≤ maxLen)
    (_hy : ∀ c off, Y = some ⟨c, off, none⟩ → c < w.heap.size) (hf : -1 ≤ f ∧ f ≤ 9223372036854775807) : IsK' w (Value.slice Y 0 0).ownBlock.toList { n := D.n, b := b, p := [], f := f, x := x } Y cy none 0 [] := by
  refine ⟨hr, Rd.nil, rfl, fun m hm => absurd hm (by simp), ⟨h.ok.n1, h.ok.n2, hbl, by simp, hf.1, hf.2⟩, hcy, hcm, Nat.le_refl _, by simp [maxLen], fun c off e => by rw [e]; simp [Value.ownBlock], fun hp => absurd hp (by simp), fun m hm => absurd hm (by simp), fun c hc => ?_⟩
  have h0 : 0 < b.length := by have := h.ok.n1; omega
  obtain ⟨b', off', e, hb', _⟩ := RB.cells hr h0
  rw [e] at hc
  simp [Value.ownBlock] at hc
  subst hc; exact hb'
theorem own0 {Y : Option Addr} {P : Nat → Prop} (h : ∀ c off, Y = some ⟨c, off, none⟩ → P c) (hs : ∀ a, Y = some a → a.spot = none) : ∀ x ∈ (Value.slice Y 0 0).ownBlock.toList, P x := by
  intro x hx
  cases Y with
  | none => simp [Value.ownBlock] at hx
  | some a =>
    simp [Value.ownBlock] at hx
    subst hx
    obtain ⟨b, off, sp⟩ := a
    have := hs _ rfl
    simp only at this
    subst this
    exact h b off rfl

set_option maxRecDepth 100000 in
theorem rfail_calls (v : Value) (N0 : List Nat) (D : St) (n : Int) (w : World) (h : IsK w N0 v D) (hn : n ≤ 9223372036854775807) : Calls Try.prog 43 #[v, .int .i64 n] w (KP w N0 (failD D n) id) := by
  obtain ⟨A, ca, X, cx, P, rfl, h⟩ := h
  have HF : Hid (∀ w', Below w.heap.size w w' → KP w N0 (failD D n) id (.returned (.agg #[.slice A (64 * D.n) ca, .slice X P.length cx, .bool D.x, .int .i64 (max n (-1))])) w') := by
    intro w' hb
    exact ⟨kval (failD D n) A ca X cx P, N0, rfl, ⟨A, ca, X, cx, P, rfl, (h.below hb).nums (max n (-1)) D.x ⟨by omega, by omega⟩⟩, hb, fun x hx => .inl hx⟩
  unfold kval
  clear h
  generalize 64 * D.n = N at *
  generalize P.length = pl at *
  go_enter Try.func43, Try.ntmps43
  go_wp2_with fail
  refine bodyPost_ret (results_cell_row rfl _ _ (w.heap.size + 1) 33 _ (0, 0) _ rfl (heap_alloc2_new _ _ _) Try.underlying33 rfl size_dk) rfl ?_
  exact HF.out _ (below2 _ _ _)

set_option maxRecDepth 100000 in
set_option maxHeartbeats 2000000 in
theorem rsync_calls (v : Value) (N0 : List Nat) (D : St) (w : World) (h : IsK w N0 v D) : Calls Try.prog 42 #[v] w (KP w N0 (syncD D) fun v' => .tuple #[v', .int .i64 (syncE D)]) := by
  have HK := Lib.hid h
  obtain ⟨A, ca, X, cx, P, rfl, h⟩ := h
  have HI := Lib.hid h
  have hok := h.ok
  have HSAME : Hid (∀ er w', syncD D = D → syncE D = er → Below w.heap.size w w' → KP w N0 (syncD D) (fun v' => .tuple #[v', .int .i64 (syncE D)]) (.returned (.tuple #[.agg #[.slice A (64 * D.n) ca, .slice X P.length cx, .bool D.x, .int .i64 D.f], .int .i64 er])) w') := by
    intro er w' h1 h2 hb
    rw [h1, h2]
    exact ⟨kval D A ca X cx P, N0, rfl, HK.out.below hb, hb, fun x hx => .inl hx⟩
  have HBU := fun w' (hb : Below w.heap.size w w') => Lib.hid (rburn_calls _ N0 D w' (HK.out.below hb))
  unfold kval at HBU ⊢
  obtain ⟨pl, HPL⟩ : ∃ x, Hid (P.length = x) := ⟨_, rfl⟩
  obtain ⟨N, HNN⟩ : ∃ x, Hid (64 * D.n = x) := ⟨_, rfl⟩
  rw [HPL.out, HNN.out] at HSAME
  rw [HPL.out, HNN.out] at HBU ⊢
  have HB2 := Lib.hid (below2 w (.cells #[.slice A N ca, .slice X pl cx, .bool D.x, .int .i64 D.f] 33) (.cells #[.slice none 0 0, .slice none 0 0, .bool false, .int .i64 0] 33))
  have hk1 : ((w.alloc (.cells #[.slice A N ca, .slice X pl cx, .bool D.x, .int .i64 D.f] 33)).alloc (.cells #[.slice none 0 0, .slice none 0 0, .bool false, .int .i64 0] 33)).heap[w.heap.size]? = some (.cells #[.slice A N ca, .slice X pl cx, .bool D.x, .int .i64 D.f] 33) := (Below.heap_alloc _ _ _ (by simp)).trans (heap_alloc_new _ _)
  have hk2 : ((w.alloc (.cells #[.slice A N ca, .slice X pl cx, .bool D.x, .int .i64 D.f] 33)).alloc (.cells #[.slice none 0 0, .slice none 0 0, .bool false, .int .i64 0] 33)).heap[w.heap.size + 1]? = some (.cells #[.slice none 0 0, .slice none 0 0, .bool false, .int .i64 0] 33) := heap_alloc2_new _ _ _
  have HK1 := Lib.hid hk1
  have HK2 := Lib.hid hk2
  clear h hk1 hk2
  cases hx : D.x with
  | true =>
    obtain ⟨e1, e2⟩ := sync_x hx
    have HF := Lib.hid (fun w' => HSAME.out 10 w' e1 e2)
    rw [hx] at HF HB2
    clear e1 e2 hx hok HBU HSAME HK1 HK2
    go_enter Try.func42, Try.ntmps42
    go_wp2_with fail
    refine bodyPost_ret (results_cell_tmp rfl _ _ (w.heap.size + 1) 33 _ (0, 0) _ rfl (heap_alloc2_new _ _ _) Try.underlying33 rfl size_dk) rfl ?_
    exact HF.out _ (below2 _ _ _)
  | false =>
    rw [hx] at HB2 HK1 HK2 HBU
    by_cases h0 : D.f = 0
    · obtain ⟨e1, e2⟩ := sync_0 hx h0
      have hbd : burnD D = { D with x := true } := by unfold burnD; rw [if_pos h0]
      have HF : Hid (∀ v' N' w', IsK w' N' v' (burnD D) → Below w.heap.size w w' → (∀ x ∈ N', x ∈ N0 ∨ w.heap.size ≤ x) → KP w N0 (syncD D) (fun v' => .tuple #[v', .int .i64 (syncE D)]) (.returned (.tuple #[v', .int .i64 10])) w') := by
        intro v' N' w' h1 h2 h3
        rw [e1, e2, ← hbd]
        exact ⟨v', N', rfl, h1, h2, h3⟩
      rw [decide_eq_true h0] at HBU
      clear e1 e2 hbd hx hok HSAME h0
      generalize burnD D = D1 at *
      go_enter Try.func42, Try.ntmps42
      go_wp2_with fail
      generalize (w.alloc (.cells #[.slice A N ca, .slice X pl cx, .bool false, .int .i64 D.f] 33)).alloc (.cells #[.slice none 0 0, .slice none 0 0, .bool false, .int .i64 0] 33) = w3 at *
      refine (HBU w3 HB2.out).out.mono ?_
      rintro e w4 ⟨v4, N4, rfl, ⟨A4, ca4, X4, cx4, P4, rfl, h4⟩, hb4, hn4⟩
      have HI4 := Lib.hid h4
      have HN4 := Lib.hid hn4
      have HK14 := Lib.hid ((hb4.block _ (Array.getElem?_eq_some_iff.1 HK1.out).1).trans HK1.out)
      have HK24 := Lib.hid ((hb4.block _ (Array.getElem?_eq_some_iff.1 HK2.out).1).trans HK2.out)
      have HB4 := Lib.hid (HB2.out.trans (hb4.mono HB2.out.size))
      have hs3 : w.heap.size + 2 ≤ w3.heap.size := (Array.getElem?_eq_some_iff.1 HK2.out).1
      unfold kval
      obtain ⟨pl4, HPL4⟩ : ∃ x, Hid (P4.length = x) := ⟨_, rfl⟩
      obtain ⟨N4', HNN4⟩ : ∃ x, Hid (64 * D1.n = x) := ⟨_, rfl⟩
      have HFI : Hid (∀ w', Chg [w.heap.size, w.heap.size + 1] w4 w' → KP w N0 (syncD D) (fun v' => .tuple #[v', .int .i64 (syncE D)]) (.returned (.tuple #[.agg #[.slice A4 N4' ca4, .slice X4 pl4 cx4, .bool D1.x, .int .i64 D1.f], .int .i64 10])) w') := by
        intro w' hc
        have hb := HB4.out.trans (hc.below HB4.out.size (by simp))
        have hk : Kept N4 w4 w' := fun x hx => hc.block x (HI4.out.nl x hx) (by
          rcases HN4.out x hx with h | h
          · have := HI.out.nl x h; simp; omega
          · simp; omega)
        have := HF.out (kval D1 A4 ca4 X4 cx4 P4) N4 w' ⟨A4, ca4, X4, cx4, P4, rfl, HI4.out.kept hk hc.size⟩ hb (fun x hx => (HN4.out x hx).imp id fun h => by omega)
        unfold kval at this
        rw [HPL4.out, HNN4.out] at this
        exact this
      rw [HPL4.out, HNN4.out]
      clear h4 hb4 hn4 HBU
      have rc0 : w4.cell? ⟨w.heap.size, 0, none⟩ = some _ := (cell_of_row _ _ 0 _ _ _ HK14.out).trans rfl; have rf0 : w4.frozen? ⟨w.heap.size, 0, none⟩ = false := frozen_of_row _ _ _ _ _ HK14.out; have rc1 : w4.cell? ⟨w.heap.size, 1, none⟩ = some _ := (cell_of_row _ _ 1 _ _ _ HK14.out).trans rfl; have rf1 : w4.frozen? ⟨w.heap.size, 1, none⟩ = false := frozen_of_row _ _ _ _ _ HK14.out; have rc2 : w4.cell? ⟨w.heap.size, 2, none⟩ = some _ := (cell_of_row _ _ 2 _ _ _ HK14.out).trans rfl; have rf2 : w4.frozen? ⟨w.heap.size, 2, none⟩ = false := frozen_of_row _ _ _ _ _ HK14.out; have rc3 : w4.cell? ⟨w.heap.size, 3, none⟩ = some _ := (cell_of_row _ _ 3 _ _ _ HK14.out).trans rfl; have rf3 : w4.frozen? ⟨w.heap.size, 3, none⟩ = false := frozen_of_row _ _ _ _ _ HK14.out
      have zc0 : w4.cell? ⟨w.heap.size + 1, 0, none⟩ = some _ := (cell_of_row _ _ 0 _ _ _ HK24.out).trans rfl; have zf0 : w4.frozen? ⟨w.heap.size + 1, 0, none⟩ = false := frozen_of_row _ _ _ _ _ HK24.out; have zc1 : w4.cell? ⟨w.heap.size + 1, 1, none⟩ = some _ := (cell_of_row _ _ 1 _ _ _ HK24.out).trans rfl; have zf1 : w4.frozen? ⟨w.heap.size + 1, 1, none⟩ = false := frozen_of_row _ _ _ _ _ HK24.out; have zc2 : w4.cell? ⟨w.heap.size + 1, 2, none⟩ = some _ := (cell_of_row _ _ 2 _ _ _ HK24.out).trans rfl; have zf2 : w4.frozen? ⟨w.heap.size + 1, 2, none⟩ = false := frozen_of_row _ _ _ _ _ HK24.out; have zc3 : w4.cell? ⟨w.heap.size + 1, 3, none⟩ = some _ := (cell_of_row _ _ 3 _ _ _ HK24.out).trans rfl; have zf3 : w4.frozen? ⟨w.heap.size + 1, 3, none⟩ = false := frozen_of_row _ _ _ _ _ HK24.out
      go_wp2_with fail
      have hz1 := heap_set4 HK14.out (.slice A4 N4' ca4) (.slice X4 pl4 cx4) (.bool D1.x) (.int .i64 D1.f)
      have hc1 := chg_set4 w4 w.heap.size (.slice A4 N4' ca4) (.slice X4 pl4 cx4) (.bool D1.x) (.int .i64 D1.f)
      have hz2 := heap_set4 (hc1.blk HK24.out (by simp)) (.slice A4 N4' ca4) (.slice X4 pl4 cx4) (.bool D1.x) (.int .i64 D1.f)
      have hc2 := chg_set4 ((((w4.setCell ⟨w.heap.size, 0, none⟩ (.slice A4 N4' ca4)).setCell ⟨w.heap.size, 1, none⟩ (.slice X4 pl4 cx4)).setCell ⟨w.heap.size, 2, none⟩ (.bool D1.x)).setCell ⟨w.heap.size, 3, none⟩ (.int .i64 D1.f)) (w.heap.size + 1) (.slice A4 N4' ca4) (.slice X4 pl4 cx4) (.bool D1.x) (.int .i64 D1.f)
      refine bodyPost_ret (results_cell_tmp rfl _ _ (w.heap.size + 1) 33 _ (0, 0) _ rfl hz2 Try.underlying33 rfl size_dk) rfl ?_
      exact HFI.out _ ((hc1.mono (by simp)).trans' (hc2.mono (by simp)))
    · obtain ⟨e1, e2⟩ := sync_ok hx h0
      have hbd : burnD D = { D with f := burnF D.f } := by unfold burnD; rw [if_neg h0]
      have HF : Hid (∀ v' N' w', IsK w' N' v' { burnD D with b := (burnD D).all, p := [] } → Below w.heap.size w w' → (∀ x ∈ N', x ∈ N0 ∨ w.heap.size ≤ x) → KP w N0 (syncD D) (fun v' => .tuple #[v', .int .i64 (syncE D)]) (.returned (.tuple #[v', .int .i64 0])) w') := by
        intro v' N' w' h1 h2 h3
        have : syncD D = { burnD D with b := (burnD D).all, p := [] } := by rw [e1, hbd]; rfl
        rw [this, e2]
        exact ⟨v', N', rfl, h1, h2, h3⟩
      rw [decide_eq_false h0] at HBU
      clear e1 e2 hbd hx hok HSAME h0
      generalize burnD D = D1 at *
      go_enter Try.func42, Try.ntmps42
      go_wp2_with fail
      generalize (w.alloc (.cells #[.slice A N ca, .slice X pl cx, .bool false, .int .i64 D.f] 33)).alloc (.cells #[.slice none 0 0, .slice none 0 0, .bool false, .int .i64 0] 33) = w3 at *
      refine (HBU w3 HB2.out).out.mono ?_
      rintro e w4 ⟨v4, N4, rfl, ⟨A4, ca4, X4, cx4, P4, rfl, h4⟩, hb4, hn4⟩
      have HI4 := Lib.hid h4
      have HN4 := Lib.hid hn4
      have HK14 := Lib.hid ((hb4.block _ (Array.getElem?_eq_some_iff.1 HK1.out).1).trans HK1.out)
      have HK24 := Lib.hid ((hb4.block _ (Array.getElem?_eq_some_iff.1 HK2.out).1).trans HK2.out)
      have HB4 := Lib.hid (HB2.out.trans (hb4.mono HB2.out.size))
      have hs3 : w.heap.size + 2 ≤ w3.heap.size := (Array.getElem?_eq_some_iff.1 HK2.out).1
      have hs4 : w3.heap.size ≤ w4.heap.size := hb4.size
      unfold kval
      obtain ⟨pl4, HPL4⟩ : ∃ x, Hid (P4.length = x) := ⟨_, rfl⟩
      obtain ⟨N4', HNN4⟩ : ∃ x, Hid (64 * D1.n = x) := ⟨_, rfl⟩
      rw [HPL4.out, HNN4.out]
      clear h4 hb4 hn4 HBU
      have rc0 : w4.cell? ⟨w.heap.size, 0, none⟩ = some _ := (cell_of_row _ _ 0 _ _ _ HK14.out).trans rfl; have rf0 : w4.frozen? ⟨w.heap.size, 0, none⟩ = false := frozen_of_row _ _ _ _ _ HK14.out; have rc1 : w4.cell? ⟨w.heap.size, 1, none⟩ = some _ := (cell_of_row _ _ 1 _ _ _ HK14.out).trans rfl; have rf1 : w4.frozen? ⟨w.heap.size, 1, none⟩ = false := frozen_of_row _ _ _ _ _ HK14.out; have rc2 : w4.cell? ⟨w.heap.size, 2, none⟩ = some _ := (cell_of_row _ _ 2 _ _ _ HK14.out).trans rfl; have rf2 : w4.frozen? ⟨w.heap.size, 2, none⟩ = false := frozen_of_row _ _ _ _ _ HK14.out; have rc3 : w4.cell? ⟨w.heap.size, 3, none⟩ = some _ := (cell_of_row _ _ 3 _ _ _ HK14.out).trans rfl; have rf3 : w4.frozen? ⟨w.heap.size, 3, none⟩ = false := frozen_of_row _ _ _ _ _ HK14.out
      go_upto_region 6 with (fail)
      have hz1 := heap_set4 HK14.out (.slice A4 N4' ca4) (.slice X4 pl4 cx4) (.bool D1.x) (.int .i64 D1.f)
      have hc1 := chg_set4 w4 w.heap.size (.slice A4 N4' ca4) (.slice X4 pl4 cx4) (.bool D1.x) (.int .i64 D1.f)
      generalize (((w4.setCell ⟨w.heap.size, 0, none⟩ (.slice A4 N4' ca4)).setCell ⟨w.heap.size, 1, none⟩ (.slice X4 pl4 cx4)).setCell ⟨w.heap.size, 2, none⟩ (.bool D1.x)).setCell ⟨w.heap.size, 3, none⟩ (.int .i64 D1.f) = w5 at *
      have HK15 := Lib.hid hz1
      have HK25 := Lib.hid (hc1.blk HK24.out (by simp))
      have HB5 := Lib.hid (HB4.out.trans (hc1.below HB4.out.size (by simp)))
      have HNR : Hid (∀ x ∈ N4, x ≠ w.heap.size ∧ x ≠ w.heap.size + 1) := by
        intro x hx
        rcases HN4.out x hx with h | h
        · have := HI.out.nl x h; omega
        · omega
      have HI5 : Hid (IsK' w5 N4 D1 A4 ca4 X4 cx4 P4) := HI4.out.kept (fun x hx => hc1.block x (HI4.out.nl x hx) (by simp; exact (HNR.out x hx).1)) hc1.size
      have hs5 : w.heap.size + 2 ≤ w5.heap.size := (Array.getElem?_eq_some_iff.1 HK25.out).1
      have HCO := Lib.hid (rcontents_calls (kval D1 A4 ca4 X4 cx4 P4) N4 D1 w5 ⟨A4, ca4, X4, cx4, P4, rfl, HI5.out⟩)
      unfold kval at HCO
      rw [HPL4.out, HNN4.out] at HCO
      clear hz1 hc1
      clear rc0 rf0 rc1 rf1 rc2 rf2 rc3 rf3
      have tc0 : w5.cell? ⟨w.heap.size, 0, none⟩ = some _ := (cell_of_row _ _ 0 _ _ _ HK15.out).trans rfl; have tf0 : w5.frozen? ⟨w.heap.size, 0, none⟩ = false := frozen_of_row _ _ _ _ _ HK15.out; have tc1 : w5.cell? ⟨w.heap.size, 1, none⟩ = some _ := (cell_of_row _ _ 1 _ _ _ HK15.out).trans rfl; have tf1 : w5.frozen? ⟨w.heap.size, 1, none⟩ = false := frozen_of_row _ _ _ _ _ HK15.out; have tc2 : w5.cell? ⟨w.heap.size, 2, none⟩ = some _ := (cell_of_row _ _ 2 _ _ _ HK15.out).trans rfl; have tf2 : w5.frozen? ⟨w.heap.size, 2, none⟩ = false := frozen_of_row _ _ _ _ _ HK15.out; have tc3 : w5.cell? ⟨w.heap.size, 3, none⟩ = some _ := (cell_of_row _ _ 3 _ _ _ HK15.out).trans rfl; have tf3 : w5.frozen? ⟨w.heap.size, 3, none⟩ = false := frozen_of_row _ _ _ _ _ HK15.out
      go_wp2_with fail
      refine HCO.out.mono ?_
      rintro e w6 ⟨Y, cy, rfl, hr6, hl6, hm6, hb6, hy6⟩
      have hal := HI5.out.ok.all
      have HK16 := Lib.hid ((hb6.block _ (by omega)).trans HK15.out)
      have HK26 := Lib.hid ((hb6.block _ (by omega)).trans HK25.out)
      have HB6 := Lib.hid (HB5.out.trans (hb6.mono HB5.out.size))
      have HIF : Hid (IsK' w6 (Value.slice Y 0 0).ownBlock.toList { n := D1.n, b := D1.all, p := [], f := D1.f, x := D1.x } Y cy none 0 []) :=
        (HI5.out.below hb6).fresh hr6 hal (by rw [← hal]; exact hl6) hm6 (fun c off e => (hy6 c off e).2) ⟨HI5.out.ok.f1, HI5.out.ok.f2⟩
      have HYB : Hid (∀ x ∈ (Value.slice Y 0 0).ownBlock.toList, (x ∈ N4 ∨ w5.heap.size ≤ x)) := by
        have h0 : 0 < D1.all.length := by have := HI5.out.ok.n1; omega
        obtain ⟨b', off', e, _⟩ := RB.cells hr6 h0
        intro x hx
        rw [e] at hx
        simp [Value.ownBlock] at hx
        subst hx
        exact (hy6 _ _ e).1
      rw [hal, HNN4.out]
      clear hr6 hl6 hm6 hb6 hy6 hal HCO
      clear tc0 tf0 tc1 tf1 tc2 tf2 tc3 tf3
      have tc0 : w6.cell? ⟨w.heap.size, 0, none⟩ = some _ := (cell_of_row _ _ 0 _ _ _ HK16.out).trans rfl; have tf0 : w6.frozen? ⟨w.heap.size, 0, none⟩ = false := frozen_of_row _ _ _ _ _ HK16.out; have tc1 : w6.cell? ⟨w.heap.size, 1, none⟩ = some _ := (cell_of_row _ _ 1 _ _ _ HK16.out).trans rfl; have tf1 : w6.frozen? ⟨w.heap.size, 1, none⟩ = false := frozen_of_row _ _ _ _ _ HK16.out; have tc2 : w6.cell? ⟨w.heap.size, 2, none⟩ = some _ := (cell_of_row _ _ 2 _ _ _ HK16.out).trans rfl; have tf2 : w6.frozen? ⟨w.heap.size, 2, none⟩ = false := frozen_of_row _ _ _ _ _ HK16.out; have tc3 : w6.cell? ⟨w.heap.size, 3, none⟩ = some _ := (cell_of_row _ _ 3 _ _ _ HK16.out).trans rfl; have tf3 : w6.frozen? ⟨w.heap.size, 3, none⟩ = false := frozen_of_row _ _ _ _ _ HK16.out
      have uc0 : w6.cell? ⟨w.heap.size + 1, 0, none⟩ = some _ := (cell_of_row _ _ 0 _ _ _ HK26.out).trans rfl; have uf0 : w6.frozen? ⟨w.heap.size + 1, 0, none⟩ = false := frozen_of_row _ _ _ _ _ HK26.out; have uc1 : w6.cell? ⟨w.heap.size + 1, 1, none⟩ = some _ := (cell_of_row _ _ 1 _ _ _ HK26.out).trans rfl; have uf1 : w6.frozen? ⟨w.heap.size + 1, 1, none⟩ = false := frozen_of_row _ _ _ _ _ HK26.out; have uc2 : w6.cell? ⟨w.heap.size + 1, 2, none⟩ = some _ := (cell_of_row _ _ 2 _ _ _ HK26.out).trans rfl; have uf2 : w6.frozen? ⟨w.heap.size + 1, 2, none⟩ = false := frozen_of_row _ _ _ _ _ HK26.out; have uc3 : w6.cell? ⟨w.heap.size + 1, 3, none⟩ = some _ := (cell_of_row _ _ 3 _ _ _ HK26.out).trans rfl; have uf3 : w6.frozen? ⟨w.heap.size + 1, 3, none⟩ = false := frozen_of_row _ _ _ _ _ HK26.out
      go_wp2_with fail
      have hcA : Chg [w.heap.size] w6 ((w6.setCell ⟨w.heap.size, 0, none⟩ (.slice Y N4' cy)).setCell ⟨w.heap.size, 1, none⟩ (.slice none 0 0)) := ((Chg.refl [w.heap.size] w6).setCell (p := ⟨w.heap.size, 0, none⟩) (.inl (by simp)) _).setCell (p := ⟨w.heap.size, 1, none⟩) (.inl (by simp)) _
      have hz2 := heap_set4 (hcA.blk HK26.out (by simp)) (.slice Y N4' cy) (.slice none 0 0) (.bool D1.x) (.int .i64 D1.f)
      have hc2 := chg_set4 ((w6.setCell ⟨w.heap.size, 0, none⟩ (.slice Y N4' cy)).setCell ⟨w.heap.size, 1, none⟩ (.slice none 0 0)) (w.heap.size + 1) (.slice Y N4' cy) (.slice none 0 0) (.bool D1.x) (.int .i64 D1.f)
      have hcf : Chg [w.heap.size, w.heap.size + 1] w6 _ := (hcA.mono (by simp)).trans' (hc2.mono (by simp))
      refine bodyPost_ret (results_cell_tmp rfl _ _ (w.heap.size + 1) 33 _ (0, 0) _ rfl hz2 Try.underlying33 rfl size_dk) rfl ?_
      have hkept : Kept (Value.slice Y 0 0).ownBlock.toList w6 _ := fun x hx => hcf.block x (HIF.out.nl x hx) (by
        rcases HYB.out x hx with h | h
        · have := HNR.out x h; simp; omega
        · simp; omega)
      have h := HF.out (kval { n := D1.n, b := D1.all, p := [], f := D1.f, x := D1.x } Y cy none 0 []) _ _ ⟨_, _, _, _, _, rfl, HIF.out.kept hkept hcf.size⟩ (HB6.out.trans (hcf.below HB6.out.size (by simp))) (fun x hx => by
        rcases HYB.out x hx with h | h
        · exact (HN4.out x h).imp id fun h => by omega
        · exact .inr (by omega))
      unfold kval at h
      rw [HNN4.out] at h
      exact h
end Dk
end Go.Proofs.Ytoallpinpeolfaa
