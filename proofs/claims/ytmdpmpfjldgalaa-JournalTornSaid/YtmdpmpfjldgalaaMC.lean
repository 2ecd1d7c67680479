/- Merged: DkX WrA WrB WrC WrD WrE WrF. -/
import Derived.Outline
import Derived.WalkLawsBesides
import Derived.WalkSpells
import Derived.Deep.DeepFit
import Derived.Deep.WholeRow
import Derived.Deep.QuietTactic
import Derived.BigQuiet
import Derived.Deep.RegionHeld3
import Derived.Deep.RegionWith
import Derived.Deep.DrawnRows
import Derived.Deep.DeepCutAuto
import Derived.Deep.CutRange
import Derived.Deep.DeepMust
import Derived.Lib.AppendZerosOnto
import Derived.Lib.AppendZeros
import Derived.Lib.AppendStr
import Derived.Laws.CopyRow
import Derived.Test.YtmdpmpfjldgalaaMB
import Derived.Test.YtmdpmpfjldgalaaRows
import Derived.Test.YtmdpmpfjldgalaaMA
/- The walks of refmeshref19: FailAfter, Sync, Crash. -/
namespace Go.Proofs.Ytmdpmpfjldgalaa
open Go.RowKit
namespace Dk

/-- the writes are forgotten, the bytes are others -/
theorem IsK'.fresh {w : World} {N0 : List Nat} {D : St} {A X Y : Option Addr} {ca cx cy : Nat} {P : List Pm} {b : List UInt8} {f : Int} {x : Bool} (h : IsK' w N0 D A ca X cx P) (hr : RB w Y b) (hbl : b.length = 64 * D.n) (hcy : 64 * D.n ≤ cy) (hcm : cy ≤ maxLen)
    (_hy : ∀ c off, Y = some ⟨c, off, none⟩ → c < w.heap.size) (hf : -1 ≤ f ∧ f ≤ 9223372036854775807) : IsK' w (Value.slice Y 0 0).ownBlock.toList { n := D.n, b := b, p := [], f := f, x := x } Y cy none 0 [] := by
  refine ⟨hr, Rd.nil, rfl, fun m hm => absurd hm (by simp), ⟨h.ok.n1, h.ok.n2, hbl, by simp, hf.1, hf.2⟩, hcy, hcm, Nat.le_refl _, by simp [maxLen], fun c off e => by rw [e]; simp [Value.ownBlock], fun hp => absurd hp (by simp), fun m hm => absurd hm (by simp), fun c hc => ?_⟩
  have h0 : 0 < b.length := by have := h.ok.n1; omega
  obtain ⟨b', off', e, hb', _⟩ := RB.cells hr h0
  rw [e] at hc
  simp [Value.ownBlock] at hc
  subst hc; exact hb'
theorem own0 {Y : Option Addr} {P : Nat → Prop} (h : ∀ c off, Y = some ⟨c, off, none⟩ → P c) (hs : ∀ a, Y = some a → a.spot = none) : ∀ x ∈ (Value.slice Y 0 0).ownBlock.toList, P x := by
  intro x hx
  cases Y with
  | none => simp [Value.ownBlock] at hx
  | some a =>
    simp [Value.ownBlock] at hx
    subst hx
    obtain ⟨b, off, sp⟩ := a
    have := hs _ rfl
    simp only at this
    subst this
    exact h b off rfl

set_option maxRecDepth 100000 in
theorem rfail_calls (v : Value) (N0 : List Nat) (D : St) (n : Int) (w : World) (h : IsK w N0 v D) (hn : n ≤ 9223372036854775807) : Calls Try.prog 27 #[v, .int .i64 n] w (KP w N0 (failD D n) id) := by
  obtain ⟨A, ca, X, cx, P, rfl, h⟩ := h
  have HF : Hid (∀ w', Below w.heap.size w w' → KP w N0 (failD D n) id (.returned (.agg #[.slice A (64 * D.n) ca, .slice X P.length cx, .bool D.x, .int .i64 (max n (-1))])) w') := by
    intro w' hb
    exact ⟨kval (failD D n) A ca X cx P, N0, rfl, ⟨A, ca, X, cx, P, rfl, (h.below hb).nums (max n (-1)) D.x ⟨by omega, by omega⟩⟩, hb, fun x hx => .inl hx⟩
  unfold kval
  clear h
  generalize 64 * D.n = N at *
  generalize P.length = pl at *
  go_enter Try.func27, Try.ntmps27
  go_wp2_with fail
  refine bodyPost_ret (results_cell_row rfl _ _ (w.heap.size + 1) 42 _ (0, 0) _ rfl (heap_alloc2_new _ _ _) Try.underlying42 rfl size_dk) rfl ?_
  exact HF.out _ (below2 _ _ _)

set_option maxRecDepth 100000 in
set_option maxHeartbeats 2000000 in
theorem rsync_calls (v : Value) (N0 : List Nat) (D : St) (w : World) (h : IsK w N0 v D) : Calls Try.prog 71 #[v] w (KP w N0 (syncD D) fun v' => .tuple #[v', .int .i64 (syncE D)]) := by
  have HK := Lib.hid h
  obtain ⟨A, ca, X, cx, P, rfl, h⟩ := h
  have HI := Lib.hid h
  have hok := h.ok
  have HSAME : Hid (∀ er w', syncD D = D → syncE D = er → Below w.heap.size w w' → KP w N0 (syncD D) (fun v' => .tuple #[v', .int .i64 (syncE D)]) (.returned (.tuple #[.agg #[.slice A (64 * D.n) ca, .slice X P.length cx, .bool D.x, .int .i64 D.f], .int .i64 er])) w') := by
    intro er w' h1 h2 hb
    rw [h1, h2]
    exact ⟨kval D A ca X cx P, N0, rfl, HK.out.below hb, hb, fun x hx => .inl hx⟩
  have HBU := fun w' (hb : Below w.heap.size w w') => Lib.hid (rburn_calls _ N0 D w' (HK.out.below hb))
  unfold kval at HBU ⊢
  obtain ⟨pl, HPL⟩ : ∃ x, Hid (P.length = x) := ⟨_, rfl⟩
  obtain ⟨N, HNN⟩ : ∃ x, Hid (64 * D.n = x) := ⟨_, rfl⟩
  rw [HPL.out, HNN.out] at HSAME
  rw [HPL.out, HNN.out] at HBU ⊢
  have HB2 := Lib.hid (below2 w (.cells #[.slice A N ca, .slice X pl cx, .bool D.x, .int .i64 D.f] 42) (.cells #[.slice none 0 0, .slice none 0 0, .bool false, .int .i64 0] 42))
  have hk1 : ((w.alloc (.cells #[.slice A N ca, .slice X pl cx, .bool D.x, .int .i64 D.f] 42)).alloc (.cells #[.slice none 0 0, .slice none 0 0, .bool false, .int .i64 0] 42)).heap[w.heap.size]? = some (.cells #[.slice A N ca, .slice X pl cx, .bool D.x, .int .i64 D.f] 42) := (Below.heap_alloc _ _ _ (by simp)).trans (heap_alloc_new _ _)
  have hk2 : ((w.alloc (.cells #[.slice A N ca, .slice X pl cx, .bool D.x, .int .i64 D.f] 42)).alloc (.cells #[.slice none 0 0, .slice none 0 0, .bool false, .int .i64 0] 42)).heap[w.heap.size + 1]? = some (.cells #[.slice none 0 0, .slice none 0 0, .bool false, .int .i64 0] 42) := heap_alloc2_new _ _ _
  have HK1 := Lib.hid hk1
  have HK2 := Lib.hid hk2
  clear h hk1 hk2
  cases hx : D.x with
  | true =>
    obtain ⟨e1, e2⟩ := sync_x hx
    have HF := Lib.hid (fun w' => HSAME.out 10 w' e1 e2)
    rw [hx] at HF HB2
    clear e1 e2 hx hok HBU HSAME HK1 HK2
    go_enter Try.func71, Try.ntmps71
    go_wp2_with fail
    refine bodyPost_ret (results_cell_tmp rfl _ _ (w.heap.size + 1) 42 _ (0, 0) _ rfl (heap_alloc2_new _ _ _) Try.underlying42 rfl size_dk) rfl ?_
    exact HF.out _ (below2 _ _ _)
  | false =>
    rw [hx] at HB2 HK1 HK2 HBU
    by_cases h0 : D.f = 0
    · obtain ⟨e1, e2⟩ := sync_0 hx h0
      have hbd : burnD D = { D with x := true } := by unfold burnD; rw [if_pos h0]
      have HF : Hid (∀ v' N' w', IsK w' N' v' (burnD D) → Below w.heap.size w w' → (∀ x ∈ N', x ∈ N0 ∨ w.heap.size ≤ x) → KP w N0 (syncD D) (fun v' => .tuple #[v', .int .i64 (syncE D)]) (.returned (.tuple #[v', .int .i64 10])) w') := by
        intro v' N' w' h1 h2 h3
        rw [e1, e2, ← hbd]
        exact ⟨v', N', rfl, h1, h2, h3⟩
      rw [decide_eq_true h0] at HBU
      clear e1 e2 hbd hx hok HSAME h0
      generalize burnD D = D1 at *
      go_enter Try.func71, Try.ntmps71
      go_wp2_with fail
      generalize (w.alloc (.cells #[.slice A N ca, .slice X pl cx, .bool false, .int .i64 D.f] 42)).alloc (.cells #[.slice none 0 0, .slice none 0 0, .bool false, .int .i64 0] 42) = w3 at *
      refine (HBU w3 HB2.out).out.mono ?_
      rintro e w4 ⟨v4, N4, rfl, ⟨A4, ca4, X4, cx4, P4, rfl, h4⟩, hb4, hn4⟩
      have HI4 := Lib.hid h4
      have HN4 := Lib.hid hn4
      have HK14 := Lib.hid ((hb4.block _ (Array.getElem?_eq_some_iff.1 HK1.out).1).trans HK1.out)
      have HK24 := Lib.hid ((hb4.block _ (Array.getElem?_eq_some_iff.1 HK2.out).1).trans HK2.out)
      have HB4 := Lib.hid (HB2.out.trans (hb4.mono HB2.out.size))
      have hs3 : w.heap.size + 2 ≤ w3.heap.size := (Array.getElem?_eq_some_iff.1 HK2.out).1
      unfold kval
      obtain ⟨pl4, HPL4⟩ : ∃ x, Hid (P4.length = x) := ⟨_, rfl⟩
      obtain ⟨N4', HNN4⟩ : ∃ x, Hid (64 * D1.n = x) := ⟨_, rfl⟩
      have HFI : Hid (∀ w', Chg [w.heap.size, w.heap.size + 1] w4 w' → KP w N0 (syncD D) (fun v' => .tuple #[v', .int .i64 (syncE D)]) (.returned (.tuple #[.agg #[.slice A4 N4' ca4, .slice X4 pl4 cx4, .bool D1.x, .int .i64 D1.f], .int .i64 10])) w') := by
        intro w' hc
        have hb := HB4.out.trans (hc.below HB4.out.size (by simp))
        have hk : Kept N4 w4 w' := fun x hx => hc.block x (HI4.out.nl x hx) (by
          rcases HN4.out x hx with h | h
          · have := HI.out.nl x h; simp; omega
          · simp; omega)
        have := HF.out (kval D1 A4 ca4 X4 cx4 P4) N4 w' ⟨A4, ca4, X4, cx4, P4, rfl, HI4.out.kept hk hc.size⟩ hb (fun x hx => (HN4.out x hx).imp id fun h => by omega)
        unfold kval at this
        rw [HPL4.out, HNN4.out] at this
        exact this
      rw [HPL4.out, HNN4.out]
      clear h4 hb4 hn4 HBU
      have rc0 : w4.cell? ⟨w.heap.size, 0, none⟩ = some _ := (cell_of_row _ _ 0 _ _ _ HK14.out).trans rfl; have rf0 : w4.frozen? ⟨w.heap.size, 0, none⟩ = false := frozen_of_row _ _ _ _ _ HK14.out; have rc1 : w4.cell? ⟨w.heap.size, 1, none⟩ = some _ := (cell_of_row _ _ 1 _ _ _ HK14.out).trans rfl; have rf1 : w4.frozen? ⟨w.heap.size, 1, none⟩ = false := frozen_of_row _ _ _ _ _ HK14.out; have rc2 : w4.cell? ⟨w.heap.size, 2, none⟩ = some _ := (cell_of_row _ _ 2 _ _ _ HK14.out).trans rfl; have rf2 : w4.frozen? ⟨w.heap.size, 2, none⟩ = false := frozen_of_row _ _ _ _ _ HK14.out; have rc3 : w4.cell? ⟨w.heap.size, 3, none⟩ = some _ := (cell_of_row _ _ 3 _ _ _ HK14.out).trans rfl; have rf3 : w4.frozen? ⟨w.heap.size, 3, none⟩ = false := frozen_of_row _ _ _ _ _ HK14.out
      have zc0 : w4.cell? ⟨w.heap.size + 1, 0, none⟩ = some _ := (cell_of_row _ _ 0 _ _ _ HK24.out).trans rfl; have zf0 : w4.frozen? ⟨w.heap.size + 1, 0, none⟩ = false := frozen_of_row _ _ _ _ _ HK24.out; have zc1 : w4.cell? ⟨w.heap.size + 1, 1, none⟩ = some _ := (cell_of_row _ _ 1 _ _ _ HK24.out).trans rfl; have zf1 : w4.frozen? ⟨w.heap.size + 1, 1, none⟩ = false := frozen_of_row _ _ _ _ _ HK24.out; have zc2 : w4.cell? ⟨w.heap.size + 1, 2, none⟩ = some _ := (cell_of_row _ _ 2 _ _ _ HK24.out).trans rfl; have zf2 : w4.frozen? ⟨w.heap.size + 1, 2, none⟩ = false := frozen_of_row _ _ _ _ _ HK24.out; have zc3 : w4.cell? ⟨w.heap.size + 1, 3, none⟩ = some _ := (cell_of_row _ _ 3 _ _ _ HK24.out).trans rfl; have zf3 : w4.frozen? ⟨w.heap.size + 1, 3, none⟩ = false := frozen_of_row _ _ _ _ _ HK24.out
      go_wp2_with fail
      have hz1 := heap_set4 HK14.out (.slice A4 N4' ca4) (.slice X4 pl4 cx4) (.bool D1.x) (.int .i64 D1.f)
      have hc1 := chg_set4 w4 w.heap.size (.slice A4 N4' ca4) (.slice X4 pl4 cx4) (.bool D1.x) (.int .i64 D1.f)
      have hz2 := heap_set4 (hc1.blk HK24.out (by simp)) (.slice A4 N4' ca4) (.slice X4 pl4 cx4) (.bool D1.x) (.int .i64 D1.f)
      have hc2 := chg_set4 ((((w4.setCell ⟨w.heap.size, 0, none⟩ (.slice A4 N4' ca4)).setCell ⟨w.heap.size, 1, none⟩ (.slice X4 pl4 cx4)).setCell ⟨w.heap.size, 2, none⟩ (.bool D1.x)).setCell ⟨w.heap.size, 3, none⟩ (.int .i64 D1.f)) (w.heap.size + 1) (.slice A4 N4' ca4) (.slice X4 pl4 cx4) (.bool D1.x) (.int .i64 D1.f)
      refine bodyPost_ret (results_cell_tmp rfl _ _ (w.heap.size + 1) 42 _ (0, 0) _ rfl hz2 Try.underlying42 rfl size_dk) rfl ?_
      exact HFI.out _ ((hc1.mono (by simp)).trans' (hc2.mono (by simp)))
    · obtain ⟨e1, e2⟩ := sync_ok hx h0
      have hbd : burnD D = { D with f := burnF D.f } := by unfold burnD; rw [if_neg h0]
      have HF : Hid (∀ v' N' w', IsK w' N' v' { burnD D with b := (burnD D).all, p := [] } → Below w.heap.size w w' → (∀ x ∈ N', x ∈ N0 ∨ w.heap.size ≤ x) → KP w N0 (syncD D) (fun v' => .tuple #[v', .int .i64 (syncE D)]) (.returned (.tuple #[v', .int .i64 0])) w') := by
        intro v' N' w' h1 h2 h3
        have : syncD D = { burnD D with b := (burnD D).all, p := [] } := by rw [e1, hbd]; rfl
        rw [this, e2]
        exact ⟨v', N', rfl, h1, h2, h3⟩
      rw [decide_eq_false h0] at HBU
      clear e1 e2 hbd hx hok HSAME h0
      generalize burnD D = D1 at *
      go_enter Try.func71, Try.ntmps71
      go_wp2_with fail
      generalize (w.alloc (.cells #[.slice A N ca, .slice X pl cx, .bool false, .int .i64 D.f] 42)).alloc (.cells #[.slice none 0 0, .slice none 0 0, .bool false, .int .i64 0] 42) = w3 at *
      refine (HBU w3 HB2.out).out.mono ?_
      rintro e w4 ⟨v4, N4, rfl, ⟨A4, ca4, X4, cx4, P4, rfl, h4⟩, hb4, hn4⟩
      have HI4 := Lib.hid h4
      have HN4 := Lib.hid hn4
      have HK14 := Lib.hid ((hb4.block _ (Array.getElem?_eq_some_iff.1 HK1.out).1).trans HK1.out)
      have HK24 := Lib.hid ((hb4.block _ (Array.getElem?_eq_some_iff.1 HK2.out).1).trans HK2.out)
      have HB4 := Lib.hid (HB2.out.trans (hb4.mono HB2.out.size))
      have hs3 : w.heap.size + 2 ≤ w3.heap.size := (Array.getElem?_eq_some_iff.1 HK2.out).1
      have hs4 : w3.heap.size ≤ w4.heap.size := hb4.size
      unfold kval
      obtain ⟨pl4, HPL4⟩ : ∃ x, Hid (P4.length = x) := ⟨_, rfl⟩
      obtain ⟨N4', HNN4⟩ : ∃ x, Hid (64 * D1.n = x) := ⟨_, rfl⟩
      rw [HPL4.out, HNN4.out]
      clear h4 hb4 hn4 HBU
      have rc0 : w4.cell? ⟨w.heap.size, 0, none⟩ = some _ := (cell_of_row _ _ 0 _ _ _ HK14.out).trans rfl; have rf0 : w4.frozen? ⟨w.heap.size, 0, none⟩ = false := frozen_of_row _ _ _ _ _ HK14.out; have rc1 : w4.cell? ⟨w.heap.size, 1, none⟩ = some _ := (cell_of_row _ _ 1 _ _ _ HK14.out).trans rfl; have rf1 : w4.frozen? ⟨w.heap.size, 1, none⟩ = false := frozen_of_row _ _ _ _ _ HK14.out; have rc2 : w4.cell? ⟨w.heap.size, 2, none⟩ = some _ := (cell_of_row _ _ 2 _ _ _ HK14.out).trans rfl; have rf2 : w4.frozen? ⟨w.heap.size, 2, none⟩ = false := frozen_of_row _ _ _ _ _ HK14.out; have rc3 : w4.cell? ⟨w.heap.size, 3, none⟩ = some _ := (cell_of_row _ _ 3 _ _ _ HK14.out).trans rfl; have rf3 : w4.frozen? ⟨w.heap.size, 3, none⟩ = false := frozen_of_row _ _ _ _ _ HK14.out
      go_upto_region 6 with (fail)
      have hz1 := heap_set4 HK14.out (.slice A4 N4' ca4) (.slice X4 pl4 cx4) (.bool D1.x) (.int .i64 D1.f)
      have hc1 := chg_set4 w4 w.heap.size (.slice A4 N4' ca4) (.slice X4 pl4 cx4) (.bool D1.x) (.int .i64 D1.f)
      generalize (((w4.setCell ⟨w.heap.size, 0, none⟩ (.slice A4 N4' ca4)).setCell ⟨w.heap.size, 1, none⟩ (.slice X4 pl4 cx4)).setCell ⟨w.heap.size, 2, none⟩ (.bool D1.x)).setCell ⟨w.heap.size, 3, none⟩ (.int .i64 D1.f) = w5 at *
      have HK15 := Lib.hid hz1
      have HK25 := Lib.hid (hc1.blk HK24.out (by simp))
      have HB5 := Lib.hid (HB4.out.trans (hc1.below HB4.out.size (by simp)))
      have HNR : Hid (∀ x ∈ N4, x ≠ w.heap.size ∧ x ≠ w.heap.size + 1) := by
        intro x hx
        rcases HN4.out x hx with h | h
        · have := HI.out.nl x h; omega
        · omega
      have HI5 : Hid (IsK' w5 N4 D1 A4 ca4 X4 cx4 P4) := HI4.out.kept (fun x hx => hc1.block x (HI4.out.nl x hx) (by simp; exact (HNR.out x hx).1)) hc1.size
      have hs5 : w.heap.size + 2 ≤ w5.heap.size := (Array.getElem?_eq_some_iff.1 HK25.out).1
      have HCO := Lib.hid (rcontents_calls (kval D1 A4 ca4 X4 cx4 P4) N4 D1 w5 ⟨A4, ca4, X4, cx4, P4, rfl, HI5.out⟩)
      unfold kval at HCO
      rw [HPL4.out, HNN4.out] at HCO
      clear hz1 hc1
      clear rc0 rf0 rc1 rf1 rc2 rf2 rc3 rf3
      have tc0 : w5.cell? ⟨w.heap.size, 0, none⟩ = some _ := (cell_of_row _ _ 0 _ _ _ HK15.out).trans rfl; have tf0 : w5.frozen? ⟨w.heap.size, 0, none⟩ = false := frozen_of_row _ _ _ _ _ HK15.out; have tc1 : w5.cell? ⟨w.heap.size, 1, none⟩ = some _ := (cell_of_row _ _ 1 _ _ _ HK15.out).trans rfl; have tf1 : w5.frozen? ⟨w.heap.size, 1, none⟩ = false := frozen_of_row _ _ _ _ _ HK15.out; have tc2 : w5.cell? ⟨w.heap.size, 2, none⟩ = some _ := (cell_of_row _ _ 2 _ _ _ HK15.out).trans rfl; have tf2 : w5.frozen? ⟨w.heap.size, 2, none⟩ = false := frozen_of_row _ _ _ _ _ HK15.out; have tc3 : w5.cell? ⟨w.heap.size, 3, none⟩ = some _ := (cell_of_row _ _ 3 _ _ _ HK15.out).trans rfl; have tf3 : w5.frozen? ⟨w.heap.size, 3, none⟩ = false := frozen_of_row _ _ _ _ _ HK15.out
      go_wp2_with fail
      refine HCO.out.mono ?_
      rintro e w6 ⟨Y, cy, rfl, hr6, hl6, hm6, hb6, hy6⟩
      have hal := HI5.out.ok.all
      have HK16 := Lib.hid ((hb6.block _ (by omega)).trans HK15.out)
      have HK26 := Lib.hid ((hb6.block _ (by omega)).trans HK25.out)
      have HB6 := Lib.hid (HB5.out.trans (hb6.mono HB5.out.size))
      have HIF : Hid (IsK' w6 (Value.slice Y 0 0).ownBlock.toList { n := D1.n, b := D1.all, p := [], f := D1.f, x := D1.x } Y cy none 0 []) :=
        (HI5.out.below hb6).fresh hr6 hal (by rw [← hal]; exact hl6) hm6 (fun c off e => (hy6 c off e).2) ⟨HI5.out.ok.f1, HI5.out.ok.f2⟩
      have HYB : Hid (∀ x ∈ (Value.slice Y 0 0).ownBlock.toList, (x ∈ N4 ∨ w5.heap.size ≤ x)) := by
        have h0 : 0 < D1.all.length := by have := HI5.out.ok.n1; omega
        obtain ⟨b', off', e, _⟩ := RB.cells hr6 h0
        intro x hx
        rw [e] at hx
        simp [Value.ownBlock] at hx
        subst hx
        exact (hy6 _ _ e).1
      rw [hal, HNN4.out]
      clear hr6 hl6 hm6 hb6 hy6 hal HCO
      clear tc0 tf0 tc1 tf1 tc2 tf2 tc3 tf3
      have tc0 : w6.cell? ⟨w.heap.size, 0, none⟩ = some _ := (cell_of_row _ _ 0 _ _ _ HK16.out).trans rfl; have tf0 : w6.frozen? ⟨w.heap.size, 0, none⟩ = false := frozen_of_row _ _ _ _ _ HK16.out; have tc1 : w6.cell? ⟨w.heap.size, 1, none⟩ = some _ := (cell_of_row _ _ 1 _ _ _ HK16.out).trans rfl; have tf1 : w6.frozen? ⟨w.heap.size, 1, none⟩ = false := frozen_of_row _ _ _ _ _ HK16.out; have tc2 : w6.cell? ⟨w.heap.size, 2, none⟩ = some _ := (cell_of_row _ _ 2 _ _ _ HK16.out).trans rfl; have tf2 : w6.frozen? ⟨w.heap.size, 2, none⟩ = false := frozen_of_row _ _ _ _ _ HK16.out; have tc3 : w6.cell? ⟨w.heap.size, 3, none⟩ = some _ := (cell_of_row _ _ 3 _ _ _ HK16.out).trans rfl; have tf3 : w6.frozen? ⟨w.heap.size, 3, none⟩ = false := frozen_of_row _ _ _ _ _ HK16.out
      have uc0 : w6.cell? ⟨w.heap.size + 1, 0, none⟩ = some _ := (cell_of_row _ _ 0 _ _ _ HK26.out).trans rfl; have uf0 : w6.frozen? ⟨w.heap.size + 1, 0, none⟩ = false := frozen_of_row _ _ _ _ _ HK26.out; have uc1 : w6.cell? ⟨w.heap.size + 1, 1, none⟩ = some _ := (cell_of_row _ _ 1 _ _ _ HK26.out).trans rfl; have uf1 : w6.frozen? ⟨w.heap.size + 1, 1, none⟩ = false := frozen_of_row _ _ _ _ _ HK26.out; have uc2 : w6.cell? ⟨w.heap.size + 1, 2, none⟩ = some _ := (cell_of_row _ _ 2 _ _ _ HK26.out).trans rfl; have uf2 : w6.frozen? ⟨w.heap.size + 1, 2, none⟩ = false := frozen_of_row _ _ _ _ _ HK26.out; have uc3 : w6.cell? ⟨w.heap.size + 1, 3, none⟩ = some _ := (cell_of_row _ _ 3 _ _ _ HK26.out).trans rfl; have uf3 : w6.frozen? ⟨w.heap.size + 1, 3, none⟩ = false := frozen_of_row _ _ _ _ _ HK26.out
      go_wp2_with fail
      have hcA : Chg [w.heap.size] w6 ((w6.setCell ⟨w.heap.size, 0, none⟩ (.slice Y N4' cy)).setCell ⟨w.heap.size, 1, none⟩ (.slice none 0 0)) := ((Chg.refl [w.heap.size] w6).setCell (p := ⟨w.heap.size, 0, none⟩) (.inl (by simp)) _).setCell (p := ⟨w.heap.size, 1, none⟩) (.inl (by simp)) _
      have hz2 := heap_set4 (hcA.blk HK26.out (by simp)) (.slice Y N4' cy) (.slice none 0 0) (.bool D1.x) (.int .i64 D1.f)
      have hc2 := chg_set4 ((w6.setCell ⟨w.heap.size, 0, none⟩ (.slice Y N4' cy)).setCell ⟨w.heap.size, 1, none⟩ (.slice none 0 0)) (w.heap.size + 1) (.slice Y N4' cy) (.slice none 0 0) (.bool D1.x) (.int .i64 D1.f)
      have hcf : Chg [w.heap.size, w.heap.size + 1] w6 _ := (hcA.mono (by simp)).trans' (hc2.mono (by simp))
      refine bodyPost_ret (results_cell_tmp rfl _ _ (w.heap.size + 1) 42 _ (0, 0) _ rfl hz2 Try.underlying42 rfl size_dk) rfl ?_
      have hkept : Kept (Value.slice Y 0 0).ownBlock.toList w6 _ := fun x hx => hcf.block x (HIF.out.nl x hx) (by
        rcases HYB.out x hx with h | h
        · have := HNR.out x h; simp; omega
        · simp; omega)
      have h := HF.out (kval { n := D1.n, b := D1.all, p := [], f := D1.f, x := D1.x } Y cy none 0 []) _ _ ⟨_, _, _, _, _, rfl, HIF.out.kept hkept hcf.size⟩ (HB6.out.trans (hcf.below HB6.out.size (by simp))) (fun x hx => by
        rcases HYB.out x hx with h | h
        · exact (HN4.out x h).imp id fun h => by omega
        · exact .inr (by omega))
      unfold kval at h
      rw [HNN4.out] at h
      exact h
end Dk
end Go.Proofs.Ytmdpmpfjldgalaa

/- The walks of wire's append functions. -/
namespace Go.Proofs.Ytmdpmpfjldgalaa
open Go.RowKit
namespace Wi
open Wr

theorem info_u8 : (Try.prog.info? 5).map (fun i => (i.zero, i.size, i.bytes)) = some (some (.int .u8 0), 1, 1) := by kernel_rfl

/-- the slice v0 of world w, with the bytes l, was extended to these bytes -/
def Ext (w : World) (B : Nat) (v0 : Value) (l : List UInt8) (v : Value) (w' : World) : Prop :=
  ∃ X c, v = .slice X l.length c ∧ w'.ownsRow B 5 1 (.slice X l.length c) l.length (l.map vb) ∧ App w v0 w' (.slice X l.length c)
def ExtPost (w : World) (B : Nat) (v0 : Value) (l : List UInt8) (e : Ending) (w' : World) : Prop := ∃ v, e = .returned v ∧ Ext w B v0 l v w'

theorem Ext.size {w w' : World} {B : Nat} {v0 v : Value} {l : List UInt8} (h : Ext w B v0 l v w') : w.heap.size ≤ w'.heap.size := by
  obtain ⟨_, _, _, _, ha⟩ := h; exact ha.size

theorem vb_ofNat (k : Nat) (h : k < 256) : (Value.int .u8 (k : Int)) = vb (UInt8.ofNat k) := by
  show _ = Value.int .u8 ((UInt8.ofNat k).toNat : Int)
  rw [UInt8.toNat_ofNat', Nat.mod_eq_of_lt (by omega)]

theorem byte_at (n q : Nat) : (Value.int .u8 ((n : Int) / 2 ^ (8 * q) % 256)) = vb (UInt8.ofNat (n / 256 ^ q)) := by
  show _ = Value.int .u8 ((UInt8.ofNat (n / 256 ^ q)).toNat : Int)
  rw [UInt8.toNat_ofNat', show 256 ^ q = 2 ^ (8 * q) by rw [Nat.pow_mul]]
  congr 1

set_option maxRecDepth 100000 in
set_option maxHeartbeats 1000000 in
theorem appendUint_calls (B : Nat) (v0 : Value) (l : List UInt8) (x : BitVec 64) (w : World) (ho : Ext w B v0 l v0 w) (hl : l.length ≤ 1000000) (hB : B ≤ w.heap.size) :
    Calls Try.prog 64 #[v0, vw x] w (ExtPost w B v0 (l ++ enc x.toNat)) := by
  have hx := x.isLt
  obtain ⟨n, HX⟩ : ∃ n, Hid (n = x.toNat) := ⟨_, rfl⟩
  rw [← HX.out] at hx ⊢
  have HE : Hid (enc n = UInt8.ofNat (digits n).length :: digits n) := rfl
  have h8 := digits_len_le n
  obtain ⟨X0, c0, e0, ho, _⟩ := ho
  have HO := Lib.hid ho
  have HV := Lib.hid e0
  subst e0
  clear ho
  have hvx : vw x = .int .u64 (n : Int) := by rw [HX.out]
  rw [hvx]
  clear hvx HV
  have hnx : n < 18446744073709551616 := by omega
  clear hx HX
  go_enter Try.func64, Try.ntmps64
  go_wp2_with fail
  go_loop [5, 6] (fun k r => ∃ j : Nat, k = .int .i64 j ∧ r = .int .u64 ((n / 256 ^ j : Nat) : Int) ∧ (digits n).length = j + (digits (n / 256 ^ j)).length) (fun _ r => (intOf r).toNat)
  case atStart => exact ⟨0, rfl, by simp, by simp⟩
  case round =>
    obtain ⟨j, rfl, rfl, hd⟩ := hrel
    have HD := Lib.hid hd
    have hj8 : j ≤ 8 := by omega
    clear hd
    by_cases hz : n / 256 ^ j = 0
    · have HK : Hid ((digits n).length = j) := by show _ = _; rw [HD.out, hz, digits_zero]; simp
      rw [hz]
      have hk8 : (digits n).length ≤ 8 := h8
      generalize hK : (digits n).length = K at *
      have HKj : Hid (K = j) := HK.out
      obtain rfl : j = K := HKj.out.symm
      have HKn := Lib.hid hK
      clear HKj HK HD hz hK
      go_wp2_with (at_builtin; refine wpList_apps _ rfl (.tmp 15) (.tmp 18) 29 rfl B 5 (.int .u8 0) 1 Try.underlying29 info_u8 rfl _ l.length (l.map vb) rfl (HO.out.alloc _) (some ⟨w.heap.size, 0, none⟩) 1 1 [.int .u8 (j : Int)] rfl rfl (Rd.one w _ _) (by simp [Value.oneCell']) (by simp only [maxLen]; omega) (by omega) (Nat.le_trans hB (by simp)) ?_; intro X' c' w1 hown1 happ1; have HO1 := Lib.hid hown1; have HA1 := Lib.hid happ1; clear hown1 happ1)
      have HW1 : Hid (Ext w B (.slice X0 l.length c0) (l ++ [UInt8.ofNat j] ++ (digits n).take 0) (.slice X' (l.length + 1) c') w1) := by
        have hl1 : (l ++ [UInt8.ofNat j] ++ (digits n).take 0).length = l.length + 1 := by simp
        refine ⟨X', c', by rw [hl1], ?_, ?_⟩
        · have h := HO1.out
          rw [vb_ofNat j (by omega)] at h
          rw [hl1]; simpa using h
        · rw [hl1]; exact HA1.out.alloc_left
      have hw1 : w.heap.size ≤ w1.heap.size := by have := HA1.out.size; simp at this; omega
      clear HO1 HA1 HO
      generalize Value.slice X0 l.length c0 = v0 at *
      go_loopw [0, 7] (fun v i wr => ∃ p : Nat, p ≤ j ∧ i = .int .i64 ((j : Int) - 1 - p) ∧ Ext w B v0 (l ++ [UInt8.ofNat j] ++ (digits n).take p) v wr) (fun _ i _ => (intOf i + 1).toNat)
      case atStart => exact ⟨0, Nat.zero_le _, by simp, HW1.out⟩
      case round =>
        obtain ⟨p, hp, rfl, X, c, rfl, hown, happ⟩ := hrel
        have HO := Lib.hid hown
        have HA := Lib.hid happ
        clear hown happ
        have hll : (l ++ [UInt8.ofNat j] ++ (digits n).take p).length ≤ 1000009 := by simp; omega
        by_cases hlt : p < j
        · obtain ⟨q, HQ⟩ : ∃ q : Nat, Hid (q = j - 1 - p) := ⟨_, rfl⟩
          have hq : (j : Int) - 1 - (p : Int) = (q : Int) := by rw [HQ.out]; omega
          have hq8 : q ≤ 7 := by rw [HQ.out]; omega
          have hpl : p < (digits n).length := by rw [HKn.out]; exact hlt
          have HT : Hid (l ++ [UInt8.ofNat j] ++ (digits n).take (p + 1) = l ++ [UInt8.ofNat j] ++ (digits n).take p ++ [UInt8.ofNat (n / 256 ^ q)]) := by
            show _ = _
            rw [List.take_succ_eq_append_getElem hpl, digits_at n p hpl, HKn.out, HQ.out]; simp
          rw [hq]
          generalize l ++ [UInt8.ofNat j] ++ (digits n).take p = xs at *
          go_wp2_with (at_builtin; refine wpList_apps _ rfl (.tmp 26) (.tmp 32) 29 rfl B 5 (.int .u8 0) 1 Try.underlying29 info_u8 rfl _ xs.length (xs.map vb) rfl (HO.out.alloc _) (some ⟨wr.heap.size, 0, none⟩) 1 1 [.int .u8 ((n : Int) / 2 ^ (8 * q) % 256)] rfl rfl (Rd.one wr _ _) (by simp [Value.oneCell']) (by simp only [maxLen]; omega) (by omega) (Nat.le_trans (Nat.le_trans hB HA.out.size) (by simp)) ?_; intro X2 c2 w2 hown2 happ2; have HO2 := Lib.hid hown2; have HA2 := Lib.hid happ2; clear hown2 happ2)
          go_roundw
          case rel =>
            refine ⟨p + 1, by omega, by rw [show (q : Int) - 1 = (j : Int) - 1 - ((p + 1 : Nat) : Int) by rw [← hq]; omega], ?_⟩
            rw [HT.out]
            have hl1 : (xs ++ [UInt8.ofNat (n / 256 ^ q)]).length = xs.length + 1 := by simp
            refine ⟨X2, c2, by rw [hl1], ?_, ?_⟩
            · have h := HO2.out
              rw [byte_at] at h
              rw [hl1, List.map_append]; exact h
            · rw [hl1]; exact HA.out.trans HA2.out.alloc_left
          case measure => simp [intOf]
        · have HF : Hid (l ++ [UInt8.ofNat j] ++ (digits n).take p = l ++ enc n) := by
            show _ = _
            rw [HE.out, List.take_of_length_le (by rw [HKn.out]; omega)]; simp
          have hp1 : (j : Int) - 1 - (p : Int) = -1 := by omega
          rw [hp1]
          generalize l ++ [UInt8.ofNat j] ++ (digits n).take p = xs at *
          go_wp2_with fail
          go_ret
          rw [← HF.out]
          exact ⟨_, rfl, X, c, rfl, HO.out, HA.out⟩
    · have HC := Lib.hid (digits_count n j hnx hz)
      have HQ : Hid (n / 256 ^ j / 256 = n / 256 ^ (j + 1)) := by show _ = _; rw [Nat.div_div_eq_div_mul, ← Nat.pow_succ]
      have hr : n / 256 ^ j < 18446744073709551616 := by have := Nat.div_le_self n (256 ^ j); omega
      have hr0 : 0 < n / 256 ^ j := Nat.pos_of_ne_zero hz
      generalize n / 256 ^ j = r at *
      have d0 : decide ((0 : Int) < (r : Int)) = true := by simp; omega
      go_wp2_with fail
      go_round
      case rel => exact ⟨j + 1, by go_num, by rw [← HQ.out]; go_num, by rw [HD.out, HC.out]; omega⟩
      case measure => simp [intOf]; omega
end Wi
end Go.Proofs.Ytmdpmpfjldgalaa

/- The walks of slices.Grow on bytes and wire.AppendString. -/
namespace Go.Proofs.Ytmdpmpfjldgalaa
open Go.RowKit
namespace Wi
open Wr

theorem run_copy_str {P : Program} (w : World) (dT sT ty elem : TypeId) (g o dLen dCap : Nat) (s : ByteArray) (cur : Array Value) (t : TypeId)
    (hu : P.underlying dT = some (.slice elem)) (hs : (P.info? elem).map (·.size) = some 1) (hg : w.heap[g]? = some (.cells cur t (0, 0))) (hn : s.size ≤ dLen) (hfit : o + s.size ≤ cur.size) :
    (Builtin.copy_ #[dT, sT] ty #[.slice (some ⟨g, o, none⟩) dLen dCap, .string s]).run P w =
      .ok (goInt s.size) (w.setRow g (cur.toList.take o ++ Lib.strCells s ++ cur.toList.drop (o + s.size)).toArray) := by
  have hst := run_storeCells_at P g o t (Lib.strCells s) 0 cur w hg (by simpa [Lib.strCells_length] using hfit) (Lib.strCells_oneCell s)
  simp only [Nat.add_zero, Lib.strCells_length] at hst
  have hfc : (Builtin.firstCells 1 s.size (.string s)).run P w = .ok (Lib.strCells s).toArray w := Lib.run_firstCells_string w 1 s
  cases hq : P.info? elem with
  | none => simp [hq] at hs
  | some i =>
    have hi : i.size = 1 := by simpa [hq] using hs
    have hmin : Nat.min s.size dLen = s.size := Nat.min_eq_left hn
    simp [Builtin.copy_, run_underlying hu, Builtin.lenOf, sizeOf, typeInfo, hq, hi, hmin, hfc, hst]

theorem wpList_copy_str {P : Program} {w : World} {ops : Array Oper} {rest : List Oper} {o : Oper} {a : Act} {Q : Exit → Act → World → Prop} (hgd : o.guard = none) (d s : Operand) (dT sT : TypeId)
    (ho : o.op = .call { callee := .builtin .copy, args := #[d, s], argTypes := #[dT, sT] }) (elem : TypeId) (hu : P.underlying dT = some (.slice elem)) (hsz : (P.info? elem).map (·.size) = some 1)
    (g off dLen dCap : Nat) (str : ByteArray) (hd : a.eval d = .slice (some ⟨g, off, none⟩) dLen dCap) (hs : a.eval s = .string str)
    (cur : Array Value) (t : TypeId) (hg : w.heap[g]? = some (.cells cur t (0, 0))) (hn : str.size ≤ dLen) (hfit : off + str.size ≤ cur.size)
    (h : wpList P ops Q rest (a.put o.dst (goInt str.size)) (w.setRow g (cur.toList.take off ++ Lib.strCells str ++ cur.toList.drop (off + str.size)).toArray)) : wpList P ops Q (o :: rest) a w := by
  refine wpList_plain hgd fun K hK => ?_
  have hrun := run_copy_str (P := P) w dT sT o.type elem g off dLen dCap str cur t hu hsz hg hn hfit
  unfold Oper.wp
  simp only [execOp, ho, resolve, invoke, builtin, Sem.run_bind, Sem.run_pure, Result.andThen_ok, List.map_toArray, List.map_cons, List.map_nil, hd, hs, hrun]
  exact hK _ _ h

/-- what Grow leaves -/
def GrowPost (w : World) (B g n m : Nat) (l : List UInt8) (e : Ending) (w' : World) : Prop :=
  ∃ g' c' cur, e = .returned (.slice (some ⟨g', 0, none⟩) n c') ∧ n + m ≤ c' ∧ c' ≤ maxLen ∧ w'.heap[g']? = some (.cells cur 5 (0, 0)) ∧ cur.size = c' ∧ cur.toList.take n = l.map vb ∧ (g' = g ∨ w.heap.size ≤ g') ∧ B ≤ g' ∧ Chg [] w w'

end Wi
end Go.Proofs.Ytmdpmpfjldgalaa

/- The walks of wire.AppendString, AppendBool, AppendID. -/
namespace Go.Proofs.Ytmdpmpfjldgalaa
open Go.RowKit
namespace Wi
open Wr

theorem size_u8 : (Try.prog.info? 5).map (·.size) = some 1 := by kernel_rfl

/-- the form of a slice that was extended, its block named -/
theorem own_blk {w : World} {B n : Nat} {e : TypeId} {v : Value} {xs : List Value} (h : w.ownsRow B e 1 v n xs) (hn : 0 < n) : ∃ g c cur, v = .slice (some ⟨g, 0, none⟩) n c ∧ B ≤ g ∧ w.heap[g]? = some (.cells cur e (0, 0)) ∧ n ≤ c ∧ c ≤ maxLen ∧ cur.size = c ∧ cur.toList.take n = xs := by
  rcases h.2 with ⟨_, h0⟩ | ⟨g, c, cur, e1, e2, e3, e4, e5, e6, e7⟩
  · omega
  · exact ⟨g, c, cur, e1, e2, e3, e4, e5, by simpa using e6, by simpa using e7⟩
theorem own_of_blk {w : World} {B n g c : Nat} {e : TypeId} {cur : Array Value} {xs : List Value} (hB : B ≤ g) (hg : w.heap[g]? = some (.cells cur e (0, 0))) (hnc : n ≤ c) (hcm : c ≤ maxLen) (hc : cur.size = c) (hx : cur.toList.take n = xs) :
    w.ownsRow B e 1 (.slice (some ⟨g, 0, none⟩) n c) n xs :=
  ⟨by rw [← hx]; simp; omega, .inr ⟨g, c, cur, rfl, hB, hg, hnc, hcm, by simpa using hc, by simpa using hx⟩⟩

def strB (s : ByteArray) : List UInt8 := s.data.toList
theorem strB_cells (s : ByteArray) : Lib.strCells s = (strB s).map vb := rfl
theorem strB_length (s : ByteArray) : (strB s).length = s.size := by simp [strB]

end Wi
end Go.Proofs.Ytmdpmpfjldgalaa

/- The walks of wire.AppendInt, AppendBool, AppendID, and refmeshref02.Same. -/
namespace Go.Proofs.Ytmdpmpfjldgalaa
open Go.RowKit
namespace Wi
open Wr

/-- the number of an integer -/
def zig (n : Int) : Nat := if 0 ≤ n then (2 * n).toNat else (-2 * n - 1).toNat
theorem zig_lt (n : Int) (h1 : -9223372036854775808 ≤ n) (h2 : n ≤ 9223372036854775807) : zig n < 18446744073709551616 := by unfold zig; split <;> omega

theorem vw_ofNat (n : Nat) (h : n < 18446744073709551616) : vw (BitVec.ofNat 64 n) = .int .u64 (n : Int) := by
  show Value.int .u64 ((BitVec.ofNat 64 n).toNat : Int) = _
  rw [BitVec.toNat_ofNat, Nat.mod_eq_of_lt (by omega)]
theorem appendNat_calls (B : Nat) (v0 : Value) (l : List UInt8) (n : Nat) (hn : n < 18446744073709551616) (w : World) (ho : Ext w B v0 l v0 w) (hl : l.length ≤ 1000000) (hB : B ≤ w.heap.size) :
    Calls Try.prog 64 #[v0, .int .u64 (n : Int)] w (ExtPost w B v0 (l ++ enc n)) := by
  have h := appendUint_calls B v0 l (BitVec.ofNat 64 n) w ho hl hB
  rw [vw_ofNat n hn, BitVec.toNat_ofNat, Nat.mod_eq_of_lt (by omega)] at h
  exact h

theorem xor_nat (a b : Nat) (ha : a < 18446744073709551616) (hb : b < 18446744073709551616) : bits .xor .u64 (a : Int) (b : Int) = ((BitVec.ofNat 64 a ^^^ BitVec.ofNat 64 b).toNat : Int) := by
  have h := xor_bv (BitVec.ofNat 64 a) (BitVec.ofNat 64 b)
  rw [BitVec.toNat_ofNat, BitVec.toNat_ofNat, Nat.mod_eq_of_lt (by omega), Nat.mod_eq_of_lt (by omega)] at h
  exact h
theorem zig_pos (n : Int) (h0 : 0 ≤ n) (h2 : n ≤ 9223372036854775807) : bits .xor .u64 (n * 2) (n / 9223372036854775808) = (zig n : Int) := by
  have hz : zig n = (n * 2).toNat := by unfold zig; rw [if_pos h0, Int.mul_comm]
  have h1 : n / 9223372036854775808 = ((0 : Nat) : Int) := by omega
  have h3 : n * 2 = (zig n : Int) := by rw [hz]; omega
  rw [h1, h3, xor_nat _ _ (by omega) (by omega)]
  simp
  omega
theorem zig_neg (n : Int) (h0 : n < 0) (h1 : -9223372036854775808 ≤ n) : bits .xor .u64 (IntKind.u64.wrap (IntKind.u64.wrap n * 2)) (IntKind.u64.wrap (n / 9223372036854775808)) = (zig n : Int) := by
  have hz : zig n = (-2 * n - 1).toNat := by unfold zig; rw [if_neg (by omega)]
  have e1 : IntKind.u64.wrap (IntKind.u64.wrap n * 2) = ((18446744073709551616 + 2 * n).toNat : Int) := by rw [IntKind.wrap_u64, IntKind.wrap_u64]; omega
  have e2 : IntKind.u64.wrap (n / 9223372036854775808) = ((18446744073709551615 : Nat) : Int) := by rw [IntKind.wrap_u64]; omega
  rw [e1, e2, xor_nat _ _ (by omega) (by omega)]
  rw [show BitVec.ofNat 64 18446744073709551615 = BitVec.allOnes 64 from rfl, BitVec.xor_allOnes, BitVec.toNat_not, BitVec.toNat_ofNat, hz]
  omega

def sameB (a b : List UInt8) : Bool := a == b
end Wi
end Go.Proofs.Ytmdpmpfjldgalaa

/- The walks of the reader: try. -/
namespace Go.Proofs.Ytmdpmpfjldgalaa
open Go.RowKit
namespace Wi
open Wr

/-- what try leaves -/
def TryPost (g : Nat) (R : Int → Value → World → Prop) (e : Ending) (w'' : World) : Prop :=
  ∃ ec sl w', R ec sl w' ∧ w'.heap[g]? = some (.cells #[sl, .int .i64 0] 126 (0, 0)) ∧
    ((ec = 0 ∧ e = .returned (.bool true) ∧ w'' = w'.setCell ⟨g, 1, none⟩ (.int .i64 0)) ∨ (ec ≠ 0 ∧ e = .returned (.bool false) ∧ w'' = (w'.setCell ⟨g, 1, none⟩ (.int .i64 ec)).setCell ⟨g, 0, none⟩ (.slice none 0 0)))

set_option maxRecDepth 100000 in
theorem try_calls (F : Nat) (caps : Array Value) (hcf : ∀ w' : World, (callFunc F caps).run Try.prog w' = .ok (.enter F caps) w') (g : Nat) (w : World) (v : Value) (hg : w.heap[g]? = some (.cells #[v, .int .i64 0] 126 (0, 0)))
    (R : Int → Value → World → Prop)
    (H : Calls Try.prog F caps w (fun e w' => ∃ ec sl, e = .returned (.int .i64 ec) ∧ w'.heap[g]? = some (.cells #[sl, .int .i64 0] 126 (0, 0)) ∧ R ec sl w')) :
    Calls Try.prog 82 #[.pointer (some ⟨g, 0, none⟩), .func (Fn.func F) #[] caps] w (TryPost g R) := by
  have c1 : w.cell? ⟨g, 1, none⟩ = some (.int .i64 0) := (cell_of_row _ _ 1 _ _ _ hg).trans rfl
  have HH := Lib.hid H
  clear H hg
  go_enter Try.func82, Try.ntmps82
  go_wp2_with fail
  refine HH.out.mono ?_
  rintro e w1 ⟨ec, sl, rfl, hg1, hR⟩
  have HG1 := Lib.hid hg1
  have HR := Lib.hid hR
  have d1 : w1.cell? ⟨g, 1, none⟩ = some (.int .i64 0) := (cell_of_row _ _ 1 _ _ _ hg1).trans rfl
  have d0 : w1.cell? ⟨g, 0, none⟩ = some sl := (cell_of_row _ _ 0 _ _ _ hg1).trans rfl
  have f1 : w1.frozen? ⟨g, 1, none⟩ = false := frozen_of_row _ _ _ _ _ hg1
  have f0 : w1.frozen? ⟨g, 0, none⟩ = false := frozen_of_row _ _ _ _ _ hg1
  clear hg1 hR c1 HH
  by_cases hec : ec = 0
  · subst hec
    go_wp2_with fail
    go_ret
    exact ⟨0, sl, w1, HR.out, HG1.out, .inl ⟨rfl, rfl, rfl⟩⟩
  · have q1 : (ec != 0) = true := by simpa using hec
    have q2 : (ec == 0) = false := by simpa using hec
    have HE := Lib.hid hec
    clear hec
    go_wp2_with fail
    go_ret
    exact ⟨ec, sl, w1, HR.out, HG1.out, .inr ⟨HE.out, rfl, rfl⟩⟩

/-- an error is there already -/
theorem try_no (fv : Value) (g : Nat) (w : World) (v : Value) (er : Int) (hg : w.heap[g]? = some (.cells #[v, .int .i64 er] 126 (0, 0))) (he : er ≠ 0) :
    Calls Try.prog 82 #[.pointer (some ⟨g, 0, none⟩), fv] w fun e w' => e = .returned (.bool false) ∧ w = w' := by
  have c1 : w.cell? ⟨g, 1, none⟩ = some (.int .i64 er) := (cell_of_row _ _ 1 _ _ _ hg).trans rfl
  have q1 : (er != 0) = true := by simpa using he
  clear hg he
  go_enter Try.func82, Try.ntmps82
  go_wp2_with fail
  go_ret
  exact ⟨rfl, rfl⟩
end Wi
end Go.Proofs.Ytmdpmpfjldgalaa

/- The walk of the closure in Reader.Uint. -/
namespace Go.Proofs.Ytmdpmpfjldgalaa
open Go.RowKit
namespace Wi
open Wr

theorem elem_u8 : Try.prog.elem 29 = 5 := by kernel_rfl

/-- what the closure of Uint leaves -/
def UR (w : World) (N0 g : Nat) (A : Option Addr) (c : Nat) (l : List UInt8) (ec : Int) (sl : Value) (w' : World) : Prop :=
  (parse l = none ∧ ec = 11 ∧ Chg [] w w') ∨ (∃ v k, parse l = some (v, k) ∧ ec = 0 ∧ sl = .slice (cutA A k c) (l.length - k) (c - k) ∧ w'.heap[N0]? = some (.cells #[.int .u64 (v : Int)] 100 (0, 0)) ∧ Chg [N0, g] w w')
def UPost (w : World) (N0 g : Nat) (A : Option Addr) (c : Nat) (l : List UInt8) (e : Ending) (w' : World) : Prop :=
  ∃ ec sl, e = .returned (.int .i64 ec) ∧ w'.heap[g]? = some (.cells #[sl, .int .i64 0] 126 (0, 0)) ∧ UR w N0 g A c l ec sl w'

set_option maxRecDepth 100000 in
set_option maxHeartbeats 2000000 in
theorem uint1_bad (R0 N0 g : Nat) (A : Option Addr) (c : Nat) (l : List UInt8) (w : World) (hR : w.heap[R0]? = some (.cells #[.pointer (some ⟨g, 0, none⟩)] 116 (0, 0)))
    (hg : w.heap[g]? = some (.cells #[.slice A l.length c, .int .i64 0] 126 (0, 0))) (hr : RB w A l) (hlc : l.length ≤ c) (_hcm : c ≤ maxLen) (hp : parse l = none) :
    Calls Try.prog 83 #[.pointer (some ⟨R0, 0, none⟩), .pointer (some ⟨N0, 0, none⟩)] w (UPost w N0 g A c l) := by
  have r0 : w.cell? ⟨R0, 0, none⟩ = some (.pointer (some ⟨g, 0, none⟩)) := (cell_of_row _ _ 0 _ _ _ hR).trans rfl
  have g0 : w.cell? ⟨g, 0, none⟩ = some (.slice A l.length c) := (cell_of_row _ _ 0 _ _ _ hg).trans rfl
  have HG := Lib.hid hg
  have HP := Lib.hid hp
  have fin_ : Hid (∀ n, UPost w N0 g A c l (.returned (.int .i64 11)) (w.drewN n)) := fun n => ⟨11, _, rfl, HG.out, .inl ⟨HP.out, rfl, (Chg.refl _ _).drewN n⟩⟩
  unfold maxLen at _hcm
  cases l with
  | nil =>
    clear hR hg hr hp HP
    have e0 : ((0 : Int) == 0) = true := rfl
    go_enter Try.func83, Try.ntmps83
    go_wp2_with fail
    go_quiet (fail)
    go_wp2_with fail
    go_ret
    exact fin_.out _
  | cons k t =>
    rw [parse_cons] at hp
    obtain ⟨b, off, rfl, _, hcl⟩ := RB.cells hr (by simp)
    have b0 : w.cell? ⟨b, off, none⟩ = some (vb k) := by have := hcl 0 (by simp); simpa using this
    have hk255 : k.toNat ≤ 255 := by have := k.toNat_lt; omega
    have b1 : t.head? = some 0 → w.cell? ⟨b, off + 1, none⟩ = some (.int .u8 0) := by
      intro h
      cases t with
      | nil => simp at h
      | cons y t =>
        have hy : y = 0 := by simpa using h
        subst hy
        exact hcl 1 (by simp)
    have hpos : t.head? = some 0 → 1 ≤ t.length := by intro h; cases t <;> simp at h ⊢
    simp only [List.length_cons] at g0 hlc HG fin_
    clear hR hg hr HP hcl
    generalize t.length = n at *
    have e0 : (((n + 1 : Nat) : Int) == 0) = false := by simp; omega
    have e0' : ((n : Int) + 1 == 0) = false := by simp; omega
    have i1 : (0 : Int) < (n : Int) + 1 := by omega
    by_cases h8 : 8 < k.toNat
    · have d8 : decide ((8 : Int) < (k.toNat : Int)) = true := by simp; omega
      clear hp b1
      go_enter Try.func83, Try.ntmps83
      go_wp2_with fail
      go_quiet (fail)
      go_wp2_with fail
      go_ret
      exact fin_.out _
    · have d8 : decide ((8 : Int) < (k.toNat : Int)) = false := by simp; omega
      rw [if_neg h8] at hp
      by_cases hl : n < k.toNat
      · have dl : decide (((n : Int) + 1) ≤ (k.toNat : Int)) = true := by simp; omega
        clear hp b1
        go_enter Try.func83, Try.ntmps83
        go_wp2_with fail
        go_quiet (fail)
        go_wp2_with fail
        go_ret
        exact fin_.out _
      · have dl : decide (((n : Int) + 1) ≤ (k.toNat : Int)) = false := by simp; omega
        rw [if_neg hl] at hp
        by_cases hz : 0 < k.toNat ∧ t.head? = some 0
        · obtain ⟨hz1, hz2⟩ := hz
          have d0 : decide ((0 : Int) < (k.toNat : Int)) = true := by simp; omega
          have b1' := b1 hz2
          have hpos' := hpos hz2
          have i2 : (1 : Int) < (n : Int) + 1 := by omega
          have z0 : ((0 : Int) == 0) = true := rfl
          clear hp b1 hpos hz2
          go_enter Try.func83, Try.ntmps83
          go_wp2_with fail
          go_quiet (fail)
          go_wp2_with fail
          go_ret
          exact fin_.out _
        · rw [if_neg hz] at hp; cases hp
end Wi
end Go.Proofs.Ytmdpmpfjldgalaa
