/- The walks of slices.Contains on numbers, capability's numbers, and Issue. -/
import Derived.Test.YtnmgapokamkhpaaCpA
import Derived.Outline
import Derived.IntWalk
import Derived.WalkSpells
import Derived.Deep.DeepFit
import Derived.Deep.RegionHeld3
namespace Go.Proofs.Ytnmgapokamkhpaa
open Go.RowKit Go.Shelf
namespace Cp
open Sip
attribute [local go_sem] Oper.semAt_some

theorem wpIn_noPanic {F : Fence} {n : Nat} {P : Program} {c : Code} {Q : Exit → Act → World → Prop} {a : Act} {w : World} (h : c.wpIn F n P (NoPanic Q) a w) : c.wpIn F n P Q a w := wpIn_mono h NoPanic.imp
theorem own_blk {B b : Nat} {W W' : World} {row : Option Nat} (h : b < B) (hg : W.grownBy W' row) (hr : ∀ r, row = some r → B ≤ r ∧ ∃ o : Obj, W.heap[r]? = some o ∧ o.isCells = false) (hb : b < W.heap.size) : W'.heap[b]? = W.heap[b]? :=
  hg.block b hb (fun e => by have := (hr b e.symm).1; omega)
theorem vw_beq (x y : BitVec 64) : (((x.toNat : Int) == (y.toNat : Int)) : Bool) = decide (x = y) := by
  by_cases h : x = y
  · subst h; simp
  · have : (x.toNat : Int) ≠ y.toNat := fun e => h (BitVec.eq_of_toNat_eq (by omega))
    simp [h, this]

set_option maxRecDepth 100000 in
set_option maxHeartbeats 1000000 in
theorem index_calls (A : Option Addr) (n cap : Nat) (us : List (BitVec 64)) (x : BitVec 64) (w : World) (hn : us.length = n) (hr : Rd w A (us.map vw)) (hm : n ≤ 1000000) :
    Calls Try.prog 28 #[.slice A n cap, vw x] w fun e w' => (∃ i : Int, e = .returned (.int .i64 i) ∧ decide (0 ≤ i) = decide (x ∈ us)) ∧ w = w' := by
  have HN := Lib.hid hn
  have HR := Lib.hid hr
  clear hn hr
  go_enter Try.func28, Try.ntmps28
  go_wp2_with fail
  go_loop [5, 8] (fun _ i => ∃ k : Nat, k ≤ n ∧ i = .int .i64 k ∧ x ∉ us.take k) (fun _ i => n - (intOf i).toNat)
  case atStart => exact ⟨0, Nat.zero_le _, rfl, by simp⟩
  case round =>
    obtain ⟨k, hk, rfl, hx⟩ := hrel
    have HX := Lib.hid hx
    clear hx
    by_cases hlt : k < n
    · have hkl : k < us.length := by have := HN.out; omega
      obtain ⟨b, off, rfl, _, hcl⟩ := Rd.cells HR.out (by simp; omega)
      have c0 : w.cell? ⟨b, off + k, none⟩ = some (vw us[k]) := hcl k _ (by simp [hkl])
      have i0 : (0 : Int) ≤ (k : Int) := by omega
      have i1 : (k : Int) < (n : Int) := by omega
      have HT : Hid (us.take (k + 1) = us.take k ++ [us[k]]) := Lib.hid (by rw [List.take_succ_eq_append_getElem hkl])
      have HM : Hid (us[k] ∈ us) := List.getElem_mem hkl
      clear hcl
      generalize us[k] = y at *
      by_cases hxy : x = y
      · subst hxy
        have e0 : (((x.toNat : Int) == (x.toNat : Int)) : Bool) = true := by simp
        go_wp2_with fail
        go_ret
        exact ⟨⟨k, rfl, by simp [HM.out]⟩, rfl⟩
      · have e0 : (((x.toNat : Int) == (y.toNat : Int)) : Bool) = false := by rw [vw_beq]; simp [hxy]
        have HXY := Lib.hid hxy
        clear hxy
        go_wp2_with fail
        go_round
        case rel => exact ⟨k + 1, by omega, by go_num, by rw [HT.out]; simp [HX.out, HXY.out]⟩
        case measure => simp [intOf]; omega
    · obtain rfl : k = n := by omega
      go_wp2_with fail
      go_ret
      have : x ∉ us := by have := HX.out; rwa [List.take_of_length_le (by have := HN.out; omega)] at this
      exact ⟨⟨-1, rfl, by simp [this]⟩, rfl⟩

set_option maxRecDepth 100000 in
theorem contains_calls (A : Option Addr) (n cap : Nat) (us : List (BitVec 64)) (x : BitVec 64) (w : World) (hn : us.length = n) (hr : Rd w A (us.map vw)) (hm : n ≤ 1000000) :
    Calls Try.prog 18 #[.slice A n cap, vw x] w fun e w' => e = .returned (.bool (decide (x ∈ us))) ∧ w = w' := by
  have HI := Lib.hid (index_calls A n cap us x w hn hr hm)
  clear hn hr
  go_enter Try.func18, Try.ntmps18
  go_wp2_with fail
  refine HI.out.mono ?_
  rintro e w' ⟨⟨i, rfl, hi⟩, rfl⟩
  clear HI
  go_wp2_with fail
  go_ret
  exact ⟨rfl, rfl⟩

set_option maxRecDepth 100000 in
theorem numbers_calls (g : Nat) (first : Int) (w : World) :
    Calls Try.prog 17 #[.pointer (some ⟨g, 0, none⟩), .int .i64 first] w fun e w' => e = .returned (.func (.func 26) #[] #[.pointer (some ⟨w.heap.size + 1, 0, none⟩), .pointer (some ⟨w.heap.size, 0, none⟩)]) ∧
      (w.alloc (.cells #[.pointer (some ⟨g, 0, none⟩)] 27)).alloc (.cells #[.int .i64 first] 3) = w' := by
  go_enter Try.func17, Try.ntmps17
  go_wp2_with fail
  go_ret
  exact ⟨rfl, rfl⟩

set_option maxRecDepth 100000 in
set_option maxHeartbeats 2000000 in
theorem issue_calls (k0 k1 : BitVec 64) (g c : Nat) (A : Option Addr) (n cap : Nat) (us : List (BitVec 64)) (t : Nat) (w : World) (hg : IsB w g k0 k1 c) (hn : us.length = n) (hm : n ≤ 1000000) (hr : Rd w A (us.map vw))
    (hct : c < t) (ht : t < 1000000000) (hbad : ∀ s, c < s → s < t → num k0 k1 s = 0#64 ∨ num k0 k1 s ∈ us) (hok : num k0 k1 t ≠ 0#64 ∧ num k0 k1 t ∉ us) :
    Calls Try.prog 9 #[.pointer (some ⟨g, 0, none⟩), .slice A n cap] w fun e w' => e = .returned (vw (num k0 k1 t)) ∧ IsB w' g k0 k1 t ∧ Chg [g] w w' := by
  have HG := Lib.hid hg
  have HN := Lib.hid hn
  have HR := Lib.hid hr
  have HBAD := Lib.hid hbad
  have HOK := Lib.hid hok
  have hgl : g < w.heap.size := (Array.getElem?_eq_some_iff.1 hg).1
  have c2 : w.cell? ⟨g, 2, none⟩ = some (.int .i64 (c : Int)) := (cell_of_row _ _ 2 _ _ _ hg).trans rfl
  have n2 := World.new_ne w ⟨g, 2, none⟩ c2
  have hw1 : IntKind.i64.wrap ((c : Int) + 1) = (c : Int) + 1 := IntWalk.i64_in _ (by omega)
  clear hg hn hr hbad hok
  refine (callsIn_wide (n := 5)).1 ?_
  refine callsIn_of_wp_marks Try.func9 rfl trivial ?_ rfl
  simp only [Try.ntmps9, List.size_toArray, List.length_cons, List.length_nil, Nat.reduceAdd, Nat.reduceSub, Array.replicate_succ, Array.replicate_zero, List.push_toArray, List.append_toArray, List.nil_append, List.cons_append]
  gi_wp2
  obtain ⟨X1, HX1⟩ : ∃ X, Hid (X = Obj.cells #[.pointer (some ⟨g, 0, none⟩)] 27) := ⟨_, Lib.hid rfl⟩
  obtain ⟨X2, HX2⟩ : ∃ X, Hid (X = Obj.cells #[.slice A n cap] 31) := ⟨_, Lib.hid rfl⟩
  obtain ⟨X3, HX3⟩ : ∃ X, Hid (X = Obj.cells #[.int .u64 0] 22) := ⟨_, Lib.hid rfl⟩
  have hBx : Hid ((((w.alloc X1).alloc X2).alloc X3).heap[w.heap.size]? = some X1) := heap3_a w X1 X2 X3
  have hUx : Hid ((((w.alloc X1).alloc X2).alloc X3).heap[w.heap.size + 1]? = some X2) := heap3_b w X1 X2 X3
  have hRx : Hid ((((w.alloc X1).alloc X2).alloc X3).heap[w.heap.size + 1 + 1]? = some X3) := heap3_c w X1 X2 X3
  have hBel : Hid (Below w.heap.size w (((w.alloc X1).alloc X2).alloc X3)) := below3n w X1 X2 X3
  refine wpIn_noPanic ?_
  rw [← HX1.out, ← HX2.out, ← HX3.out]
  generalize ((w.alloc X1).alloc X2).alloc X3 = w1 at *
  rw [HX1.out] at hBx
  rw [HX2.out] at hUx
  rw [HX3.out] at hRx
  have hG1 := Lib.hid ((hBel.out.block g hgl).trans HG.out)
  have hR1 := Lib.hid (HR.out.below hBel.out)
  have hrl : w.heap.size + 1 + 1 < w1.heap.size := (Array.getElem?_eq_some_iff.1 hRx.out).1
  have b0 : w1.cell? ⟨w.heap.size, 0, none⟩ = some (.pointer (some ⟨g, 0, none⟩)) := (cell_of_row _ _ 0 _ _ _ hBx.out).trans rfl
  have b1 : w1.cell? ⟨g, 2, none⟩ = some (.int .i64 (c : Int)) := (cell_of_row _ _ 2 _ _ _ hG1.out).trans rfl
  clear HX1 HX2 HX3 X1 X2 X3 c2 n2 HR HG
  gi_region_with (refine ⟨trivial, ?_⟩; gi_at_call 17; refine (callsIn_wide.2 (numbers_calls g ((c : Int) + 1) _)).mono ?_; rintro e w' ⟨rfl, rfl⟩)
  all_goals
    refine NoPanic.normal ?_
    have hF0 : Hid (((w1.alloc (.cells #[.pointer (some ⟨g, 0, none⟩)] 27)).alloc (.cells #[.int .i64 ((c : Int) + 1)] 3)).drew.heap[w1.heap.size + 1]? = some (.cells #[.int .i64 ((c : Int) + 1)] 3 (0, 0))) := heap_alloc2_new _ _ _
    have hB0 : Hid (((w1.alloc (.cells #[.pointer (some ⟨g, 0, none⟩)] 27)).alloc (.cells #[.int .i64 ((c : Int) + 1)] 3)).drew.heap[w1.heap.size]? = some (.cells #[.pointer (some ⟨g, 0, none⟩)] 27 (0, 0))) := (Below.heap_alloc _ _ _ (by simp)).trans (heap_alloc_new _ _)
    have hb2 := (below2 w1 (.cells #[.pointer (some ⟨g, 0, none⟩)] 27) (.cells #[.int .i64 ((c : Int) + 1)] 3)).drew
    have hB2 := Lib.hid (hBel.out.trans (hb2.mono hBel.out.size))
    have hG2 := Lib.hid ((hb2.block _ (by omega)).trans hG1.out)
    have hBx2 := Lib.hid ((hb2.block _ (by omega)).trans hBx.out)
    have hUx2 := Lib.hid ((hb2.block _ (by omega)).trans hUx.out)
    have hRx2 := Lib.hid ((hb2.block _ hrl).trans hRx.out)
    have hR2 := Lib.hid (hR1.out.below hb2)
    clear hb2 b0 b1 hG1 hBx hUx hRx hR1 hBel
    generalize ((w1.alloc (.cells #[.pointer (some ⟨g, 0, none⟩)] 27)).alloc (.cells #[.int .i64 ((c : Int) + 1)] 3)).drew = w2 at *
    have hfl : w1.heap.size + 1 < w2.heap.size := (Array.getElem?_eq_some_iff.1 hF0.out).1
    gi_wp2
    have hF' : w2.cell? ⟨w1.heap.size + 1, 0, none⟩ = some (.int .i64 ((c + 1 : Nat) : Int)) := (cell_of_row _ _ 0 _ _ _ hF0.out).trans (by simp)
    have hB' : w2.cell? ⟨w1.heap.size, 0, none⟩ = some (.pointer (some ⟨g, 0, none⟩)) := (cell_of_row _ _ 0 _ _ _ hB0.out).trans rfl
    have hgl2 : g < w2.heap.size := (Array.getElem?_eq_some_iff.1 hG2.out).1
    have hsq := numbers1 k0 k1 (c + 1) (t - c) (by omega) (w1.heap.size + 1) w1.heap.size g c w2.heap.size w2 hF' hB' hG2.out hfl (by omega) hgl2 (Nat.le_refl _)
    have HSQ := Lib.hid hsq
    clear hF' hB' hsq hF0 hB0
    refine wpIn_rangeN (n := 5) (F := Fence.wide) rfl (by decide) (gf := 26) (lb := #[.pointer (some ⟨w1.heap.size + 1, 0, none⟩), .pointer (some ⟨w1.heap.size, 0, none⟩)]) rfl trivial (enters_of Try.func26 (by kernel_rfl) rfl)
      HSQ.out belowK_t (belowK_b (Nat.le_refl _)) (Below.refl _ _) (fun _ => rfl)
      (fun k W => c + 1 + k ≤ t ∧ Below w2.heap.size w2 W)
      (fun k W => c + 1 + k = t ∧ IsB W g k0 k1 t ∧ W.heap[w.heap.size + 1 + 1]? = some (.cells #[vw (num k0 k1 t)] 22 (0, 0)) ∧ Chg [g, w.heap.size + 1 + 1] w2 W)
      (OwnFrom.and (fun _ _ _ _ h _ _ => h) (ownFrom_below (Nat.le_refl _) (Nat.le_refl _)))
      (fun k A B row h hg hr => ⟨h.1, (own_blk hgl2 hg hr (Nat.lt_of_lt_of_le hgl2 h.2.2.2.size)).trans h.2.1, (own_blk (B := w2.heap.size) (by omega) hg hr (by have := h.2.2.2.size; omega)).trans h.2.2.1, ⟨hg.os.trans h.2.2.2.os, hg.tape.trans h.2.2.2.tape, hg.output.trans h.2.2.2.output, Nat.le_trans h.2.2.2.size hg.size, fun i hi hn => (own_blk hi hg hr (Nat.lt_of_lt_of_le hi h.2.2.2.size)).trans (h.2.2.2.block i hi hn)⟩⟩)
      (fun k W h => by have := h.1; omega)
      ⟨by omega, Below.refl _ _⟩
      (fun k => { tmps := #[.pointer (some ⟨g, 0, none⟩), .slice A n cap, .pointer (some ⟨w.heap.size, 0, none⟩), .pointer (some ⟨w.heap.size + 1, 0, none⟩), .pointer (some ⟨w.heap.size + 1 + 1, 0, none⟩), .int .i64 ((c + 1 + k : Nat) : Int), vw (num k0 k1 (c + 1 + k)), .pointer (some ⟨g, 0, none⟩), .pointer (some ⟨g, 0, none⟩), .pointer (some ⟨g, 0, none⟩), .pointer (some ⟨g, 2, none⟩), .int .i64 (c : Int), .int .i64 ((c : Int) + 1), .func (.func 26) #[] #[.pointer (some ⟨w1.heap.size + 1, 0, none⟩), .pointer (some ⟨w1.heap.size, 0, none⟩)], .int .i64 ((c + 1 + k : Nat) : Int), vw (num k0 k1 (c + 1 + k)), undef, undef, undef, undef, undef, undef, undef, undef, undef, undef, undef, undef, undef], defers := [] }) ?assign ?body ?stop
    case assign =>
      intro l k W K hK
      gi_wp2
      exact hK
    case body =>
      rintro l k W ⟨hk, hB⟩
      obtain ⟨s, hs⟩ : ∃ s, Hid (s = c + 1 + k) := ⟨_, Lib.hid rfl⟩
      have b1 : W.cell? ⟨w.heap.size + 1, 0, none⟩ = some (.slice A n cap) := (cell_of_row _ _ 0 _ _ _ ((hB.block _ (by omega)).trans hUx2.out)).trans rfl
      have HRW := Lib.hid (hR2.out.below hB)
      have HC := fun x => Lib.hid (contains_calls A n cap us x W HN.out HRW.out hm)
      have hsb : c < s := by have := hs.out; omega
      have HBW := Lib.hid hB
      rw [← hs.out] at hk ⊢
      clear hB
      by_cases hst : s < t
      · have hbad := HBAD.out s hsb hst
        obtain ⟨x, HX⟩ : ∃ x, Hid (x = num k0 k1 s) := ⟨_, Lib.hid rfl⟩
        rw [← HX.out] at hbad ⊢
        by_cases h0 : x = 0#64
        · have d0 : (((x.toNat : Int) != 0) : Bool) = false := by rw [h0]; rfl
          clear hbad h0
          gi_wp2
          refine ⟨trivial, ?_⟩
          gi_wp2
          exact ⟨KeepsOthers.refl _, Below.refl _ _, by have := hs.out; omega, HBW.out⟩
        · have d0 : (((x.toNat : Int) != 0) : Bool) = true := by
            rw [bne_iff_ne]; intro e; exact h0 (BitVec.eq_of_toNat_eq (by simpa using e))
          have hin : decide (x ∈ us) = true := by simpa [h0] using hbad
          clear hbad h0
          gi_wp2
          refine ⟨trivial, ?_⟩
          refine (CallsIn.inRound l (callsIn_wide.2 (HC x).out)).mono ?_
          rintro e w' ⟨rfl, rfl⟩
          rw [hin]
          gi_wp2
          exact ⟨KeepsOthers.refl _, Below.refl _ _, by have := hs.out; omega, HBW.out⟩
      · obtain rfl : s = t := by omega
        obtain ⟨hx1, hx2⟩ := HOK.out
        obtain ⟨x, HX⟩ : ∃ x, Hid (x = num k0 k1 s) := ⟨_, Lib.hid rfl⟩
        rw [← HX.out] at hx1 hx2 ⊢
        have d0 : (((x.toNat : Int) != 0) : Bool) = true := by
          rw [bne_iff_ne]; intro e; exact hx1 (BitVec.eq_of_toNat_eq (by simpa using e))
        have hin : decide (x ∈ us) = false := by simpa using hx2
        have hGW := Lib.hid ((HBW.out.block _ hgl2).trans hG2.out)
        have hRW := Lib.hid ((HBW.out.block _ (by omega)).trans hRx2.out)
        have b0 : W.cell? ⟨w.heap.size, 0, none⟩ = some (.pointer (some ⟨g, 0, none⟩)) := (cell_of_row _ _ 0 _ _ _ ((HBW.out.block _ (by omega)).trans hBx2.out)).trans rfl
        have g2 : W.cell? ⟨g, 2, none⟩ = some (.int .i64 (c : Int)) := (cell_of_row _ _ 2 _ _ _ hGW.out).trans rfl
        have fg : W.frozen? ⟨g, 2, none⟩ = false := frozen_of_row _ _ _ _ _ hGW.out
        have r0 : W.cell? ⟨w.heap.size + 1 + 1, 0, none⟩ = some (.int .u64 0) := (cell_of_row _ _ 0 _ _ _ hRW.out).trans rfl
        have fr : W.frozen? ⟨w.heap.size + 1 + 1, 0, none⟩ = false := frozen_of_row _ _ _ _ _ hRW.out
        have ne : g ≠ w.heap.size + 1 + 1 := by omega
        clear hx1 hx2
        gi_wp2
        refine ⟨trivial, ?_⟩
        refine (CallsIn.inRound l (callsIn_wide.2 (HC x).out)).mono ?_
        rintro e w' ⟨rfl, rfl⟩
        rw [hin]
        gi_wp2
        refine ⟨(KeepsOthers.setCell _ _ _).trans (KeepsOthers.setCell _ _ _), hs.out.symm, ?_, ?_, ?_⟩
        · exact (Sp.chg_set _ (w.heap.size + 1 + 1) 0 _).blk (heap_setCell_same _ _ _ _ _ _ hGW.out) (by simpa using ne)
        · exact heap_setCell_same _ _ _ _ _ _ ((Sp.chg_set W g 2 _).blk hRW.out (by simpa using ne.symm))
        · exact ((Chg.of_below HBW.out [g, w.heap.size + 1 + 1]).setCell (p := ⟨g, 2, none⟩) (.inl (by simp)) _).setCell (p := ⟨w.heap.size + 1 + 1, 0, none⟩) (.inl (by simp)) _
    case stop =>
      rintro D k W hD ⟨_, hG3, hR3, hC3⟩ hK
      have HG3 := Lib.hid hG3
      have HC3 := Lib.hid hC3
      have HK3 := Lib.hid hK
      have r0 : W.cell? ⟨w.heap.size + 1 + 1, 0, none⟩ = some (vw (num k0 k1 t)) := (cell_of_row _ _ 0 _ _ _ hR3).trans rfl
      have hc5 := cell_kept r0 (grownBy_putObj' _ D (.deferred none)) (fun r e => by cases e; exact ⟨_, hK, rfl⟩)
      clear hG3 hC3 hR3 r0 hK
      gi_wp2
      refine ⟨by simp, .inl ⟨_, _, rfl, run_takeDeferred HK3.out, ?_⟩⟩
      refine ⟨vw (num k0 k1 t), ?_, rfl, ?_, ?_⟩
      · simp [results, Try.f9, go_sem, hc5]
      · exact (World.putObj_heap_other (by omega)).trans HG3.out
      · refine ⟨HC3.out.os.trans hB2.out.os, HC3.out.tape.trans hB2.out.tape, HC3.out.output.trans hB2.out.output, by rw [World.putObj_size]; exact Nat.le_trans hB2.out.size HC3.out.size, fun i hi hn => ?_⟩
        refine (World.putObj_heap_other (by omega)).trans ((HC3.out.block i (by omega) (by simp at hn ⊢; omega)).trans (hB2.out.block i hi))
end Cp
end Go.Proofs.Ytnmgapokamkhpaa
