/- The walks of the reader's Bool and ID. -/
import Derived.Test.YtkbhbpklgdmgpaaWrT
namespace Go.Proofs.Ytkbhbpklgdmgpaa
open Go.RowKit
namespace Wi
open Wr

theorem enters_bool : ∀ (args : Array Value) (w' : World), (callFunc 51 args).run Try.prog w' = .ok (.enter 51 args) w' := enters_of Try.func51 (by kernel_rfl) rfl
theorem enters_id : ∀ (args : Array Value) (w' : World), (callFunc 50 args).run Try.prog w' = .ok (.enter 50 args) w' := enters_of Try.func50 (by kernel_rfl) rfl

def BR (w : World) (X0 g : Nat) (A : Option Addr) (c : Nat) (l : List UInt8) (ec : Int) (sl : Value) (w' : World) : Prop :=
  (boolR ⟨l, 0⟩ = (false, failR 11) ∧ ec = 11 ∧ Chg [] w w') ∨ (∃ x t, l = x :: t ∧ boolR ⟨l, 0⟩ = (decide (x.toNat = 1), ⟨t, 0⟩) ∧ ec = 0 ∧ sl = .slice (cutA A 1 c) (l.length - 1) (c - 1) ∧ w'.heap[X0]? = some (.cells #[.bool (decide (x.toNat = 1))] 4 (0, 0)) ∧ Chg [X0, g] w w')
def BPost (w : World) (X0 g : Nat) (A : Option Addr) (c : Nat) (l : List UInt8) (e : Ending) (w' : World) : Prop :=
  ∃ ec sl, e = .returned (.int .i64 ec) ∧ w'.heap[g]? = some (.cells #[sl, .int .i64 0] 60 (0, 0)) ∧ BR w X0 g A c l ec sl w'

set_option maxRecDepth 100000 in
set_option maxHeartbeats 2000000 in
theorem bool1_calls (R0 X0 g : Nat) (A : Option Addr) (c : Nat) (l : List UInt8) (w : World) (hR : w.heap[R0]? = some (.cells #[.pointer (some ⟨g, 0, none⟩)] 36 (0, 0)))
    (hX : w.heap[X0]? = some (.cells #[.bool false] 4 (0, 0))) (hg : w.heap[g]? = some (.cells #[.slice A l.length c, .int .i64 0] 60 (0, 0))) (hr : RB w A l) (hlc : l.length ≤ c) (_hcm : c ≤ maxLen)
    (hgX : g ≠ X0) (hRX : R0 ≠ X0) (hbX : 0 < l.length → ∀ b off, A = some ⟨b, off, none⟩ → b ≠ X0) :
    Calls Try.prog 51 #[.pointer (some ⟨R0, 0, none⟩), .pointer (some ⟨X0, 0, none⟩)] w (BPost w X0 g A c l) := by
  unfold maxLen at _hcm
  have r0 : w.cell? ⟨R0, 0, none⟩ = some (.pointer (some ⟨g, 0, none⟩)) := (cell_of_row _ _ 0 _ _ _ hR).trans rfl
  have g0 : w.cell? ⟨g, 0, none⟩ = some (.slice A l.length c) := (cell_of_row _ _ 0 _ _ _ hg).trans rfl
  have x0 : w.cell? ⟨X0, 0, none⟩ = some (.bool false) := (cell_of_row _ _ 0 _ _ _ hX).trans rfl
  have fg : w.frozen? ⟨g, 0, none⟩ = false := frozen_of_row _ _ _ _ _ hg
  have fx : w.frozen? ⟨X0, 0, none⟩ = false := frozen_of_row _ _ _ _ _ hX
  have HG := Lib.hid hg
  have HX := Lib.hid hX
  cases l with
  | nil =>
    have HF : Hid (BPost w X0 g A c [] (.returned (.int .i64 11)) w) := ⟨11, _, rfl, HG.out, .inl ⟨rfl, rfl, Chg.refl _ _⟩⟩
    clear hR hX hg hr
    have e0 : ((0 : Int) == 0) = true := rfl
    go_enter Try.func51, Try.ntmps51
    go_wp2_with fail
    go_ret
    exact HF.out
  | cons x t =>
    obtain ⟨b, off, rfl, _, hcl⟩ := RB.cells hr (by simp)
    have b0 : w.cell? ⟨b, off, none⟩ = some (.int .u8 (x.toNat : Int)) := by have := hcl 0 (by simp); simpa using this
    have hk255 : x.toNat ≤ 255 := by have := x.toNat_lt; omega
    obtain ⟨m, HM⟩ : ∃ m, Hid (m = t.length) := ⟨_, rfl⟩
    rw [List.length_cons, ← HM.out] at g0 hlc
    have e0 : (((m + 1 : Nat) : Int) == 0) = false := by simp; omega
    have e0' : ((m : Int) + 1 == 0) = false := by simp; omega
    have i1 : (0 : Int) < (m : Int) + 1 := by omega
    clear hcl hR hX hg hr
    by_cases h1 : 1 < x.toNat
    · have HB : boolR ⟨x :: t, 0⟩ = (false, failR 11) := by unfold boolR; simp [h1]
      have HF : Hid (BPost w X0 g (some ⟨b, off, none⟩) c (x :: t) (.returned (.int .i64 11)) w) := ⟨11, _, rfl, HG.out, .inl ⟨HB, rfl, Chg.refl _ _⟩⟩
      have d1 : decide ((1 : Int) < (x.toNat : Int)) = true := by simp; omega
      clear HB
      generalize x.toNat = q at *
      go_enter Try.func51, Try.ntmps51
      go_wp2_with fail
      go_ret
      exact HF.out
    · have HB : boolR ⟨x :: t, 0⟩ = (decide (x.toNat = 1), ⟨t, 0⟩) := by unfold boolR; simp [h1]
      have d1 : decide ((1 : Int) < (x.toNat : Int)) = false := by simp; omega
      have d2 : ((x.toNat : Int) == 1) = decide (x.toNat = 1) := by
        by_cases h : x.toNat = 1
        · rw [h]; rfl
        · rw [decide_eq_false h, beq_eq_false_iff_ne]; omega
      have HF : Hid (∀ sl, sl = Value.slice (cutA (some ⟨b, off, none⟩) 1 c) m (c - 1) → ∀ k, BPost w X0 g (some ⟨b, off, none⟩) c (x :: t) (.returned (.int .i64 0)) (((w.setCell ⟨X0, 0, none⟩ (.bool (decide (x.toNat = 1)))).setCell ⟨g, 0, none⟩ sl).drewN k)) := by
        rintro sl rfl k
        refine ⟨0, .slice (cutA (some ⟨b, off, none⟩) 1 c) m (c - 1), rfl, ?_, .inr ⟨x, t, rfl, HB, rfl, ?_, ?_, ?_⟩⟩
        · exact heap_setCell_same _ _ _ _ _ _ ((heap_setCell_other w ⟨X0, 0, none⟩ g _ hgX).trans HG.out)
        · rw [List.length_cons, Nat.add_sub_cancel, HM.out]
        · exact (heap_setCell_other _ ⟨g, 0, none⟩ X0 _ (fun h => hgX h.symm)).trans (heap_setCell_same _ _ _ _ _ _ HX.out)
        · exact (((Chg.refl [X0, g] w).setCell (p := ⟨X0, 0, none⟩) (.inl (by simp)) _).setCell (p := ⟨g, 0, none⟩) (.inl (by simp)) _).drewN k
      have hcut : ∀ w', (Instr.slice 24 (.slice (some ⟨b, off, none⟩) (m + 1) c) (some (.int .i64 1)) none none).run Try.prog w' = .ok (.slice (cutA (some ⟨b, off, none⟩) 1 c) m (c - 1)) w' :=
        fun w' => run_cut_l (P := Try.prog) Try.underlying24 elem_u8s size_u8 (some ⟨b, off, none⟩) (m + 1) c 1 (by omega) w'
      have hbx : b ≠ X0 := hbX (by simp) b off rfl
      have r0s : ∀ u, (w.setCell ⟨X0, 0, none⟩ u).cell? ⟨R0, 0, none⟩ = some (.pointer (some ⟨g, 0, none⟩)) := fun u => (World.cell?_setCell_other w ⟨X0, 0, none⟩ ⟨R0, 0, none⟩ u (fun e => by cases e; exact hRX rfl)).trans r0
      have g0s : ∀ u, (w.setCell ⟨X0, 0, none⟩ u).cell? ⟨g, 0, none⟩ = some (.slice (some ⟨b, off, none⟩) (m + 1) c) := fun u => (World.cell?_setCell_other w ⟨X0, 0, none⟩ ⟨g, 0, none⟩ u (fun e => by cases e; exact hgX rfl)).trans g0
      have b0s : ∀ u, (w.setCell ⟨X0, 0, none⟩ u).cell? ⟨b, off, none⟩ = some (.int .u8 (x.toNat : Int)) := fun u => (World.cell?_setCell_other w ⟨X0, 0, none⟩ ⟨b, off, none⟩ u (fun e => by cases e; exact hbx rfl)).trans b0
      clear HB hbX
      generalize x.toNat = q at *
      go_enter Try.func51, Try.ntmps51
      go_wp2_with fail
      go_region
      all_goals
        go_wp2_with fail
        go_ret
        exact HF.out _ rfl 1

set_option maxRecDepth 100000 in
set_option maxHeartbeats 1000000 in
theorem bool_calls (g : Nat) (r : Rs) (w : World) (h : IsRd w g r) :
    Calls Try.prog 42 #[.pointer (some ⟨g, 0, none⟩)] w (DP w g (.bool (boolR r).1) (boolR r).2) := by
  have hgl := h.lt
  have HI := Lib.hid h
  obtain ⟨l, er⟩ := r
  obtain ⟨A, c, hg, hlc, hcm, hr, hne⟩ := h
  simp only at hg hlc hr hne
  have hb2 := below2 w (.cells #[.pointer (some ⟨g, 0, none⟩)] 36) (.cells #[.bool false] 4)
  have hR : ((w.alloc (.cells #[.pointer (some ⟨g, 0, none⟩)] 36)).alloc (.cells #[.bool false] 4)).heap[w.heap.size]? = _ := (Below.heap_alloc _ _ _ (by simp)).trans (heap_alloc_new _ _)
  have hN : ((w.alloc (.cells #[.pointer (some ⟨g, 0, none⟩)] 36)).alloc (.cells #[.bool false] 4)).heap[w.heap.size + 1]? = _ := heap_alloc2_new _ _ _
  have HR := Lib.hid hR
  have HN := Lib.hid hN
  have HB := Lib.hid hb2
  have HG := Lib.hid ((hb2.block g hgl).trans hg)
  have HRb := Lib.hid hr
  have HRb2 := Lib.hid (RB.below hr hb2)
  have HNE := Lib.hid hne
  clear hb2 hR hN hg hr hne
  obtain ⟨br, HBR⟩ : ∃ x, Hid (x = boolR ⟨l, er⟩) := ⟨_, rfl⟩
  rw [← HBR.out]
  go_enter Try.func42, Try.ntmps42
  go_wp2_with fail
  generalize (w.alloc (.cells #[.pointer (some ⟨g, 0, none⟩)] 36)).alloc (.cells #[.bool false] 4) = w2 at *
  by_cases he : er = 0
  · subst he
    refine (try_calls _ _ (enters_bool _) g w2 _ HG.out (BR w2 (w.heap.size + 1) g A c l) (bool1_calls w.heap.size (w.heap.size + 1) g A c l w2 HR.out HN.out HG.out HRb2.out hlc hcm (by omega) (by omega) (fun hp b off e => by have := HNE.out hp b off e; omega))).mono ?_
    rintro e w4 ⟨ec, sl, w3, hur, hg3, hcase⟩
    rcases hur with ⟨hb, rfl, hch⟩ | ⟨x, t, rfl, hb, rfl, rfl, hx3, hch⟩
    · rcases hcase with ⟨h0, _, _⟩ | ⟨_, rfl, rfl⟩
      · cases h0
      · have HF : Hid (DP w g (.bool br.1) br.2 (.returned (.bool false)) ((w3.setCell ⟨g, 1, none⟩ (.int .i64 11)).setCell ⟨g, 0, none⟩ (.slice none 0 0))) := by
          rw [HBR.out, hb]
          refine ⟨rfl, ⟨none, 0, heap_setCell_same _ _ _ _ _ _ (heap_setCell_same _ _ _ _ _ _ hg3), Nat.le_refl _, by simp [maxLen], RB.nil, fun h => by cases h⟩, ?_⟩
          have h1 : Chg [g] w w3 := (Chg.of_below HB.out [g]).trans' (hch.mono (by simp))
          exact (h1.setCell (p := ⟨g, 1, none⟩) (.inl (by simp)) _).setCell (p := ⟨g, 0, none⟩) (.inl (by simp)) _
        have n0 : ((w3.setCell ⟨g, 1, none⟩ (.int .i64 11)).setCell ⟨g, 0, none⟩ (.slice none 0 0)).cell? ⟨w.heap.size + 1, 0, none⟩ = some (.bool false) :=
          (World.cell?_setCell_other _ ⟨g, 0, none⟩ ⟨w.heap.size + 1, 0, none⟩ _ (fun e => by cases e; omega)).trans ((World.cell?_setCell_other _ ⟨g, 1, none⟩ ⟨w.heap.size + 1, 0, none⟩ _ (fun e => by cases e)).trans ((hch.cellAt HN.out (by simp)).trans rfl))
        clear hg3 hch hb
        generalize ((w3.setCell ⟨g, 1, none⟩ (.int .i64 11)).setCell ⟨g, 0, none⟩ (.slice none 0 0)) = w5 at *
        go_wp2_with fail
        go_ret
        exact HF.out
    · rcases hcase with ⟨_, rfl, rfl⟩ | ⟨h0, _, _⟩
      · have hcg : Chg [g] w w3 := (Chg.of_below HB.out [g]).trans hch (by simp)
        have hcs : Chg [g] w3 (w3.setCell ⟨g, 1, none⟩ (.int .i64 0)) := (Chg.refl _ _).setCell (p := ⟨g, 1, none⟩) (.inl (by simp)) _
        have HF : Hid (DP w g (.bool br.1) br.2 (.returned (.bool (decide (x.toNat = 1)))) (w3.setCell ⟨g, 1, none⟩ (.int .i64 0))) := by
          rw [HBR.out, hb]
          exact ⟨rfl, IsRd.cut (k := 1) (S0 := w.heap.size + 1) HRb.out hlc hcm HNE.out HB.out (by omega) hch hcs (by simp) (heap_setCell_same _ _ _ _ _ _ hg3), hcg.trans' hcs⟩
        have n0 : (w3.setCell ⟨g, 1, none⟩ (.int .i64 0)).cell? ⟨w.heap.size + 1, 0, none⟩ = some (.bool (decide (x.toNat = 1))) :=
          (World.cell?_setCell_other w3 ⟨g, 1, none⟩ ⟨w.heap.size + 1, 0, none⟩ _ (fun e => by cases e)).trans ((cell_of_row _ _ 0 _ _ _ hx3).trans rfl)
        clear hg3 hch hb hx3 hcg hcs
        generalize (w3.setCell ⟨g, 1, none⟩ (.int .i64 0)) = w5 at *
        generalize decide (x.toNat = 1) = bb at *
        go_wp2_with fail
        go_ret
        exact HF.out
      · exact absurd rfl h0
  · refine (try_no _ g w2 _ er HG.out he).mono ?_
    rintro e w3 ⟨rfl, rfl⟩
    have HF : Hid (DP w g (.bool br.1) br.2 (.returned (.bool false)) w2) := by
      rw [HBR.out]; unfold boolR; rw [if_pos he]
      exact ⟨rfl, HI.out.below HB.out, Chg.of_below HB.out _⟩
    have n0 : w2.cell? ⟨w.heap.size + 1, 0, none⟩ = some (.bool false) := (cell_of_row _ _ 0 _ _ _ HN.out).trans rfl
    go_wp2_with fail
    go_ret
    exact HF.out
end Wi
end Go.Proofs.Ytkbhbpklgdmgpaa
