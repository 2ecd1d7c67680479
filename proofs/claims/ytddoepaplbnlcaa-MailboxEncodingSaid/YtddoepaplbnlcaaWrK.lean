/- The walk of Reader.String, whole. -/
import Derived.Test.YtddoepaplbnlcaaWrJ
namespace Go.Proofs.Ytddoepaplbnlcaa
open Go.RowKit
namespace Wi
open Wr

/-- String -/
def stringR (r : Rs) : List UInt8 × Rs :=
  if (uintR r).2.e ≠ 0 then ([], (uintR r).2) else if 4096 < (uintR r).1 then ([], failR 8) else if (uintR r).2.l.length < (uintR r).1 then ([], failR 11) else ((uintR r).2.l.take (uintR r).1, ⟨(uintR r).2.l.drop (uintR r).1, 0⟩)

theorem enters_string : ∀ (args : Array Value) (w' : World), (callFunc 92 args).run Try.prog w' = .ok (.enter 92 args) w' := enters_of Try.func92 (by kernel_rfl) rfl

def StrPost (w : World) (g : Nat) (s : List UInt8) (r2 : Rs) (e : Ending) (w' : World) : Prop := e = .returned (.string ⟨s.toArray⟩) ∧ IsRd w' g r2 ∧ Chg [g] w w'

/-- a reader cut down, behind writes to its own block and to a new one -/
theorem IsRd.cut {w w2 w3 w4 : World} {g S0 : Nat} {A : Option Addr} {c k : Nat} {l : List UInt8} (hr : RB w A l) (hlc : l.length ≤ c) (hcm : c ≤ maxLen) (hne : 0 < l.length → ∀ b off, A = some ⟨b, off, none⟩ → b < g)
    (hb : Below w.heap.size w w2) (hS : w.heap.size ≤ S0) (hch : Chg [S0, g] w2 w3) (hc4 : Chg [g] w3 w4) (hk : k ≤ l.length)
    (hg : w4.heap[g]? = some (.cells #[.slice (cutA A k c) (l.length - k) (c - k), .int .i64 0] 119 (0, 0))) : IsRd w4 g ⟨l.drop k, 0⟩ := by
  have hdl : (l.drop k).length = l.length - k := by simp
  have hbl : 0 < (l.drop k).length → ∀ b off, cutA A k c = some ⟨b, off, none⟩ → b < w.heap.size ∧ b < g := by
    intro hpos b off e
    have hl0 : 0 < l.length := by rw [hdl] at hpos; omega
    obtain ⟨b0, o0, rfl, hlt, _⟩ := RB.cells hr hl0
    have := cutA_some e
    subst this
    exact ⟨hlt, hne hl0 b o0 rfl⟩
  refine ⟨cutA A k c, c - k, by simp only [hdl]; exact hg, by simp only [hdl]; omega, by omega, ?_, fun hpos b off e => (hbl hpos b off e).2⟩
  have h2 : RB w2 (cutA A k c) (l.drop k) := RB.cut (RB.below hr hb) k c hlc
  refine RB.chg (RB.chg h2 hch ?_) hc4 ?_
  · intro hpos b off e
    have := hbl hpos b off e
    simp; omega
  · intro hpos b off e
    have := hbl hpos b off e
    simp; omega

set_option maxRecDepth 100000 in
set_option maxHeartbeats 1000000 in
theorem string_calls (g : Nat) (r : Rs) (w : World) (h : IsRd w g r) : Calls Try.prog 78 #[.pointer (some ⟨g, 0, none⟩)] w (StrPost w g (stringR r).1 (stringR r).2) := by
  have hgl := h.lt
  have HU := fun w' (h' : IsRd w' g r) => Lib.hid (uint_calls g r w' h')
  unfold UintPost at HU
  have hlt := uintR_lt r
  obtain ⟨sr, HSR⟩ : ∃ x, Hid (x = stringR r) := ⟨_, rfl⟩
  have HSR' := HSR.out
  unfold stringR at HSR'
  rw [← HSR.out]
  clear HSR
  generalize (uintR r).1 = n at *
  generalize (uintR r).2 = r2 at *
  have HI := Lib.hid h
  have HSR := Lib.hid HSR'
  clear h HSR'
  go_enter Try.func78, Try.ntmps78
  go_wp2_with fail
  have hb1 := below1 w (.cells #[.pointer (some ⟨g, 0, none⟩)] 90)
  have hR1 := heap_alloc_new w (.cells #[.pointer (some ⟨g, 0, none⟩)] 90)
  generalize w.alloc (.cells #[.pointer (some ⟨g, 0, none⟩)] 90) = w1 at *
  refine (HU w1 (HI.out.below hb1)).out.mono ?_
  rintro e w2 ⟨rfl, hr2, hc2⟩
  have HR2 := Lib.hid hr2
  have hs1 : w.heap.size < w1.heap.size := (Array.getElem?_eq_some_iff.1 hR1).1
  have hs2 : w1.heap.size ≤ w2.heap.size := hc2.size
  have HRB := Lib.hid (hc2.blk hR1 (by simp; omega))
  have HC2 := Lib.hid ((Chg.of_below hb1 [g]).trans' hc2)
  have r0 : w2.cell? ⟨w.heap.size, 0, none⟩ = some (.pointer (some ⟨g, 0, none⟩)) := (cell_of_row _ _ 0 _ _ _ HRB.out).trans rfl
  have r0' : ∀ o1 o2 : Obj, ((w2.alloc o1).alloc o2).cell? ⟨w.heap.size, 0, none⟩ = some (.pointer (some ⟨g, 0, none⟩)) := fun o1 o2 =>
    (World.cell?_alloc_lt _ o2 ⟨w.heap.size, 0, none⟩ (by show w.heap.size < _; simp; omega)).trans ((World.cell?_alloc_lt w2 o1 ⟨w.heap.size, 0, none⟩ (by show w.heap.size < _; omega)).trans r0)
  clear hb1 hR1 hr2 hc2 HU HI
  go_wp2_with fail
  have hb3 := below2 w2 (.cells #[.int .u64 (n : Int)] 102) (.cells #[.string .empty] 9)
  have hN : ((w2.alloc (.cells #[.int .u64 (n : Int)] 102)).alloc (.cells #[.string .empty] 9)).heap[w2.heap.size]? = _ := (Below.heap_alloc _ _ _ (by simp)).trans (heap_alloc_new _ _)
  have hS : ((w2.alloc (.cells #[.int .u64 (n : Int)] 102)).alloc (.cells #[.string .empty] 9)).heap[w2.heap.size + 1]? = _ := heap_alloc2_new _ _ _
  have HN := Lib.hid hN
  have HS := Lib.hid hS
  have HB3 := Lib.hid hb3
  have HRB3 := Lib.hid ((hb3.block _ (by omega)).trans HRB.out)
  have hg2 : g < w2.heap.size := by omega
  have HI3 := Lib.hid (HR2.out.below hb3)
  clear hN hS hb3 r0 r0'
  change Calls _ _ _ ((w2.alloc (.cells #[.int .u64 (n : Int)] 102)).alloc (.cells #[.string .empty] 9)) _
  generalize (w2.alloc (.cells #[.int .u64 (n : Int)] 102)).alloc (.cells #[.string .empty] 9) = w3 at *
  obtain ⟨l2, e2⟩ := r2
  simp only at HSR
  have HI2 := HR2.out
  obtain ⟨A, c, hgc, hlc, hcm, hrb, hne⟩ := HI2
  simp only at hgc hlc hrb hne
  have HG3 := Lib.hid ((HB3.out.block g hg2).trans hgc)
  have HRb := Lib.hid hrb
  have HNE := Lib.hid hne
  have HRb3 := Lib.hid (RB.below hrb HB3.out)
  clear hgc hrb hne HR2
  by_cases he : e2 = 0
  · subst he
    rw [if_neg (by simp)] at HSR
    refine (try_calls _ _ (enters_string _) g w3 _ HG3.out (SR w3 (w2.heap.size + 1) g A c l2 n) (string1_calls w2.heap.size w.heap.size (w2.heap.size + 1) g A c l2 n w3 HN.out HRB3.out HS.out HG3.out HRb3.out hlc hcm ⟨by omega, by omega, by omega, by omega, by omega⟩ hlt)).mono ?_
    rintro e w5 ⟨ec, sl, w4, hsr, hg4, hcase⟩
    have hfail : ∀ k : Int, k ≠ 0 → Chg [] w3 w4 → sr = ([], failR k) → w4.heap[w2.heap.size + 1]? = some (.cells #[.string .empty] 9 (0, 0)) → True := fun _ _ _ _ _ => trivial
    clear hfail
    rcases hsr with ⟨h1, rfl, hch⟩ | ⟨h1, h2, rfl, hch⟩ | ⟨h1, h2, rfl, rfl, hs4, hch⟩
    · rcases hcase with ⟨h0, _, _⟩ | ⟨_, rfl, rfl⟩
      · cases h0
      · have HF : Hid (StrPost w g sr.1 sr.2 (.returned (.string ⟨#[]⟩)) ((w4.setCell ⟨g, 1, none⟩ (.int .i64 8)).setCell ⟨g, 0, none⟩ (.slice none 0 0))) := by
          have hsr := HSR.out
          rw [if_pos h1] at hsr
          rw [hsr]
          refine ⟨rfl, ⟨none, 0, heap_setCell_same _ _ _ _ _ _ (heap_setCell_same _ _ _ _ _ _ hg4), Nat.le_refl _, by simp [maxLen], RB.nil, fun h => by cases h⟩, ?_⟩
          have hh : Chg [g] w w4 := (HC2.out.trans' (Chg.of_below HB3.out [g])).trans' (hch.mono (by simp))
          exact (hh.setCell (p := ⟨g, 1, none⟩) (.inl (by simp)) _).setCell (p := ⟨g, 0, none⟩) (.inl (by simp)) _
        have s0 : ((w4.setCell ⟨g, 1, none⟩ (.int .i64 8)).setCell ⟨g, 0, none⟩ (.slice none 0 0)).cell? ⟨w2.heap.size + 1, 0, none⟩ = some (.string ⟨#[]⟩) :=
          (World.cell?_setCell_other _ ⟨g, 0, none⟩ ⟨w2.heap.size + 1, 0, none⟩ _ (fun e => by cases e; omega)).trans ((World.cell?_setCell_other _ ⟨g, 1, none⟩ ⟨w2.heap.size + 1, 0, none⟩ _ (fun e => by cases e)).trans ((cell_of_row _ _ 0 _ _ _ (hch.blk HS.out (by simp))).trans rfl))
        clear hg4 hch
        generalize (w4.setCell ⟨g, 1, none⟩ (.int .i64 8)).setCell ⟨g, 0, none⟩ (.slice none 0 0) = w5 at *
        go_wp2_with fail
        go_ret
        exact HF.out
    · rcases hcase with ⟨h0, _, _⟩ | ⟨_, rfl, rfl⟩
      · cases h0
      · have HF : Hid (StrPost w g sr.1 sr.2 (.returned (.string ⟨#[]⟩)) ((w4.setCell ⟨g, 1, none⟩ (.int .i64 11)).setCell ⟨g, 0, none⟩ (.slice none 0 0))) := by
          have hsr := HSR.out
          rw [if_neg (by omega), if_pos h2] at hsr
          rw [hsr]
          refine ⟨rfl, ⟨none, 0, heap_setCell_same _ _ _ _ _ _ (heap_setCell_same _ _ _ _ _ _ hg4), Nat.le_refl _, by simp [maxLen], RB.nil, fun h => by cases h⟩, ?_⟩
          have hh : Chg [g] w w4 := (HC2.out.trans' (Chg.of_below HB3.out [g])).trans' (hch.mono (by simp))
          exact (hh.setCell (p := ⟨g, 1, none⟩) (.inl (by simp)) _).setCell (p := ⟨g, 0, none⟩) (.inl (by simp)) _
        have s0 : ((w4.setCell ⟨g, 1, none⟩ (.int .i64 11)).setCell ⟨g, 0, none⟩ (.slice none 0 0)).cell? ⟨w2.heap.size + 1, 0, none⟩ = some (.string ⟨#[]⟩) :=
          (World.cell?_setCell_other _ ⟨g, 0, none⟩ ⟨w2.heap.size + 1, 0, none⟩ _ (fun e => by cases e; omega)).trans ((World.cell?_setCell_other _ ⟨g, 1, none⟩ ⟨w2.heap.size + 1, 0, none⟩ _ (fun e => by cases e)).trans ((cell_of_row _ _ 0 _ _ _ (hch.blk HS.out (by simp))).trans rfl))
        clear hg4 hch
        generalize (w4.setCell ⟨g, 1, none⟩ (.int .i64 11)).setCell ⟨g, 0, none⟩ (.slice none 0 0) = w5 at *
        go_wp2_with fail
        go_ret
        exact HF.out
    · rcases hcase with ⟨_, rfl, rfl⟩ | ⟨h0, _, _⟩
      · have hcs : Chg [g] w4 (w4.setCell ⟨g, 1, none⟩ (.int .i64 0)) := (Chg.refl _ _).setCell (p := ⟨g, 1, none⟩) (.inl (by simp)) _
        have HF : Hid (StrPost w g sr.1 sr.2 (.returned (.string ⟨(l2.take n).toArray⟩)) (w4.setCell ⟨g, 1, none⟩ (.int .i64 0))) := by
          have hsr := HSR.out
          rw [if_neg (by omega), if_neg (by omega)] at hsr
          rw [hsr]
          refine ⟨rfl, IsRd.cut HRb.out hlc hcm HNE.out HB3.out (by omega) hch hcs h2 (heap_setCell_same _ _ _ _ _ _ hg4), ?_⟩
          exact ((HC2.out.trans' (Chg.of_below HB3.out [g])).trans hch (by simp; omega)).trans' hcs
        have s0 : (w4.setCell ⟨g, 1, none⟩ (.int .i64 0)).cell? ⟨w2.heap.size + 1, 0, none⟩ = some (.string ⟨(l2.take n).toArray⟩) :=
          (World.cell?_setCell_other _ ⟨g, 1, none⟩ ⟨w2.heap.size + 1, 0, none⟩ _ (fun e => by cases e)).trans ((cell_of_row _ _ 0 _ _ _ hs4).trans rfl)
        clear hg4 hch hs4 hcs
        generalize w4.setCell ⟨g, 1, none⟩ (.int .i64 0) = w5 at *
        go_wp2_with fail
        go_ret
        exact HF.out
      · exact absurd rfl h0
  · rw [if_pos (by simpa using he)] at HSR
    refine (try_no _ g w3 _ e2 HG3.out he).mono ?_
    rintro e w4 ⟨rfl, rfl⟩
    have HF : Hid (StrPost w g sr.1 sr.2 (.returned (.string ⟨#[]⟩)) w3) := by
      rw [HSR.out]
      exact ⟨rfl, HI3.out, HC2.out.trans' (Chg.of_below HB3.out [g])⟩
    have s0 : w3.cell? ⟨w2.heap.size + 1, 0, none⟩ = some (.string ⟨#[]⟩) := (cell_of_row _ _ 0 _ _ _ HS.out).trans rfl
    go_wp2_with fail
    go_ret
    exact HF.out
end Wi
end Go.Proofs.Ytddoepaplbnlcaa
