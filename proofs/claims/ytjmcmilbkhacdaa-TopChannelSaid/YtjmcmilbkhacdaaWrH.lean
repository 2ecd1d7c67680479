/- The walks of Reader.Uint, Left, Done, Int. -/
import Derived.Test.YtjmcmilbkhacdaaWrG
import Derived.Shelf.Abstract
namespace Go.Proofs.Ytjmcmilbkhacdaa
open Go.RowKit
namespace Wi
open Wr

theorem uint1_calls (R0 N0 g : Nat) (A : Option Addr) (c : Nat) (l : List UInt8) (w : World) (hR : w.heap[R0]? = some (.cells #[.pointer (some ⟨g, 0, none⟩)] 63 (0, 0)))
    (hg : w.heap[g]? = some (.cells #[.slice A l.length c, .int .i64 0] 72 (0, 0))) (hN : w.heap[N0]? = some (.cells #[.int .u64 0] 65 (0, 0))) (hr : RB w A l) (hlc : l.length ≤ c) (hcm : c ≤ maxLen)
    (hbN : 0 < l.length → ∀ b off, A = some ⟨b, off, none⟩ → b ≠ N0) (hRN : R0 ≠ N0) (hgN : g ≠ N0) :
    Calls Try.prog 37 #[.pointer (some ⟨R0, 0, none⟩), .pointer (some ⟨N0, 0, none⟩)] w (UPost w N0 g A c l) := by
  cases hp : parse l with
  | none => exact uint1_bad R0 N0 g A c l w hR hg hr hlc hcm hp
  | some p => obtain ⟨v, k⟩ := p; exact uint1_good R0 N0 g A c l w hR hg hN hr hlc hcm hbN hRN hgN v k hp

/-- block g holds a reader -/
def IsRd (w : World) (g : Nat) (r : Rs) : Prop :=
  ∃ A c, w.heap[g]? = some (.cells #[.slice A r.l.length c, .int .i64 r.e] 72 (0, 0)) ∧ r.l.length ≤ c ∧ c ≤ maxLen ∧ RB w A r.l ∧ (0 < r.l.length → ∀ b off, A = some ⟨b, off, none⟩ → b < g)
theorem IsRd.below {w w' : World} {g : Nat} {r : Rs} (h : IsRd w g r) (hb : Below w.heap.size w w') : IsRd w' g r := by
  obtain ⟨A, c, h1, h2, h3, h4, h5⟩ := h
  exact ⟨A, c, (hb.block g (Array.getElem?_eq_some_iff.1 h1).1).trans h1, h2, h3, RB.below h4 hb, h5⟩
theorem IsRd.chg {w w' : World} {g : Nat} {r : Rs} {S : List Nat} (h : IsRd w g r) (hc : Chg S w w') (hS : ∀ x ∈ S, g < x) : IsRd w' g r := by
  obtain ⟨A, c, h1, h2, h3, h4, h5⟩ := h
  refine ⟨A, c, hc.blk h1 (fun hm => by have := hS g hm; omega), h2, h3, ?_, h5⟩
  by_cases hl : 0 < r.l.length
  · exact hc.rd h4 fun b off e hm => by have h6 := hS b hm; have h7 := h5 hl b off e; omega
  · have : r.l = [] := List.eq_nil_of_length_eq_zero (by omega)
    rw [this]; exact RB.nil
theorem IsRd.lt {w : World} {g : Nat} {r : Rs} (h : IsRd w g r) : g < w.heap.size := by
  obtain ⟨A, c, h1, _⟩ := h; exact (Array.getElem?_eq_some_iff.1 h1).1
theorem RB.lt {w : World} {A : Option Addr} {l : List UInt8} (h : RB w A l) (hn : 0 < l.length) (b off : Nat) (e : A = some ⟨b, off, none⟩) : b < w.heap.size := by
  obtain ⟨b', off', e', hlt, _⟩ := RB.cells h hn
  rw [e'] at e; cases e; exact hlt
theorem RB.chg {w w' : World} {A : Option Addr} {l : List UInt8} {S : List Nat} (h : RB w A l) (hc : Chg S w w') (hne : 0 < l.length → ∀ b off, A = some ⟨b, off, none⟩ → b ∉ S) : RB w' A l := by
  by_cases hl : 0 < l.length
  · exact hc.rd h (hne hl)
  · have : l = [] := List.eq_nil_of_length_eq_zero (by omega)
    subst this; exact RB.nil

theorem cutA_some {b0 o0 k c b off : Nat} (h : cutA (some ⟨b0, o0, none⟩) k c = some ⟨b, off, none⟩) : b = b0 := by
  unfold cutA at h
  split at h
  · cases h; rfl
  · rw [Option.map_some, addr_add] at h; cases h; rfl

theorem enters_uint : ∀ (args : Array Value) (w' : World), (callFunc 37 args).run Try.prog w' = .ok (.enter 37 args) w' := enters_of Try.func37 (by kernel_rfl) rfl

def UintPost (w : World) (g : Nat) (r : Rs) (e : Ending) (w' : World) : Prop :=
  e = .returned (.int .u64 ((uintR r).1 : Int)) ∧ IsRd w' g (uintR r).2 ∧ Chg [g] w w'

theorem uintR_err (r : Rs) (h : r.e ≠ 0) : uintR r = (0, r) := by unfold uintR; rw [if_pos h]
theorem uintR_none (r : Rs) (h : r.e = 0) (hp : parse r.l = none) : uintR r = (0, failR 11) := by unfold uintR; rw [if_neg (by simp [h]), hp]
theorem uintR_some (r : Rs) (h : r.e = 0) {n k : Nat} (hp : parse r.l = some (n, k)) : uintR r = (n, ⟨r.l.drop k, 0⟩) := by unfold uintR; rw [if_neg (by simp [h]), hp]

set_option maxRecDepth 100000 in
set_option maxHeartbeats 1000000 in
theorem uint_calls (g : Nat) (r : Rs) (w : World) (h : IsRd w g r) : Calls Try.prog 29 #[.pointer (some ⟨g, 0, none⟩)] w (UintPost w g r) := by
  have hgl := h.lt
  have HI := Lib.hid h
  obtain ⟨l, er⟩ := r
  obtain ⟨A, c, hg, hlc, hcm, hr, hne⟩ := h
  simp only at hg hlc hr hne
  have hb2 := below2 w (.cells #[.pointer (some ⟨g, 0, none⟩)] 63) (.cells #[.int .u64 0] 65)
  have hR : ((w.alloc (.cells #[.pointer (some ⟨g, 0, none⟩)] 63)).alloc (.cells #[.int .u64 0] 65)).heap[w.heap.size]? = _ := (Below.heap_alloc _ _ _ (by simp)).trans (heap_alloc_new _ _)
  have hN : ((w.alloc (.cells #[.pointer (some ⟨g, 0, none⟩)] 63)).alloc (.cells #[.int .u64 0] 65)).heap[w.heap.size + 1]? = _ := heap_alloc2_new _ _ _
  have HR := Lib.hid hR
  have HN := Lib.hid hN
  have HB := Lib.hid hb2
  have HG := Lib.hid ((hb2.block g hgl).trans hg)
  have HRb := Lib.hid (RB.below hr hb2)
  have HLT := Lib.hid (fun hp b off e => RB.lt hr hp b off e)
  have HNE := Lib.hid hne
  clear hb2 hR hN hg hr hne
  by_cases he : er = 0
  · subst he
    go_enter Try.func29, Try.ntmps29
    go_wp2_with fail
    generalize (w.alloc (.cells #[.pointer (some ⟨g, 0, none⟩)] 63)).alloc (.cells #[.int .u64 0] 65) = w2 at *
    refine (try_calls _ _ (enters_uint _) g w2 _ HG.out (UR w2 (w.heap.size + 1) g A c l) (uint1_calls w.heap.size (w.heap.size + 1) g A c l w2 HR.out HG.out HN.out HRb.out hlc hcm (fun hp b off e => by have := HLT.out hp b off e; omega) (by omega) (by omega))).mono ?_
    rintro e w4 ⟨ec, sl, w3, hur, hg3, hcase⟩
    rcases hur with ⟨hp, rfl, hch⟩ | ⟨v, k, hp, rfl, rfl, hn3, hch⟩
    · rcases hcase with ⟨h0, _, _⟩ | ⟨_, rfl, rfl⟩
      · cases h0
      · have HF : Hid (UintPost w g ⟨l, 0⟩ (.returned (.int .u64 0)) ((w3.setCell ⟨g, 1, none⟩ (.int .i64 11)).setCell ⟨g, 0, none⟩ (.slice none 0 0))) := by
          unfold UintPost
          rw [uintR_none ⟨l, 0⟩ rfl hp]
          refine ⟨rfl, ⟨none, 0, heap_setCell_same _ _ _ _ _ _ (heap_setCell_same _ _ _ _ _ _ hg3), Nat.le_refl _, by simp [maxLen], RB.nil, fun h => by cases h⟩, ?_⟩
          have h1 : Chg [g] w w3 := (Chg.of_below HB.out [g]).trans' (hch.mono (by simp))
          exact (h1.setCell (p := ⟨g, 1, none⟩) (.inl (by simp)) _).setCell (p := ⟨g, 0, none⟩) (.inl (by simp)) _
        clear hg3 hch hp
        go_wp2_with fail
        go_ret
        exact HF.out
    · rcases hcase with ⟨_, rfl, rfl⟩ | ⟨h0, _, _⟩
      · have hps := parse_some l v k hp
        have hcg : Chg [g] w w3 := (Chg.of_below HB.out [g]).trans hch (by simp)
        have HF : Hid (UintPost w g ⟨l, 0⟩ (.returned (.int .u64 (v : Int))) (w3.setCell ⟨g, 1, none⟩ (.int .i64 0))) := by
          unfold UintPost
          rw [uintR_some ⟨l, 0⟩ rfl hp]
          have hdl : (l.drop k).length = l.length - k := by simp
          have hcs : Chg [g] w3 (w3.setCell ⟨g, 1, none⟩ (.int .i64 0)) := (Chg.refl _ _).setCell (p := ⟨g, 1, none⟩) (.inl (by simp)) _
          refine ⟨rfl, ⟨cutA A k c, c - k, ?_, by simp only [hdl]; omega, by omega, ?_, ?_⟩, hcg.trans' hcs⟩
          · simp only [hdl]; exact heap_setCell_same _ _ _ _ _ _ hg3
          · have h2 : RB w2 (cutA A k c) (l.drop k) := RB.cut HRb.out k c hlc
            have hbl : 0 < (l.drop k).length → ∀ b off, cutA A k c = some ⟨b, off, none⟩ → b < w.heap.size ∧ b < g := by
              intro hpos b off e
              have hl0 : 0 < l.length := by rw [hdl] at hpos; omega
              obtain ⟨b0, o0, rfl, _⟩ := RB.cells HRb.out hl0
              have := cutA_some e
              subst this
              exact ⟨HLT.out hl0 b o0 rfl, HNE.out hl0 b o0 rfl⟩
            refine RB.chg (RB.chg h2 hch ?_) hcs ?_
            · intro hpos b off e
              have := hbl hpos b off e
              simp; omega
            · intro hpos b off e
              have := hbl hpos b off e
              simp; omega
          · intro hpos b off e
            simp only at hpos
            have hl0 : 0 < l.length := by rw [hdl] at hpos; omega
            obtain ⟨b0, o0, rfl, _⟩ := RB.cells HRb.out hl0
            have := cutA_some e
            subst this
            exact HNE.out hl0 b o0 rfl
        have n0 : (w3.setCell ⟨g, 1, none⟩ (.int .i64 0)).cell? ⟨w.heap.size + 1, 0, none⟩ = some (.int .u64 (v : Int)) :=
          (World.cell?_setCell_other w3 ⟨g, 1, none⟩ ⟨w.heap.size + 1, 0, none⟩ _ (fun e => by cases e)).trans ((cell_of_row _ _ 0 _ _ _ hn3).trans rfl)
        clear hg3 hch hp hn3 hps hcg
        go_wp2_with fail
        go_ret
        exact HF.out
      · exact absurd rfl h0
  · have HE : Hid (uintR ⟨l, er⟩ = (0, ⟨l, er⟩)) := uintR_err ⟨l, er⟩ he
    go_enter Try.func29, Try.ntmps29
    go_wp2_with fail
    generalize (w.alloc (.cells #[.pointer (some ⟨g, 0, none⟩)] 63)).alloc (.cells #[.int .u64 0] 65) = w2 at *
    refine (try_no _ g w2 _ er HG.out he).mono ?_
    rintro e w3 ⟨rfl, rfl⟩
    have HF : Hid (UintPost w g ⟨l, er⟩ (.returned (.int .u64 0)) w2) := by
      unfold UintPost
      rw [HE.out]
      exact ⟨rfl, HI.out.below HB.out, Chg.of_below HB.out _⟩
    go_wp2_with fail
    go_ret
    exact HF.out

theorem left_calls (g : Nat) (r : Rs) (w : World) (h : IsRd w g r) : Calls Try.prog 30 #[.pointer (some ⟨g, 0, none⟩)] w fun e w' => e = .returned (.int .i64 (r.l.length : Int)) ∧ w = w' := by
  obtain ⟨A, c, hg, _⟩ := h
  have c0 : w.cell? ⟨g, 0, none⟩ = some (.slice A r.l.length c) := (cell_of_row _ _ 0 _ _ _ hg).trans rfl
  clear hg
  go_enter Try.func30, Try.ntmps30
  go_wp2_with fail
  go_ret
  exact ⟨rfl, rfl⟩

/-- what Done returns -/
def doneR (r : Rs) : Int := if r.e = 0 ∧ 0 < r.l.length then 11 else r.e
set_option maxRecDepth 100000 in
theorem done_calls (g : Nat) (r : Rs) (w : World) (h : IsRd w g r) : Calls Try.prog 31 #[.pointer (some ⟨g, 0, none⟩)] w fun e w' => e = .returned (.int .i64 (doneR r)) ∧ w = w' := by
  obtain ⟨A, c, hg, _⟩ := h
  obtain ⟨l, er⟩ := r
  simp only at hg
  have c0 : w.cell? ⟨g, 0, none⟩ = some (.slice A l.length c) := (cell_of_row _ _ 0 _ _ _ hg).trans rfl
  have c1 : w.cell? ⟨g, 1, none⟩ = some (.int .i64 er) := (cell_of_row _ _ 1 _ _ _ hg).trans rfl
  clear hg
  by_cases he : er = 0
  · subst he
    by_cases hl : 0 < l.length
    · have HD : Hid (doneR ⟨l, 0⟩ = 11) := by show _ = _; unfold doneR; rw [if_pos ⟨rfl, hl⟩]
      rw [HD.out]
      have d0 : decide ((0 : Int) < (l.length : Int)) = true := by rw [decide_eq_true_eq]; omega
      generalize l.length = n at *
      go_enter Try.func31, Try.ntmps31
      go_wp2_with fail
      go_ret
      exact ⟨rfl, rfl⟩
    · have HD : Hid (doneR ⟨l, 0⟩ = 0) := by show _ = _; unfold doneR; rw [if_neg (by rintro ⟨_, h⟩; exact hl h)]
      rw [HD.out]
      have d0 : decide ((0 : Int) < (l.length : Int)) = false := by rw [decide_eq_false_iff_not]; omega
      generalize l.length = n at *
      go_enter Try.func31, Try.ntmps31
      go_wp2_with fail
      go_ret
      exact ⟨rfl, rfl⟩
  · have HD : Hid (doneR ⟨l, er⟩ = er) := by show _ = _; unfold doneR; rw [if_neg (by rintro ⟨h, _⟩; exact he h)]
    rw [HD.out]
    have q1 : (er == 0) = false := by simpa using he
    clear he
    go_enter Try.func31, Try.ntmps31
    go_wp2_with fail
    go_ret
    exact ⟨rfl, rfl⟩
end Wi
end Go.Proofs.Ytjmcmilbkhacdaa
