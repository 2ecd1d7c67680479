/- The walk of lease.Decode. -/
import Derived.Test.YtmdconcbelmdpaaLsN
import Derived.Laws.EntriesVeiled
namespace Go.Proofs.Ytmdconcbelmdpaa
open Go.RowKit
namespace Ls
open In (vi conB)
open Wr Wi

def setT (L : St) (i : Nat) (x : Int) : St := { L with t := fun j => if j = i then x else L.t j }
def setR (L : St) (i : Nat) (x : Int) : St := { L with r := fun j => if j = i then x else L.r j }
def setC (L : St) (x : Int) : St := { L with c := x }
theorem set_tick (L : St) (i : Nat) (x : Int) (hi : i < 8) : (cellsL L).toArray.setIfInBounds (1 + i * 2) (.int .i64 x) = (cellsL (setT L i x)).toArray := by
  apply Array.ext_getElem?
  intro j
  rw [Array.getElem?_setIfInBounds]
  by_cases hj : j < 18
  · simp only [cellsL, List.getElem?_toArray, List.getElem?_map, List.getElem?_range hj, Option.map_some, List.size_toArray, List.length_map, List.length_range]
    by_cases h1 : 1 + i * 2 = j
    · subst h1
      rw [if_pos rfl, if_pos hj]
      unfold cell
      rw [if_neg (by omega), if_neg (by omega), if_pos (by omega), show (1 + i * 2 - 1) / 2 = i by omega]
      simp [setT]
    · rw [if_neg h1]
      unfold cell
      by_cases h0 : j = 0
      · rw [if_pos h0, if_pos h0]; rfl
      · by_cases h17 : j = 17
        · rw [if_neg h0, if_neg h0, if_pos h17, if_pos h17]; rfl
        · rw [if_neg h0, if_neg h0, if_neg h17, if_neg h17]
          by_cases h2 : (j - 1) % 2 = 0
          · have hne : ¬ ((j - 1) / 2) = i := by omega
            rw [if_pos h2, if_pos h2]; simp [setT, hne]
          · rw [if_neg h2, if_neg h2]; rfl
  · rw [if_neg (by omega)]
    simp [cellsL, hj]
theorem set_round (L : St) (i : Nat) (x : Int) (hi : i < 8) : (cellsL L).toArray.setIfInBounds (1 + i * 2 + 1) (.int .i64 x) = (cellsL (setR L i x)).toArray := by
  apply Array.ext_getElem?
  intro j
  rw [Array.getElem?_setIfInBounds]
  by_cases hj : j < 18
  · simp only [cellsL, List.getElem?_toArray, List.getElem?_map, List.getElem?_range hj, Option.map_some, List.size_toArray, List.length_map, List.length_range]
    by_cases h1 : 1 + i * 2 + 1 = j
    · subst h1
      rw [if_pos rfl, if_pos hj]
      unfold cell
      rw [if_neg (by omega), if_neg (by omega), if_neg (by omega), show (1 + i * 2 + 1 - 1) / 2 = i by omega]
      simp [setR]
    · rw [if_neg h1]
      unfold cell
      by_cases h0 : j = 0
      · rw [if_pos h0, if_pos h0]; rfl
      · by_cases h17 : j = 17
        · rw [if_neg h0, if_neg h0, if_pos h17, if_pos h17]; rfl
        · rw [if_neg h0, if_neg h0, if_neg h17, if_neg h17]
          by_cases h2 : (j - 1) % 2 = 0
          · rw [if_pos h2, if_pos h2]; rfl
          · have hne : ¬ ((j - 1) / 2) = i := by omega
            rw [if_neg h2, if_neg h2]; simp [setR, hne]
  · rw [if_neg (by omega)]
    simp [cellsL, hj]
theorem IsL.setT {w : World} {g : Nat} {L : St} (h : IsL w g L) (i : Nat) (hi : i < 8) (x : Int) : IsL (w.setCell ⟨g, 1 + i * 2, none⟩ (.int .i64 x)) g (setT L i x) :=
  ⟨by rw [← set_tick L i x hi]; exact heap_setCell_same _ _ _ _ _ _ h.1, h.2⟩
theorem IsL.setR {w : World} {g : Nat} {L : St} (h : IsL w g L) (i : Nat) (hi : i < 8) (x : Int) : IsL (w.setCell ⟨g, 1 + i * 2 + 1, none⟩ (.int .i64 x)) g (setR L i x) :=
  ⟨by rw [← set_round L i x hi]; exact heap_setCell_same _ _ _ _ _ _ h.1, h.2⟩
theorem IsL.setC {w : World} {g : Nat} {L : St} (h : IsL w g L) (x : Int) : IsL (w.setCell ⟨g, 17, none⟩ (.int .i64 x)) g (setC L x) :=
  ⟨(heap_setCell_same _ _ _ _ _ _ h.1).trans (by rw [set_counter]; rfl), h.2⟩
theorem IsL.chg {w w' : World} {g : Nat} {L : St} {S : List Nat} (h : IsL w g L) (hc : Chg S w w') (hg : g ∉ S) : IsL w' g L := ⟨hc.blk h.1 hg, h.2⟩

/-- the state of Decode: the leases, whether a number was too great, the reader -/
structure DS where
  L : St
  b : Bool
  r : Rs
def dOne (s : DS) (i : Nat) : DS := ⟨setT s.L i (mI (uintR s.r).1), great s.b (uintR s.r).1, (uintR s.r).2⟩
def dTwo (s : DS) (i : Nat) : DS := ⟨setR s.L i (mI (uintR s.r).1), great s.b (uintR s.r).1, (uintR s.r).2⟩
def dLoop (n : Nat) (r : Rs) : Nat → DS
  | 0 => ⟨fresh n, false, r⟩
  | k + 1 => dTwo (dOne (dLoop n r k) k) k
def dEnd (s : DS) : DS := ⟨setC s.L (mI (uintR s.r).1), great s.b (uintR s.r).1, (uintR s.r).2⟩
def decD (l : List UInt8) : DS := dEnd (dLoop (countR 8 ⟨l, 0⟩).1 (countR 8 ⟨l, 0⟩).2 (countR 8 ⟨l, 0⟩).1)

theorem dLoop_m (n : Nat) (r : Rs) (k : Nat) : (dLoop n r k).L.m = mach n := by
  induction k with
  | zero => rfl
  | succ k ih => exact ih
theorem count8 (r : Rs) : (countR 8 r).1 ≤ 8 := by
  unfold countR
  split
  · simp
  · split
    · simp
    · split
      · simp
      · omega

/-- what Decode's loop has at hand -/
def DIn (w : World) (g X F0 G0 : Nat) (s : DS) (wr : World) : Prop :=
  IsL wr X s.L ∧ wr.heap[G0]? = some (.cells #[.bool s.b] 4 (0, 0)) ∧ IsRd wr g s.r ∧ wr.heap[F0]? = some (.cells #[fnU g] 72 (0, 0)) ∧ Below w.heap.size w wr

def DecP (l : List UInt8) (w : World) (e : Ending) (w' : World) : Prop :=
  (doneR (decD l).r ≠ 0 ∧ e = .returned (.tuple #[.pointer none, .int .i64 (doneR (decD l).r)]) ∧ Below w.heap.size w w') ∨
  (doneR (decD l).r = 0 ∧ (decD l).b = true ∧ e = .returned (.tuple #[.pointer none, .int .i64 11]) ∧ Below w.heap.size w w') ∨
  (doneR (decD l).r = 0 ∧ (decD l).b = false ∧ ∃ g, e = .returned (.tuple #[.pointer (some ⟨g, 0, none⟩), .int .i64 0]) ∧ IsL w' g (decD l).L ∧ w.heap.size ≤ g ∧ Below w.heap.size w w')

set_option maxRecDepth 100000 in
set_option maxHeartbeats 4000000 in
theorem decode_calls (A : Option Addr) (n c : Nat) (l : List UInt8) (w : World) (hn : l.length = n) (hr : RB w A l) (hm : n ≤ 1000) : Calls Try.prog 23 #[.slice A n c] w (DecP l w) := by
  have HNR := Lib.hid (newReader_calls A n c l w hn hr (by omega))
  clear hn hr
  obtain ⟨D, HD⟩ : ∃ x, Hid (decD l = x) := ⟨_, rfl⟩
  have HDD := Lib.hid (show decD l = dEnd (dLoop (countR 8 ⟨l, 0⟩).1 (countR 8 ⟨l, 0⟩).2 (countR 8 ⟨l, 0⟩).1) from rfl)
  have h8 := count8 ⟨l, 0⟩
  have HE1 : Hid (∀ w', doneR D.r ≠ 0 → Below w.heap.size w w' → DecP l w (.returned (.tuple #[.pointer none, .int .i64 (doneR D.r)])) w') := by
    intro w' h1 h2; unfold DecP; rw [HD.out]; exact .inl ⟨h1, rfl, h2⟩
  have HE2 : Hid (∀ w', doneR D.r = 0 → D.b = true → Below w.heap.size w w' → DecP l w (.returned (.tuple #[.pointer none, .int .i64 11])) w') := by
    intro w' h1 h2 h3; unfold DecP; rw [HD.out]; exact .inr (.inl ⟨h1, h2, rfl, h3⟩)
  have HE3 : Hid (∀ g w', doneR D.r = 0 → D.b = false → IsL w' g D.L → w.heap.size ≤ g → Below w.heap.size w w' → DecP l w (.returned (.tuple #[.pointer (some ⟨g, 0, none⟩), .int .i64 0])) w') := by
    intro g w' h1 h2 h3 h4 h5; unfold DecP; rw [HD.out]; exact .inr (.inr ⟨h1, h2, g, rfl, h3, h4, h5⟩)
  rw [HD.out] at HDD
  have HCT : Hid (∀ g w', IsRd w' g ⟨l, 0⟩ → Calls Try.prog 33 #[.pointer (some ⟨g, 0, none⟩), .int .i64 8] w' (DP w' g (.int .i64 ((countR 8 ⟨l, 0⟩).1 : Int)) (countR 8 ⟨l, 0⟩).2)) := fun g w' h => count_calls g ⟨l, 0⟩ 8 w' h (by omega) (by omega)
  generalize (countR 8 ⟨l, 0⟩).1 = m at *
  generalize (countR 8 ⟨l, 0⟩).2 = r1 at *
  go_enter Try.func23, Try.ntmps23
  go_wp2_with fail
  refine HNR.out.mono ?_
  rintro e w1 ⟨g, rfl, hr1, hg1, hb1⟩
  have HB1 := Lib.hid hb1
  have HR1 := Lib.hid hr1
  clear hr1 hb1 HNR
  go_wp2_with fail
  refine (HCT.out g w1 HR1.out).mono ?_
  rintro e w2 ⟨rfl, hr2, hc2⟩
  have HR2 := Lib.hid hr2
  have HB2 := Lib.hid (HB1.out.trans (hc2.below HB1.out.size (by simp; omega)))
  have hgl := hr2.lt
  clear hr2 hc2 HR1 HB1
  go_wp2_with fail
  refine (new_calls m w2).mono ?_
  rintro e w3 ⟨rfl, hl3, hb3⟩
  have hX3 : w2.heap.size < w3.heap.size := (Array.getElem?_eq_some_iff.1 hl3.1).1
  have HL3 := Lib.hid hl3
  have HR3 := Lib.hid (HR2.out.below hb3)
  have HB3 := Lib.hid (HB2.out.trans (hb3.mono HB2.out.size))
  have hwX : w.heap.size ≤ w2.heap.size := HB2.out.size
  clear hl3 hb3 HR2 HB2
  generalize w2.heap.size = X at *
  have hmach : mach (m : Int) = m := by unfold mach; omega
  have HMA := Lib.hid hmach
  have x0 : ∀ o1 o2 : Obj, ((w3.alloc o1).alloc o2).cell? ⟨X, 0, none⟩ = some (.int .i64 m) := fun o1 o2 => by
    have h := (((HL3.out.below (below2 w3 o1 o2)).machines))
    rw [show (fresh (m : Int)).m = m from hmach] at h; exact h
  clear hmach
  go_wp2_with fail
  have hb4 := below2 w3 (.cells #[fnU g] 72) (.cells #[.bool false] 4)
  have hF4 : ((w3.alloc (.cells #[fnU g] 72)).alloc (.cells #[.bool false] 4)).heap[w3.heap.size]? = _ := (Below.heap_alloc _ _ _ (by simp)).trans (heap_alloc_new _ _)
  have hG4 : ((w3.alloc (.cells #[fnU g] 72)).alloc (.cells #[.bool false] 4)).heap[w3.heap.size + 1]? = _ := heap_alloc2_new _ _ _
  unfold fnU at hb4 hF4 hG4
  clear x0
  generalize (w3.alloc (.cells #[.func (Fn.func 34) #[.pointer (some ⟨g, 0, none⟩)] #[]] 72)).alloc (.cells #[.bool false] 4) = w4 at *
  have HD4 : Hid (DIn w g X w3.heap.size (w3.heap.size + 1) (dLoop m r1 0) w4) := ⟨HL3.out.below hb4, hG4, HR3.out.below hb4, hF4, HB3.out.trans (hb4.mono HB3.out.size)⟩
  have hwG : w.heap.size ≤ w3.heap.size := HB3.out.size
  clear hb4 hF4 hG4 HL3 HR3 HB3
  generalize w3.heap.size = F0 at *
  go_loopw [23] (fun i wr => ∃ k : Nat, k ≤ m ∧ i = .int .i64 k ∧ DIn w g X F0 (F0 + 1) (dLoop m r1 k) wr) (fun i _ => m - (intOf i).toNat)
  case atStart => exact ⟨0, by omega, rfl, HD4.out⟩
  case round =>
    obtain ⟨k, hk, rfl, hL, hG, hR, hF, hB⟩ := hrel
    have HL := Lib.hid hL
    have HG := Lib.hid hG
    have HR := Lib.hid hR
    have HF := Lib.hid hF
    have HB := Lib.hid hB
    by_cases hlt : k < m
    · have HSS : Hid (dLoop m r1 (k + 1) = dTwo (dOne (dLoop m r1 k) k) k) := rfl
      generalize dLoop m r1 k = s at *
      have HN1 := Lib.hid (next1_calls F0 (F0 + 1) g s.r s.b wr.drew HF.out HG.out (HR.out.below (below_drew _)) (by omega) (by omega))
      have j0 : (0 : Int) ≤ (k : Int) := by omega
      have j1 : (k : Int) < 8 := by omega
      obtain ⟨s1, HS1⟩ : ∃ x, Hid (x = dOne s k) := ⟨_, rfl⟩
      rw [← HS1.out] at HSS
      have HS1b : Hid (s1.b = great s.b (uintR s.r).1 ∧ s1.r = (uintR s.r).2 ∧ s1.L = setT s.L k (mI (uintR s.r).1)) := by rw [HS1.out]; exact ⟨rfl, rfl, rfl⟩
      clear hL hG hR hF hB
      generalize (uintR s.r).1 = n1 at *
      generalize (uintR s.r).2 = q1 at *
      go_wp2_with fail
      go_region_with (go_at_call 35; refine HN1.out.mono ?_; rintro e w5 ⟨rfl, hr5, hg5, hc5⟩; have hcc : Chg [g, F0 + 1] wr w5 := (Chg.refl [g, F0 + 1] wr).drew.trans' hc5; have HC5 := Lib.hid hcc; have HL5 := Lib.hid (HL.out.chg hcc (by simp; omega)); have HR5 := Lib.hid hr5; have HG5 := Lib.hid hg5; have c5 := HL5.out.tick k (by omega); have f5 := HL5.out.frozen (1 + k * 2); clear hr5 hg5 hc5 hcc)
      all_goals
        have hcs : Chg [X] w5 (w5.setCell ⟨X, 1 + k * 2, none⟩ (.int .i64 (mI n1))) := (Chg.refl [X] w5).setCell (p := ⟨X, 1 + k * 2, none⟩) (.inl (by simp)) _
        have HD6 : Hid (DIn w g X F0 (F0 + 1) s1 (w5.setCell ⟨X, 1 + k * 2, none⟩ (.int .i64 (mI n1)))) := by
          refine ⟨by rw [HS1b.out.2.2]; exact HL5.out.setT k (by omega) _, ?_, by rw [HS1b.out.2.1]; exact HR5.out.chg hcs (by simp; omega), hcs.blk (HC5.out.blk HF.out (by simp; omega)) (by simp; omega), (HB.out.trans (HC5.out.below HB.out.size (by simp; omega))).trans (hcs.below (Nat.le_trans HB.out.size HC5.out.size) (by simp; omega))⟩
          rw [HS1b.out.1]; exact hcs.blk HG5.out (by simp; omega)
        clear hcs c5 f5 HN1 HL5 HR5 HG5 HC5
        generalize w5.setCell ⟨X, 1 + k * 2, none⟩ (.int .i64 (mI n1)) = w6 at *
        obtain ⟨hL6, hG6, hR6, hF6, hB6⟩ := HD6.out
        have HL6 := Lib.hid hL6
        have HG6 := Lib.hid hG6
        have HR6 := Lib.hid hR6
        have HF6 := Lib.hid hF6
        have HB6 := Lib.hid hB6
        have HN2 := Lib.hid (next1_calls F0 (F0 + 1) g s1.r s1.b w6.drew HF6.out HG6.out (HR6.out.below (below_drew _)) (by omega) (by omega))
        obtain ⟨s2, HS2⟩ : ∃ x, Hid (x = dTwo s1 k) := ⟨_, rfl⟩
        rw [← HS2.out] at HSS
        have HS2b : Hid (s2.b = great s1.b (uintR s1.r).1 ∧ s2.r = (uintR s1.r).2 ∧ s2.L = setR s1.L k (mI (uintR s1.r).1)) := by rw [HS2.out]; exact ⟨rfl, rfl, rfl⟩
        clear hL6 hG6 hR6 hF6 hB6 HD6
        generalize (uintR s1.r).1 = n2 at *
        generalize (uintR s1.r).2 = q2 at *
        go_wp2_with fail
        go_region_with (go_at_call 35; refine HN2.out.mono ?_; rintro e w7 ⟨rfl, hr7, hg7, hc7⟩; have hcc : Chg [g, F0 + 1] w6 w7 := (Chg.refl [g, F0 + 1] w6).drew.trans' hc7; have HC7 := Lib.hid hcc; have HL7 := Lib.hid (HL6.out.chg hcc (by simp; omega)); have HR7 := Lib.hid hr7; have HG7 := Lib.hid hg7; have c7 := HL7.out.round k (by omega); have f7 := HL7.out.frozen (1 + k * 2 + 1); clear hr7 hg7 hc7 hcc)
        all_goals
          have hcs : Chg [X] w7 (w7.setCell ⟨X, 1 + k * 2 + 1, none⟩ (.int .i64 (mI n2))) := (Chg.refl [X] w7).setCell (p := ⟨X, 1 + k * 2 + 1, none⟩) (.inl (by simp)) _
          have HD8 : Hid (DIn w g X F0 (F0 + 1) s2 (w7.setCell ⟨X, 1 + k * 2 + 1, none⟩ (.int .i64 (mI n2)))) := by
            refine ⟨by rw [HS2b.out.2.2]; exact HL7.out.setR k (by omega) _, ?_, by rw [HS2b.out.2.1]; exact HR7.out.chg hcs (by simp; omega), hcs.blk (HC7.out.blk HF6.out (by simp; omega)) (by simp; omega), (HB6.out.trans (HC7.out.below HB6.out.size (by simp; omega))).trans (hcs.below (Nat.le_trans HB6.out.size HC7.out.size) (by simp; omega))⟩
            rw [HS2b.out.1]; exact hcs.blk HG7.out (by simp; omega)
          clear hcs c7 f7 HN2 HL7 HR7 HG7 HC7
          generalize w7.setCell ⟨X, 1 + k * 2 + 1, none⟩ (.int .i64 (mI n2)) = w8 at *
          go_wp2_with fail
          go_roundw
          case rel => exact ⟨k + 1, by omega, by go_num, by rw [HSS.out]; exact HD8.out⟩
          case measure => simp [intOf]; omega
    · have HKM : Hid (k = m) := by show _ = _; omega
      rw [HKM.out] at HL HG HR
      generalize dLoop m r1 m = s at *
      have HN1 := Lib.hid (next1_calls F0 (F0 + 1) g s.r s.b wr HF.out HG.out HR.out (by omega) (by omega))
      have HDb : Hid (D.b = great s.b (uintR s.r).1 ∧ D.r = (uintR s.r).2 ∧ D.L = setC s.L (mI (uintR s.r).1)) := by rw [HDD.out]; exact ⟨rfl, rfl, rfl⟩
      clear hL hG hR hF hB
      generalize (uintR s.r).1 = n1 at *
      generalize (uintR s.r).2 = q1 at *
      go_wp2_with fail
      refine HN1.out.mono ?_
      rintro e w5 ⟨rfl, hr5, hg5, hc5⟩
      have HC5 := Lib.hid hc5
      have HL5 := Lib.hid (HL.out.chg hc5 (by simp; omega))
      have c5 := HL5.out.counter
      have f5 := HL5.out.frozen 17
      have hcs : Chg [X] w5 (w5.setCell ⟨X, 17, none⟩ (.int .i64 (mI n1))) := (Chg.refl [X] w5).setCell (p := ⟨X, 17, none⟩) (.inl (by simp)) _
      have HL6 : Hid (IsL (w5.setCell ⟨X, 17, none⟩ (.int .i64 (mI n1))) X D.L) := by rw [HDb.out.2.2]; exact HL5.out.setC _
      have HR6 : Hid (IsRd (w5.setCell ⟨X, 17, none⟩ (.int .i64 (mI n1))) g D.r) := by rw [HDb.out.2.1]; exact hr5.chg hcs (by simp; omega)
      have g6 : (w5.setCell ⟨X, 17, none⟩ (.int .i64 (mI n1))).cell? ⟨F0 + 1, 0, none⟩ = some (.bool D.b) := by
        rw [HDb.out.1]; exact (hcs.cellAt hg5 (by simp; omega)).trans rfl
      have HB6 : Hid (Below w.heap.size w (w5.setCell ⟨X, 17, none⟩ (.int .i64 (mI n1)))) := (HB.out.trans (HC5.out.below HB.out.size (by simp; omega))).trans (hcs.below (Nat.le_trans HB.out.size HC5.out.size) (by simp; omega))
      have HDO : Hid (∀ w', IsRd w' g D.r → Calls Try.prog 36 #[.pointer (some ⟨g, 0, none⟩)] w' fun e w'' => e = .returned (.int .i64 (doneR D.r)) ∧ w' = w'') := fun w' h => done_calls g D.r w' h
      clear hr5 hg5 hc5 hcs HN1 HDb HDD
      obtain ⟨L, b, rr⟩ := D
      simp only at HL6 HR6 g6 HDO HE1 HE2 HE3
      generalize hdd : doneR rr = d at *
      clear hdd
      go_wp2_with fail
      clear c5 f5
      generalize w5.setCell ⟨X, 17, none⟩ (.int .i64 (mI n1)) = w6 at *
      refine (HDO.out w6 HR6.out).mono ?_
      rintro e w7 ⟨rfl, rfl⟩
      by_cases hd : d = 0
      · subst hd
        cases b with
        | true =>
          go_wp2_with fail
          go_ret2
          exact HE2.out _ (by simp) (by simp) HB6.out
        | false =>
          go_wp2_with fail
          go_ret2
          exact HE3.out _ _ (by simp) (by simp) HL6.out hwX HB6.out
      · have q1 : (d != 0) = true := by simpa using hd
        have HDN := Lib.hid hd
        clear hd
        go_wp2_with fail
        go_ret2
        exact HE1.out _ HDN.out HB6.out
end Ls
end Go.Proofs.Ytmdconcbelmdpaa
