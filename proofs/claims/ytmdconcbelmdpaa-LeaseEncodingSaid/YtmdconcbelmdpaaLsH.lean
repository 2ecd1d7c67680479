/- The walk of refmeshlaw26.run. -/
import Derived.Test.YtmdconcbelmdpaaLsG
import Derived.StillTailTactics
namespace Go.Proofs.Ytmdconcbelmdpaa
open Go.RowKit
namespace Ls
open In (vi conB)

def Cl.cells (c : Cl) : List Value := [vb c.kind, .int .i64 c.cl, .int .i64 c.ro, .int .i64 c.ti]
/-- a slice of calls -/
def RdC (w : World) (A : Option Addr) (cs : List Cl) : Prop := Rd w A (cs.map Cl.cells).flatten

theorem flat_get (cs : List Cl) (i j : Nat) (hi : i < cs.length) (hj : j < 4) : (cs.map Cl.cells).flatten[i * 4 + j]? = (cs[i].cells)[j]? := by
  induction cs generalizing i with
  | nil => simp at hi
  | cons c cs ih =>
    rw [List.map_cons, List.flatten_cons]
    have hl : c.cells.length = 4 := rfl
    cases i with
    | zero => rw [List.getElem?_append_left (by omega)]; simp
    | succ i =>
      rw [List.getElem?_append_right (by omega), show (i + 1) * 4 + j - c.cells.length = i * 4 + j by omega, ih i (by simpa using hi)]
      rfl

theorem RdC.cells {w : World} {A : Option Addr} {cs : List Cl} (h : RdC w A cs) (hn : 0 < cs.length) : ∃ b off, A = some ⟨b, off, none⟩ ∧ ∀ i (hi : i < cs.length),
    w.cell? ⟨b, off + i * 4, none⟩ = some (vb cs[i].kind) ∧ w.cell? ⟨b, off + i * 4 + 1, none⟩ = some (.int .i64 cs[i].cl) ∧ w.cell? ⟨b, off + i * 4 + 2, none⟩ = some (.int .i64 cs[i].ro) ∧ w.cell? ⟨b, off + i * 4 + 3, none⟩ = some (.int .i64 cs[i].ti) := by
  have hpos : 0 < (cs.map Cl.cells).flatten.length := by
    have h0 := flat_get cs 0 0 hn (by omega)
    rcases Nat.eq_zero_or_pos (cs.map Cl.cells).flatten.length with h | h
    · rw [List.getElem?_eq_none (by omega)] at h0; simp [Cl.cells] at h0
    · exact h
  obtain ⟨b, off, e, _, hc⟩ := Rd.cells h hpos
  refine ⟨b, off, e, fun i hi => ⟨?_, ?_, ?_, ?_⟩⟩
  · exact hc (i * 4) _ (flat_get cs i 0 hi (by omega))
  · rw [Nat.add_assoc]; exact hc (i * 4 + 1) _ (flat_get cs i 1 hi (by omega))
  · rw [Nat.add_assoc]; exact hc (i * 4 + 2) _ (flat_get cs i 2 hi (by omega))
  · rw [Nat.add_assoc]; exact hc (i * 4 + 3) _ (flat_get cs i 3 hi (by omega))
theorem RdC.below {w w' : World} {A : Option Addr} {cs : List Cl} (h : RdC w A cs) (hb : Below w.heap.size w w') : RdC w' A cs := Rd.below h hb

def runs (L : St) (cs : List Cl) : St := cs.foldl next L
theorem runs_snoc (L : St) (cs : List Cl) (k : Nat) (hk : k < cs.length) : runs L (cs.take (k + 1)) = next (runs L (cs.take k)) cs[k] := by
  unfold runs; rw [List.take_succ_eq_append_getElem hk, List.foldl_append]; rfl
theorem next_c (L : St) (c : Cl) : L.c ≤ (next L c).c ∧ (next L c).c ≤ L.c + 1 := by
  unfold next
  split
  · rw [hear_c]; omega
  · split
    · simp only; omega
    · omega
theorem runs_c (L : St) (cs : List Cl) : L.c ≤ (runs L cs).c ∧ (runs L cs).c ≤ L.c + cs.length := by
  induction cs generalizing L with
  | nil => simp [runs]
  | cons c cs ih =>
    have h1 := next_c L c
    have h2 := ih (next L c)
    show L.c ≤ (runs (next L c) cs).c ∧ _ ≤ _
    rw [List.length_cons]
    refine ⟨by omega, ?_⟩
    show (runs (next L c) cs).c ≤ _
    omega
theorem next_m (L : St) (c : Cl) : (next L c).m = L.m := by
  unfold next
  split
  · exact hear_m L _ _ _
  · split <;> rfl
theorem runs_m (L : St) (cs : List Cl) : (runs L cs).m = L.m := by
  induction cs generalizing L with
  | nil => rfl
  | cons c cs ih => exact (ih (next L c)).trans (next_m L c)

def RunPost (w : World) (L : St) (e : Ending) (w' : World) : Prop :=
  ∃ g v, e = .returned (.tuple #[.pointer (some ⟨g, 0, none⟩), v, .bool true]) ∧ IsL w' g L ∧ IsR w' v L ∧ Below w.heap.size w w' ∧ w.heap.size ≤ g

/-- the head of the loop -/
def RunRel (w : World) (g M : Nat) (L : St) (wr : World) : Prop :=
  ∃ A ca B cb, IsR wr (.agg #[.slice A L.m ca, .slice B L.m cb, .int .i64 L.c]) L ∧ IsL wr g L ∧ Below w.heap.size w wr ∧
    wr.heap[M]? = some (.cells #[.slice A L.m ca, .slice B L.m cb, .int .i64 L.c] 27 (0, 0)) ∧
    wr.heap[w.heap.size]? = some (.cells #[.slice none 0 0, .slice none 0 0, .int .i64 0] 27 (0, 0))

set_option maxRecDepth 100000 in
set_option maxHeartbeats 2000000 in
theorem run_calls (m : Int) (C : Option Addr) (n cap : Nat) (cs : List Cl) (w : World) (hn : cs.length = n) (hm : n ≤ 40) (hr : RdC w C cs) (hf : ∀ c ∈ cs, c.fits) :
    Calls Try.prog 11 #[.int .i64 m, .slice C n cap] w (RunPost w (runs (fresh m) cs)) := by
  have HN := Lib.hid hn
  have HR := Lib.hid hr
  have HF := Lib.hid hf
  clear hn hr hf
  go_enter Try.func11, Try.ntmps11
  go_wp2_with fail
  have hrb := heap_alloc_new w (.cells #[.slice none 0 0, .slice none 0 0, .int .i64 0] 27)
  have hb1 := below1 w (.cells #[.slice none 0 0, .slice none 0 0, .int .i64 0] 27)
  generalize w.alloc (.cells #[.slice none 0 0, .slice none 0 0, .int .i64 0] 27) = w1 at *
  have hs1 : w.heap.size < w1.heap.size := (Array.getElem?_eq_some_iff.1 hrb).1
  refine (new_calls m w1).mono ?_
  rintro e w2 ⟨rfl, hl2, hb2⟩
  have hs2 := (Array.getElem?_eq_some_iff.1 hl2.1).1
  have HRB2 := Lib.hid ((hb2.block _ hs1).trans hrb)
  have HB2 := Lib.hid (hb1.trans (hb2.mono hb1.size))
  have HL2 := Lib.hid hl2
  clear hrb hb1 hl2 hb2
  generalize w1.heap.size = g at *
  go_wp2_with fail
  refine (rnew_calls m w2).mono ?_
  rintro e w3 ⟨v, rfl, hr3, hb3⟩
  have HR3 := Lib.hid hr3
  have HL3 := Lib.hid (HL2.out.below hb3)
  have HB3 := Lib.hid (HB2.out.trans (hb3.mono HB2.out.size))
  have HRB3 := Lib.hid ((hb3.block w.heap.size (by omega)).trans HRB2.out)
  obtain ⟨_, A, ca, B, cb, rfl, _, _⟩ := hr3
  have hs3 : g < w3.heap.size := by have := hb3.size; omega
  clear HRB2 HB2 HL2 hb3 hs2
  go_wp2_with fail
  have hmb := heap_alloc_new w3 (.cells #[.slice A (fresh m).m ca, .slice B (fresh m).m cb, .int .i64 (fresh m).c] 27)
  have hb4 := below1 w3 (.cells #[.slice A (fresh m).m ca, .slice B (fresh m).m cb, .int .i64 (fresh m).c] 27)
  generalize w3.alloc (.cells #[.slice A (fresh m).m ca, .slice B (fresh m).m cb, .int .i64 (fresh m).c] 27) = w4 at *
  have H4 : Hid (RunRel w g w3.heap.size (fresh m) w4) := ⟨A, ca, B, cb, HR3.out.below hb4, HL3.out.below hb4, HB3.out.trans (hb4.mono HB3.out.size), hmb, (hb4.block _ (by omega)).trans HRB3.out⟩
  clear HRB3 HB3 HL3 HR3 hmb hb4
  generalize w3.heap.size = M at *
  go_loopw [9, 10] (fun a i wr => ∃ k : Nat, k ≤ n ∧ i = .int .i64 k ∧ a = .bool true ∧ RunRel w g M (runs (fresh m) (cs.take k)) wr) (fun _ i _ => n - (intOf i).toNat)
  case atStart => exact ⟨0, Nat.zero_le _, rfl, rfl, H4.out⟩
  case round =>
    obtain ⟨k, hk, rfl, rfl, A', ca', B', cb', hR, hL, hb, hmb, hrb⟩ := hrel
    by_cases hlt : k < n
    · have hkl : k < cs.length := by have := HN.out; omega
      obtain ⟨b, off, rfl, hc⟩ := (HR.out.below hb).cells (by omega)
      obtain ⟨x0, x1, x2, x3⟩ := hc k hkl
      have i0 : (0 : Int) ≤ (k : Int) := by omega
      have i1 : (k : Int) < (n : Int) := by omega
      have HE := Lib.hid (runs_snoc (fresh m) cs k hkl)
      have hc1 := (runs_c (fresh m) (cs.take k)).1
      have hc2 := (runs_c (fresh m) (cs.take k)).2
      have hfr : (fresh m).c = 0 := rfl
      rw [hfr] at hc1 hc2
      have htl : (cs.take k).length ≤ 40 := by simp; omega
      have hfk := HF.out cs[k] (List.getElem_mem hkl)
      generalize runs (fresh m) (cs.take k) = L at *
      have HS := fun wx (hx : IsL wx g L) (hy : IsR wx (.agg #[.slice A' L.m ca', .slice B' L.m cb', .int .i64 L.c]) L) => Lib.hid (step_calls g _ L cs[k] wx hx hy hfk hc1 (by omega))
      have m0 : wr.cell? ⟨M, 0, none⟩ = some (.slice A' L.m ca') := (cell_of_row _ _ 0 _ _ _ hmb).trans rfl
      have m1 : wr.cell? ⟨M, 1, none⟩ = some (.slice B' L.m cb') := (cell_of_row _ _ 1 _ _ _ hmb).trans rfl
      have m2 : wr.cell? ⟨M, 2, none⟩ = some (.int .i64 L.c) := (cell_of_row _ _ 2 _ _ _ hmb).trans rfl
      have HRk := Lib.hid hR
      have HLk := Lib.hid hL
      have HB := Lib.hid hb
      have HMB := Lib.hid hmb
      have HRB := Lib.hid hrb
      clear hc hR hL hb hmb hrb hfr htl hfk
      have HV : Hid (cs[k].val = .agg #[vb cs[k].kind, .int .i64 cs[k].cl, .int .i64 cs[k].ro, .int .i64 cs[k].ti]) := rfl
      generalize cs[k] = c at *
      go_wp2_with fail
      go_region_with (go_at_call 26; refine (HS wr.drew HLk.out HRk.out).out.mono ?_; rintro e w5 ⟨v5, rfl, hl5, hr5, hc5⟩; have HR5 := Lib.hid hr5; have HL5 := Lib.hid hl5; have HC5 := Lib.hid (((Chg.refl [g] wr).drew).trans' hc5); obtain ⟨_, A5, ca5, B5, cb5, rfl, _, _⟩ := hr5; have n0 : w5.cell? ⟨M, 0, none⟩ = some (.slice A' L.m ca') := (HC5.out.cellAt HMB.out (by simp; omega)).trans rfl; have n1 : w5.cell? ⟨M, 1, none⟩ = some (.slice B' L.m cb') := (HC5.out.cellAt HMB.out (by simp; omega)).trans rfl; have n2 : w5.cell? ⟨M, 2, none⟩ = some (.int .i64 L.c) := (HC5.out.cellAt HMB.out (by simp; omega)).trans rfl; have f0 : w5.frozen? ⟨M, 0, none⟩ = false := HC5.out.frozenAt HMB.out (by simp; omega); have f1 : w5.frozen? ⟨M, 1, none⟩ = false := HC5.out.frozenAt HMB.out (by simp; omega); have f2 : w5.frozen? ⟨M, 2, none⟩ = false := HC5.out.frozenAt HMB.out (by simp; omega); clear hl5 hc5)
      all_goals
        have hm6 := heap_set3 (HC5.out.blk HMB.out (by simp; omega)) (.slice A5 (next L c).m ca5) (.slice B5 (next L c).m cb5) (.int .i64 (next L c).c)
        have hc6 := chg_set3 w5 M (.slice A5 (next L c).m ca5) (.slice B5 (next L c).m cb5) (.int .i64 (next L c).c)
        generalize ((w5.setCell ⟨M, 0, none⟩ (.slice A5 (next L c).m ca5)).setCell ⟨M, 1, none⟩ (.slice B5 (next L c).m cb5)).setCell ⟨M, 2, none⟩ (.int .i64 (next L c).c) = w6 at *
        have hbx : Below w.heap.size w w6 := (HB.out.trans (HC5.out.below HB.out.size (by simp; omega))).trans (hc6.below (Nat.le_trans HB.out.size HC5.out.size) (by simp; omega))
        have H6 : Hid (RunRel w g M (next L c) w6) := ⟨A5, ca5, B5, cb5, HR5.out.chg' hc6 HMB.out HC5.out (by simp; omega), ⟨hc6.blk HL5.out.1 (by simp; omega), HL5.out.2⟩, hbx, hm6, hc6.blk (HC5.out.blk HRB.out (by simp; omega)) (by simp; omega)⟩
        clear hm6 hc6 hbx n0 n1 n2 f0 f1 f2 m0 m1 m2 x0 x1 x2 x3
        go_wp2_with fail
        go_roundw
        case rel => exact ⟨k + 1, by omega, by go_num, rfl, by rw [HE.out]; exact H6.out⟩
        case measure => simp [intOf]; omega
    · have hkn : k = n := by omega
      have HT : Hid (runs (fresh m) cs = runs (fresh m) (cs.take k)) := by show _ = _; rw [List.take_of_length_le (by have := HN.out; omega)]
      clear hkn
      generalize runs (fresh m) (cs.take k) = L at *
      have m0 : wr.cell? ⟨M, 0, none⟩ = some (.slice A' L.m ca') := (cell_of_row _ _ 0 _ _ _ hmb).trans rfl
      have m1 : wr.cell? ⟨M, 1, none⟩ = some (.slice B' L.m cb') := (cell_of_row _ _ 1 _ _ _ hmb).trans rfl
      have m2 : wr.cell? ⟨M, 2, none⟩ = some (.int .i64 L.c) := (cell_of_row _ _ 2 _ _ _ hmb).trans rfl
      have n0 : wr.cell? ⟨w.heap.size, 0, none⟩ = some (.slice none 0 0) := (cell_of_row _ _ 0 _ _ _ hrb).trans rfl
      have n1 : wr.cell? ⟨w.heap.size, 1, none⟩ = some (.slice none 0 0) := (cell_of_row _ _ 1 _ _ _ hrb).trans rfl
      have n2 : wr.cell? ⟨w.heap.size, 2, none⟩ = some (.int .i64 0) := (cell_of_row _ _ 2 _ _ _ hrb).trans rfl
      have f0 : wr.frozen? ⟨w.heap.size, 0, none⟩ = false := frozen_of_row _ _ _ _ _ hrb
      have f1 : wr.frozen? ⟨w.heap.size, 1, none⟩ = false := frozen_of_row _ _ _ _ _ hrb
      have f2 : wr.frozen? ⟨w.heap.size, 2, none⟩ = false := frozen_of_row _ _ _ _ _ hrb
      have HRk := Lib.hid hR
      have HLk := Lib.hid hL
      have HB := Lib.hid hb
      have HMB := Lib.hid hmb
      have HRB := Lib.hid hrb
      clear hR hL hb hmb hrb
      go_wp2_with fail
      go_region
      have hr6 := heap_set3 HRB.out (.slice A' L.m ca') (.slice B' L.m cb') (.int .i64 L.c)
      have hc6 := chg_set3 wr w.heap.size (.slice A' L.m ca') (.slice B' L.m cb') (.int .i64 L.c)
      generalize ((wr.setCell ⟨w.heap.size, 0, none⟩ (.slice A' L.m ca')).setCell ⟨w.heap.size, 1, none⟩ (.slice B' L.m cb')).setCell ⟨w.heap.size, 2, none⟩ (.int .i64 L.c) = w6 at *
      have HR6 := Lib.hid hr6
      have HR7 : Hid (IsR w6 (.agg #[.slice A' L.m ca', .slice B' L.m cb', .int .i64 L.c]) L) := HRk.out.chg' hc6 HRB.out (Chg.refl [g] wr) (by simp; omega)
      have HL7 : Hid (IsL w6 g L) := ⟨hc6.blk HLk.out.1 (by simp; omega), HLk.out.2⟩
      have HB7 : Hid (Below w.heap.size w w6) := HB.out.trans (hc6.below HB.out.size (by simp))
      clear hr6 hc6 m0 m1 m2 n0 n1 n2 f0 f1 f2
      go_wp2_with fail
      refine bodyPost_ret (results_tmp_cell_tmp rfl _ _ w.heap.size 27 #[.slice A' L.m ca', .slice B' L.m cb', .int .i64 L.c] (0, 0) _ rfl HR6.out Try.underlying27 rfl size_leases) rfl ?_
      rw [HT.out]
      exact ⟨g, _, rfl, HL7.out, HR7.out, HB7.out.drew, by omega⟩
end Ls
end Go.Proofs.Ytmdconcbelmdpaa
