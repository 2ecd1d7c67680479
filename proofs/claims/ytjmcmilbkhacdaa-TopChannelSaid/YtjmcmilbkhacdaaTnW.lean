/- The walk of TopChannel. -/
import Derived.Test.YtjmcmilbkhacdaaTnV
import Derived.Deep.DeepCutAuto
import Derived.Lib.SlBytesConst
namespace Go.Proofs.Ytjmcmilbkhacdaa
open Go.RowKit Go.Shelf
open Wi Wr
namespace Tc
/-- the pair stands, after j steps -/
def Run (B x j : Nat) (w w' : World) : Prop := ∃ M, IsP B w' M ∧ Inv M ∧ M.x = x ∧ M.S ≤ 1 + j ∧ M.n + mu M.ps ≤ 202 * (2 + j) ∧ Below B w w' ∧ B ≤ w'.heap.size
theorem Run.below {B x j : Nat} {w w1 w' : World} (h : Run B x j w w1) (hb : Below w1.heap.size w1 w') : Run B x j w w' := by
  obtain ⟨M, h1, h2, h3, h4, h5, h6, h7⟩ := h
  exact ⟨M, h1.below h7 hb, h2, h3, h4, h5, h6.trans (hb.mono h7), Nat.le_trans h7 hb.size⟩
theorem Run.step {B x j : Nat} {w w1 : World} (h : Run B x j w w1) (hj : j ≤ 60) (K : Nat) (i : Int) (d : List UInt8) (a : Option Addr) (ca : Nat) (hd : Pl B w1 a d ca) (hdl : d.length ≤ 40) : Calls Try.prog 6 #[.pointer (some ⟨x, 0, none⟩), .agg #[.int .u8 (K : Int), .int .i64 i, .slice a d.length ca]] w1 fun e w' => e = .returned (.bool true) ∧ Run B x (j + 1) w w' := by
  obtain ⟨M, h1, h2, rfl, h4, h5, h6, h7⟩ := h
  refine (step_calls B M K i d a ca w1 h1 h2 h7 (by omega) (by omega) hd hdl).mono ?_
  rintro e w' ⟨rfl, M', g1, g2, g3, g4, g5, _, _, _, g6⟩
  exact ⟨rfl, M', g1, g2, g3, by omega, by omega, h6.trans g6, Nat.le_trans h7 g6.size⟩
theorem Run.pre {B x j : Nat} {w w1 : World} (h : Run B x j w w1) (hj : j ≤ 60) : Calls Try.prog 7 #[.pointer (some ⟨x, 0, none⟩)] w1 fun e w' => e = .returned (.bool true) ∧ Run B x j w w' := by
  obtain ⟨M, h1, h2, rfl, h4, h5, h6, h7⟩ := h
  refine (prefix_calls B M w1 h1 h2 h7 (by omega)).mono ?_
  rintro e w' ⟨rfl, hb⟩
  exact ⟨rfl, Run.below ⟨M, h1, h2, rfl, h4, h5, h6, h7⟩ hb⟩
/-- nothing is lost any more -/
def RunF (B x k : Nat) (w w' : World) : Prop := ∃ M, IsP B w' M ∧ Inv M ∧ M.x = x ∧ M.S ≤ 100 ∧ M.n + mu M.ps ≤ 50000 ∧ Below B w w' ∧ B ≤ w'.heap.size ∧ FF M ∧ mu M.ps = k
theorem Run.last {B x j : Nat} {w w1 : World} (h : Run B x j w w1) (hj : j ≤ 60) (i : Int) : Calls Try.prog 6 #[.pointer (some ⟨x, 0, none⟩), .agg #[.int .u8 6, .int .i64 i, .slice none 0 0]] w1 fun e w' => e = .returned (.bool true) ∧ ∃ k, RunF B x k w w' := by
  obtain ⟨M, h1, h2, rfl, h4, h5, h6, h7⟩ := h
  refine (step_calls B M 6 i [] none 0 w1 h1 h2 h7 (by omega) (by omega) ⟨RB.nil, Nat.le_refl _, by simp only [maxLen]; omega, by simp⟩ (by simp)).mono ?_
  rintro e w' ⟨rfl, M', g1, g2, g3, g4, g5, _, _, g7, g6⟩
  exact ⟨rfl, _, M', g1, g2, g3, by omega, by omega, h6.trans g6, Nat.le_trans h7 g6.size, g7 rfl, rfl⟩
theorem exists_min (p : Nat → Prop) (h : ∃ k, p k) : ∃ k, p k ∧ ∀ j, p j → k ≤ j := by
  obtain ⟨k, hk⟩ := h
  induction k using Nat.strongRecOn with
  | _ k ih =>
    by_cases hc : ∃ j, j < k ∧ p j
    · obtain ⟨j, h1, h2⟩ := hc
      exact ih j h1 h2
    · exact ⟨k, hk, fun j hj => by
        by_cases h1 : j < k
        · exact absurd ⟨j, h1, hj⟩ hc
        · omega⟩
open Classical in
/-- how much is in flight -/
noncomputable def muW (B x : Nat) (w w' : World) : Nat := if h : ∃ k, RunF B x k w w' then (exists_min (fun k => RunF B x k w w') h).choose else 0
theorem muW_spec {B x k : Nat} {w w' : World} (h : RunF B x k w w') : RunF B x (muW B x w w') w w' ∧ muW B x w w' ≤ k := by
  have hx : ∃ k, RunF B x k w w' := ⟨k, h⟩
  have h1 := (exists_min (fun k => RunF B x k w w') hx).choose_spec
  have h2 : muW B x w w' = (exists_min (fun k => RunF B x k w w') hx).choose := by unfold muW; rw [dif_pos hx]
  rw [h2]
  exact ⟨h1.1, h1.2 k h⟩
theorem RunF.dlv {B x k : Nat} {w w1 : World} (h : RunF B x k w w1) (hk : 0 < k) : Calls Try.prog 9 #[.pointer (some ⟨x, 0, none⟩), .int .i64 0] w1 fun e w' => e = .returned (.bool true) ∧ ∃ k', k' < k ∧ RunF B x k' w w' := by
  obtain ⟨M, h1, h2, rfl, h4, h5, h6, h7, h8, rfl⟩ := h
  refine (dlv_calls B M 0 w1 h1 h2 h7 (by omega) h5).mono ?_
  rintro e w' ⟨rfl, M', g1, g2, g3, g4, g5, g6, g7, g8⟩
  have hne : M.ps ≠ [] := fun e => by rw [e] at hk; simp [mu] at hk
  exact ⟨rfl, _, g6 hne, M', g1, g2, g3, by omega, by omega, h6.trans g8, Nat.le_trans h7 g8.size, g7 h8, rfl⟩
theorem RunF.pre {B x k : Nat} {w w1 : World} (h : RunF B x k w w1) : Calls Try.prog 7 #[.pointer (some ⟨x, 0, none⟩)] w1 fun e w' => e = .returned (.bool true) ∧ RunF B x k w w' := by
  obtain ⟨M, h1, h2, rfl, h4, h5, h6, h7, h8, h9⟩ := h
  refine (prefix_calls B M w1 h1 h2 h7 (by omega)).mono ?_
  rintro e w' ⟨rfl, hb⟩
  exact ⟨rfl, M, h1.below h7 hb, h2, rfl, h4, h5, h6.trans (hb.mono h7), Nat.le_trans h7 hb.size, h8, h9⟩
theorem RunF.len {B x k : Nat} {w w1 : World} (h : RunF B x k w w1) : ∃ l gn : Nat, (0 < l ↔ 0 < k) ∧ w1.cell? ⟨x, 0, none⟩ = some (.pointer (some ⟨gn, 0, none⟩)) ∧ Calls Try.prog 8 #[.pointer (some ⟨gn, 0, none⟩)] w1 fun e w' => e = .returned (.int .i64 (l : Int)) ∧ w1 = w' := by
  obtain ⟨M, h1, h2, rfl, h4, h5, h6, h7, h8, rfl⟩ := h
  refine ⟨M.ps.length, M.gn, ?_, (cell_of_row _ _ 0 _ _ _ h1.hd).trans rfl, netLen_calls h1.net⟩
  have := mu_len M.ps
  refine ⟨fun h => by omega, fun h => ?_⟩
  by_cases e : M.ps = []
  · rw [e] at h; simp [mu] at h
  · exact List.length_pos_iff.2 e
/-- the end, in memory -/
structure Fin (x S ga gb : Nat) (w : World) : Prop where
  c1 : w.cell? ⟨x, 1, none⟩ = some (.pointer (some ⟨ga, 0, none⟩))
  c2 : w.cell? ⟨x, 2, none⟩ = some (.pointer (some ⟨gb, 0, none⟩))
  c3 : ∃ A c, w.cell? ⟨x, 3, none⟩ = some (.slice A S c)
  c4 : ∃ A c, w.cell? ⟨x, 4, none⟩ = some (.slice A S c)
  ha : ∃ v0 v2 A c v4, w.heap[ga]? = some (Obj.cells #[v0, .int .i64 (S : Int), v2, .slice A 0 c, v4] 45 (0, 0))
  hb : ∃ v0 v1 v3 v4, w.heap[gb]? = some (Obj.cells #[v0, v1, .int .i64 (S : Int), v3, v4] 45 (0, 0))
theorem RunF.fin {B x : Nat} {w w1 : World} (h : RunF B x 0 w w1) : ∃ S ga gb, Fin x S ga gb w1 := by
  obtain ⟨M, h1, h2, rfl, h4, h5, h6, h7, h8, h9⟩ := h
  have hp : M.ps = [] := List.eq_nil_of_length_eq_zero (by have := mu_len M.ps; omega)
  obtain ⟨e1, e2, e3, e4⟩ := h8.done h2 hp
  have g1 : M.na = 0 := by rw [← h1.snd.br.hn, e3]; rfl
  have g2 : M.ns = M.S := by rw [← h1.st.hn, h2.hS]
  have g3 : M.ng = M.S := by rw [← h1.gt.hn, e4]
  have k1 := h1.hd
  have k2 := h1.snd.hd
  have k3 := h1.rcv.hd
  rw [g2, g3] at k1
  rw [g1, e2] at k2
  rw [e1] at k3
  exact ⟨M.S, M.ga, M.gb, (cell_of_row _ _ 1 _ _ _ k1).trans rfl, (cell_of_row _ _ 2 _ _ _ k1).trans rfl, ⟨_, _, (cell_of_row _ _ 3 _ _ _ k1).trans rfl⟩, ⟨_, _, (cell_of_row _ _ 4 _ _ _ k1).trans rfl⟩, ⟨_, _, _, _, _, k2⟩, ⟨_, _, _, _, k3⟩⟩
set_option maxRecDepth 100000 in
set_option maxHeartbeats 4000000 in
theorem top_calls (A : Option Addr) (n c : Nat) (ms : List Wm) (w : World) (hn : ms.length = n) (hr : RdW w A ms) : Calls Try.prog 3 #[.slice A n c] w fun e w' => e = .returned (.bool true) ∧ Below w.heap.size w w' := by
  have HN := Lib.hid hn
  have HR := Lib.hid hr
  have HNW := Lib.hid (netNew_calls w)
  clear hn hr
  have kc := fun (w : World) (C : Array Value) (n c : Nat) => Lib.run_convert_bytes_const (P := Try.prog) w 32 5 C n c Try.underlying32 Try.underlying5
  go_enter Try.func3, Try.ntmps3
  go_wp2_with fail
  refine HNW.out.mono ?_
  rintro e w1 ⟨rfl, hn1, hb1⟩
  have HN1 := Lib.hid hn1
  have HB1 := Lib.hid hb1
  clear hn1 hb1 HNW
  have HC1 := Lib.hid (chNew_calls w.heap.size w1 HB1.out.size)
  go_wp2_with fail
  refine HC1.out.mono ?_
  rintro e w2 ⟨ga, qa, rfl, ha, hga, _, hb2⟩
  have HA := Lib.hid ha
  have HGA := Lib.hid hga
  have HB2 := Lib.hid hb2
  clear ha hga hb2 HC1
  have HC2 := Lib.hid (chNew_calls w.heap.size w2 (Nat.le_trans HB1.out.size HB2.out.size))
  go_wp2_with fail
  refine HC2.out.mono ?_
  rintro e w3 ⟨gb, q, rfl, hc, hgb, hq, hb3⟩
  have HCB := Lib.hid hc
  have HGB := Lib.hid hgb
  have HQ := Lib.hid hq
  have HB3 := Lib.hid hb3
  clear hc hgb hq hb3 HC2
  have HB4 := Lib.hid (below1 w3 (.cells #[.pointer (some ⟨w.heap.size, 0, none⟩), .pointer (some ⟨ga, 0, none⟩), .pointer (some ⟨gb, 0, none⟩), .slice none 0 0, .slice none 0 0] 30))
  have HK4 := Lib.hid (heap_alloc_new w3 (.cells #[.pointer (some ⟨w.heap.size, 0, none⟩), .pointer (some ⟨ga, 0, none⟩), .pointer (some ⟨gb, 0, none⟩), .slice none 0 0, .slice none 0 0] 30))
  go_upto_region 2 with (fail)
  have HP0 := Lib.hid (M0.isP (qa := qa) (Nat.le_refl _) HN1.out HB1.out HA.out HGA.out HB2.out HCB.out HGB.out HQ.out HB3.out rfl HK4.out HB4.out)
  have HBB : Hid (Below w.heap.size w (w3.alloc (.cells #[.pointer (some ⟨w.heap.size, 0, none⟩), .pointer (some ⟨ga, 0, none⟩), .pointer (some ⟨gb, 0, none⟩), .slice none 0 0, .slice none 0 0] 30))) := Lib.hid (by
    have s1 := HB1.out.size
    have s2 := HB2.out.size
    have s3 := HB3.out.size
    exact ((HB1.out.trans (HB2.out.mono s1)).trans (HB3.out.mono (by omega))).trans (HB4.out.mono (by omega)))
  clear HN1 HB1 HA HGA HB2 HCB HGB HQ HB3 HB4
  generalize w3.alloc _ = w4 at *
  generalize w3.heap.size = x at *
  have x0 : w4.cell? ⟨x, 0, none⟩ = some (.pointer (some ⟨w.heap.size, 0, none⟩)) := (cell_of_row _ _ 0 _ _ _ HK4.out).trans rfl
  have x1 : w4.cell? ⟨x, 1, none⟩ = some (.pointer (some ⟨ga, 0, none⟩)) := (cell_of_row _ _ 1 _ _ _ HK4.out).trans rfl
  have x2 : w4.cell? ⟨x, 2, none⟩ = some (.pointer (some ⟨gb, 0, none⟩)) := (cell_of_row _ _ 2 _ _ _ HK4.out).trans rfl
  have hB4 : w.heap.size ≤ w4.heap.size := HBB.out.size
  have hb5 := below1 w4 (.cells #[.int .u8 120] 5 (1, 2))
  have HB5 := Lib.hid hb5
  have HST1 : Hid (Calls Try.prog 6 #[.pointer (some ⟨x, 0, none⟩), .agg #[.int .u8 0, .int .i64 0, .slice (some ⟨w4.heap.size, 0, none⟩) 1 1]] (w4.alloc (.cells #[.int .u8 120] 5 (1, 2))) (StpP w.heap.size (M0 x w.heap.size ga qa gb q) 0 (w4.alloc (.cells #[.int .u8 120] 5 (1, 2))))) := Lib.hid (by
    have hp : Pl w.heap.size (w4.alloc (.cells #[.int .u8 120] 5 (1, 2))) (some ⟨w4.heap.size, 0, none⟩) [120] 1 := ⟨Rd.new w4 [.int .u8 120] 5 (1, 2), Nat.le_refl _, by simp only [maxLen]; omega, fun _ b off e => by cases e; exact .inr ⟨_, _, heap_alloc_new _ _⟩⟩
    exact step_calls w.heap.size (M0 x w.heap.size ga qa gb q) 0 0 [120] (some ⟨w4.heap.size, 0, none⟩) 1 _ (HP0.out.below hB4 hb5) (M0.inv _ _ _ _ _ _) (Nat.le_trans hB4 hb5.size) (Nat.zero_le _) (Nat.zero_le _) hp (by decide))
  clear hb5
  go_wp2_with fail
  refine HST1.out.mono ?_
  rintro e w6 ⟨rfl, M1, h1, hv1, hx1, hS1, hW1, h01, _, _, hb6⟩
  obtain ⟨hff1, hmu1, hs1⟩ := h01 rfl (M0.ff _ _ _ _ _ _)
  have hx1 : M1.x = x := hx1
  have hmu1 : mu M1.ps = 2 := hmu1
  have hs1 : M1.S = 1 := hs1
  have hW1 : M1.n + mu M1.ps ≤ 202 := hW1
  have HB6 := Lib.hid (HBB.out.trans ((HB5.out.mono hB4).trans hb6))
  have hB6 : w.heap.size ≤ w6.heap.size := HB6.out.size
  have HST2 : Hid (Calls Try.prog 6 #[.pointer (some ⟨x, 0, none⟩), .agg #[.int .u8 2, .int .i64 0, .slice none 0 0]] w6 (StpP w.heap.size M1 2 w6)) := Lib.hid (by
    rw [← hx1]
    exact step_calls w.heap.size M1 2 0 [] none 0 w6 h1 hv1 hB6 (by omega) (by omega) ⟨RB.nil, Nat.le_refl _, by simp only [maxLen]; omega, by simp⟩ (by simp))
  have H2I : Hid (∀ M2 : Ms, Inv M2 → (FF M1 → FF M2 ∧ M2.S = M1.S ∧ (M1.ps ≠ [] → mu M2.ps < mu M1.ps)) → M2.gl.length = 1 ∧ M2.S = 1) := Lib.hid (fun M2 hv2 h2 => by
    obtain ⟨g1, g2, g3⟩ := h2 hff1
    have g4 := g3 (fun e => by rw [e] at hmu1; simp [mu] at hmu1)
    have g5 := g1.arr hv2 (by omega)
    have g6 := hv2.gln
    omega)
  clear h1 hv1 hS1 h01 hb6 hff1 hmu1 hs1 HST1 x0 x1 x2 HK4 HP0 HB5 HBB
  go_wp2_with fail
  refine HST2.out.mono ?_
  rintro e w7 ⟨rfl, M2, h2, hv2, hx2, hS2, hW2, _, h22, _, hb7⟩
  have hx2 : M2.x = x := hx2.trans hx1
  obtain ⟨hg2, hs2⟩ := H2I.out M2 hv2 (h22 rfl)
  have hB7 : w.heap.size ≤ w7.heap.size := (HB6.out.trans hb7).size
  have HRUN : Hid (Run w.heap.size x 0 w w7) := Lib.hid ⟨M2, h2, hv2, hx2, by omega, by omega, HB6.out.trans hb7, hB7⟩
  have hng : M2.ng = 1 := by rw [← h2.gt.hn]; exact hg2
  have x4 : w7.cell? ⟨x, 4, none⟩ = some (.slice M2.Ag 1 M2.cg) := by
    have h3 := h2.hd
    rw [hx2, hng] at h3
    exact (cell_of_row _ _ 4 _ _ _ h3).trans rfl
  clear h2 hv2 hx2 hS2 hW2 h22 hb7 hg2 hs2 hng hx1 hW1 H2I HST2 HB6
  have HBW : Hid (Below w.heap.size w w7) := Lib.hid (by obtain ⟨_, _, _, _, _, _, h, _⟩ := HRUN.out; exact h)
  go_upto_region 4 with (fail)
  clear x4 kc
  by_cases hn40 : 40 < n
  · have d1 : decide ((40 : Int) < (n : Int)) = true := by rw [decide_eq_true_eq]; omega
    have d1' : decide (40 < n) = true := by rw [decide_eq_true_eq]; omega
    go_wp2_with fail
    go_ret
    exact ⟨rfl, HBW.out⟩
  · have d1 : decide ((40 : Int) < (n : Int)) = false := by rw [decide_eq_false_iff_not]; omega
    have d1' : decide (40 < n) = false := by rw [decide_eq_false_iff_not]; omega
    have d1'' : ¬ 40 < n := hn40
    go_upto_region 6 with (fail)
    clear d1 d1' d1''
    go_wp2_with fail
    go_loopw [59] (fun i wr => ∃ j : Nat, j ≤ n ∧ i = .int .i64 (j : Int) ∧ Below w7.heap.size w7 wr ∧ ∀ t (h : t < ms.length), t < j → ms[t].d.length ≤ 40) (fun i _ => n - (intOf i).toNat)
    case atStart => exact ⟨0, Nat.zero_le _, rfl, Below.refl _ _, fun t _ ht => by omega⟩
    case round =>
      obtain ⟨j, hj, rfl, hb, hd⟩ := hrel
      have HB := Lib.hid hb
      have HD := Lib.hid hd
      have HBWr := Lib.hid (HBW.out.trans (hb.mono HBW.out.size))
      clear hb hd
      by_cases hlt : j < n
      · have d1 : decide (j < n) = true := by simpa using hlt
        have hjl : j < ms.length := by have := HN.out; omega
        obtain ⟨b, off, hA, c0, c1, c2⟩ := HR.out.cells HBWr.out j hjl
        have i0 : (0 : Int) ≤ (j : Int) := by omega
        have i1 : (j : Int) < (n : Int) := by omega
        have HMD : Hid (ms[j].d.length ≤ 40 → ∀ t (h : t < ms.length), t < j + 1 → ms[t].d.length ≤ 40) := Lib.hid (fun h t ht ht2 => by
          by_cases e : t = j
          · subst e; exact h
          · exact HD.out t ht (by omega))
        unfold vb at c0
        generalize ms[j].kd.toNat = kd at *
        generalize ms[j].i = iv at *
        generalize ms[j].a = da at *
        generalize ms[j].c = dc at *
        generalize ms[j].d.length = dl at *
        rw [hA]
        have HA1 := Lib.hid (below1 wr (.cells #[.int .u8 (kd : Int), .int .i64 iv, .slice da dl dc] 34))
        by_cases hd40 : dl ≤ 40
        · have d2 : decide ((40 : Int) < (dl : Int)) = false := by rw [decide_eq_false_iff_not]; omega
          have d2' : decide (40 < dl) = false := by rw [decide_eq_false_iff_not]; omega
          have d2'' : ¬ 40 < dl := by omega
          have HDN := Lib.hid (HMD.out hd40)
          have HBN := Lib.hid (HB.out.trans (HA1.out.mono HB.out.size))
          have hj1 : IntKind.i64.wrap ((j : Int) + 1) = ((j + 1 : Nat) : Int) := by rw [IntWalk.i64_in _ (by omega)]; omega
          have HJL : Hid (j + 1 ≤ n) := Lib.hid (by omega)
          obtain ⟨j1, HJJ⟩ : ∃ y, Hid (j + 1 = y) := ⟨_, Lib.hid rfl⟩
          rw [HJJ.out] at hj1 HDN HJL
          clear hd40 HMD HA1 HB
          go_wp2_with fail
          have HJX := HJJ.out
          clear hj1
          exact ⟨⟨j1, HJL.out, rfl, HBN.out, HDN.out⟩, by simp only [intOf, Int.toNat_natCast]; omega⟩
        · have d2 : decide ((40 : Int) < (dl : Int)) = true := by rw [decide_eq_true_eq]; omega
          have d2' : decide (40 < dl) = true := by rw [decide_eq_true_eq]; omega
          have HF := Lib.hid (HBWr.out.trans (HA1.out.mono HBWr.out.size))
          clear hd40 HMD HA1
          go_wp2_with fail
          go_ret
          exact ⟨rfl, HF.out⟩
      · obtain rfl : j = n := by omega
        have d1 : decide (j < j) = false := by simp
        have HRB := Lib.hid (HRUN.out.below HB.out)
        clear hlt HRUN HBW HB
        go_upto_region 12 with (fail)
        clear d1
        generalize wr = v0 at *
        go_wp2_with fail
        go_loopw [70] (fun i wr => ∃ t : Nat, t ≤ j ∧ i = .int .i64 (t : Int) ∧ Run w.heap.size x t w wr) (fun i _ => j - (intOf i).toNat)
        case atStart => exact ⟨0, Nat.zero_le _, rfl, HRB.out⟩
        case round =>
          obtain ⟨t, ht, rfl, hrun⟩ := hrel
          have HRN := Lib.hid hrun
          have HBV : Hid (Below w.heap.size w wr) := Lib.hid (by obtain ⟨_, _, _, _, _, _, h, _⟩ := hrun; exact h)
          clear hrun
          by_cases hlt : t < j
          · have d1 : decide (t < j) = true := by simpa using hlt
            have htl : t < ms.length := by have := HN.out; omega
            obtain ⟨b, off, hA, c0, c1, c2⟩ := HR.out.cells HBV.out t htl
            have i0 : (0 : Int) ≤ (t : Int) := by omega
            have i1 : (t : Int) < (j : Int) := by omega
            have hdl := HD.out t htl hlt
            have HOK := Lib.hid (HR.out.ok ms[t] (List.getElem_mem htl))
            have HA1 := Lib.hid (below1 wr (.cells #[vb ms[t].kd, .int .i64 ms[t].i, .slice ms[t].a ms[t].d.length ms[t].c] 34))
            have HST := Lib.hid ((HRN.out.below HA1.out).step (by omega) ms[t].kd.toNat ms[t].i ms[t].d ms[t].a ms[t].c (HOK.out.pl (HBV.out.trans (HA1.out.mono HBV.out.size))) hdl)
            unfold vb at c0 HST
            have HJL : Hid (t + 1 ≤ j) := Lib.hid (by omega)
            have HJ60 : Hid (t + 1 ≤ 60) := Lib.hid (by omega)
            have hj1 : IntKind.i64.wrap ((t : Int) + 1) = ((t + 1 : Nat) : Int) := by rw [IntWalk.i64_in _ (by omega)]; omega
            obtain ⟨t1, HTT⟩ : ∃ y, Hid (t + 1 = y) := ⟨_, Lib.hid rfl⟩
            rw [HTT.out] at hj1 HST HJL HJ60
            clear HOK HA1 hdl
            generalize ms[t].kd.toNat = kd at *
            generalize ms[t].i = iv at *
            generalize ms[t].a = da at *
            generalize ms[t].c = dc at *
            generalize ms[t].d.length = dl at *
            rw [hA]
            go_wp2_with fail
            (with_reducible refine HST.out.mono ?_)
            rintro e w8 ⟨rfl, hr8⟩
            have HR8 := Lib.hid hr8
            have HPX := Lib.hid (hr8.pre HJ60.out)
            clear hr8 HST c0 c1 c2 d1
            go_wp2_with fail
            (with_reducible refine HPX.out.mono ?_)
            rintro e w9 ⟨rfl, hr9⟩
            have HR9 := Lib.hid hr9
            clear hr9 HPX HR8
            go_wp2_with fail
            have HJX := HTT.out
            clear hj1
            exact ⟨⟨t1, HJL.out, rfl, HR9.out⟩, by simp only [intOf, Int.toNat_natCast]; omega⟩
          · obtain rfl : t = j := by omega
            have d1 : decide (t < t) = false := by simp
            have HLS := Lib.hid (HRN.out.last (by omega) 0)
            clear hlt HRB HBV
            go_wp2_with fail
            (with_reducible refine HLS.out.mono ?_)
            rintro e w8 ⟨rfl, k0, hk0⟩
            have HK0 := Lib.hid hk0
            clear hk0 HLS d1
            go_wp2_with fail
            go_loopw [92] (fun _ wr => ∃ k, RunF w.heap.size x k w wr) (fun _ wr => muW w.heap.size x w wr)
            case atStart => exact ⟨_, HK0.out⟩
            case round =>
              obtain ⟨k1, hk1⟩ := hrel
              obtain ⟨g1, _⟩ := muW_spec hk1
              obtain ⟨κ, HKA⟩ : ∃ y, Hid (muW w.heap.size x w wr = y) := ⟨_, Lib.hid rfl⟩
              rw [HKA.out] at g1
              have HG := Lib.hid g1
              obtain ⟨l, gn, hl, cx0, hlen⟩ := g1.len
              have HLE := Lib.hid hlen
              have HLL := Lib.hid hl
              clear g1 hk1 hl hlen
              by_cases hk : 0 < κ
              · have d1 : decide (0 < l) = true := by rw [decide_eq_true_eq]; exact HLL.out.2 hk
                have d1' : decide ((0 : Int) < (l : Int)) = true := by rw [decide_eq_true_eq]; have := HLL.out.2 hk; omega
                have HDV := Lib.hid (HG.out.dlv hk)
                go_wp2_with fail
                (with_reducible refine HLE.out.mono ?_)
                rintro e w9 ⟨rfl, rfl⟩
                go_wp2_with fail
                (with_reducible refine HDV.out.mono ?_)
                rintro e w9 ⟨rfl, k2, hk2, hr2⟩
                have HK2 := Lib.hid hk2
                have HPX := Lib.hid hr2.pre
                clear hk2 hr2 HDV HLE cx0 d1 d1'
                go_wp2_with fail
                (with_reducible refine HPX.out.mono ?_)
                rintro e w10 ⟨rfl, hr3⟩
                have HR3 := Lib.hid hr3
                clear hr3 HPX
                go_wp2_with fail
                exact ⟨⟨_, HR3.out⟩, by have := (muW_spec HR3.out).2; have := HK2.out; have := HKA.out; omega⟩
              · have hl0 : ¬ 0 < l := fun h => hk (HLL.out.1 h)
                have d1 : decide (0 < l) = false := by rw [decide_eq_false_iff_not]; exact hl0
                have d1' : decide ((0 : Int) < (l : Int)) = false := by rw [decide_eq_false_iff_not]; omega
                obtain rfl : κ = 0 := by omega
                have HF := Lib.hid HG.out.fin
                have HBX : Hid (Below w.heap.size w wr) := Lib.hid (by obtain ⟨_, _, _, _, _, _, h, _⟩ := HG.out; exact h)
                go_wp2_with fail
                (with_reducible refine HLE.out.mono ?_)
                rintro e w9 ⟨rfl, rfl⟩
                clear HLE cx0
                go_upto_region 22 with (fail)
                obtain ⟨S, gA, gB, f1, f2, ⟨A3, k3, f3⟩, ⟨A4, k4, f4⟩, ⟨va0, va2, aA, aC, va4, hga⟩, ⟨vb0, vb1, vb3, vb4, hgb⟩⟩ := HF.out
                have HAK : Hid (∀ z, Calls Try.prog 10 #[.pointer (some ⟨gA, 0, none⟩)] (wr.drewN z) fun e w' => e = .returned (.int .i64 (S : Int)) ∧ w' = wr.drewN z) := Lib.hid (fun z => (acked_calls gA (S : Int) va0 va2 (.slice aA 0 aC) va4 (wr.drewN z) hga).mono (fun e w' h => ⟨h.1, h.2.symm⟩))
                have HUN : Hid (∀ z, Calls Try.prog 11 #[.pointer (some ⟨gA, 0, none⟩)] (wr.drewN z) fun e w' => e = .returned (.slice none 0 0) ∧ w' = wr.drewN z) := Lib.hid (fun z => (unacked_calls gA va0 (.int .i64 (S : Int)) va2 va4 aA aC (wr.drewN z) hga).mono (fun e w' h => ⟨h.1, h.2.symm⟩))
                have HRC : Hid (∀ z, Calls Try.prog 12 #[.pointer (some ⟨gB, 0, none⟩)] (wr.drewN z) fun e w' => e = .returned (.int .i64 (S : Int)) ∧ w' = wr.drewN z) := Lib.hid (fun z => (received_calls gB (S : Int) vb0 vb1 vb3 vb4 (wr.drewN z) hgb).mono (fun e w' h => ⟨h.1, h.2.symm⟩))
                have HBZ : Hid (∀ z, Below w.heap.size w (wr.drewN z)) := Lib.hid (fun z => blw_drewN HBX.out z)
                have hss : ((S : Int) == (S : Int)) = true := by simp
                clear hga hgb d1 d1'
                go_quiet (first | (go_at_call 10; exact Calls.quiet_of_same (HAK.out _)) | (go_at_call 11; exact Calls.quiet_of_same (HUN.out _)) | (go_at_call 12; exact Calls.quiet_of_same (HRC.out _)))
                go_wp2_with fail
                go_ret
                exact ⟨rfl, HBZ.out _⟩
end Tc
end Go.Proofs.Ytjmcmilbkhacdaa
