/- The walks of refmeshref19: Apply, Contents, Read. -/
import Derived.Test.YtoallpinpeolfaaDkR
namespace Go.Proofs.Ytoallpinpeolfaa
open Go.RowKit
namespace Dk

set_option maxRecDepth 100000 in
set_option maxHeartbeats 2000000 in
theorem rapply_calls (n : Nat) (A : Option Addr) (ca : Nat) (l : List UInt8) (m : Pm) (c : Nat) (w : World) (hr : RB w A l) (hl : l.length = 64 * n) (hn : n ≤ 65536) (hok : m.q.ok n) (hm : RB w m.a m.q.d) (hc : c ≤ 65536) :
    Calls Try.prog 46 #[.slice A (64 * n) ca, .agg #[.int .i64 (m.q.s : Int), .slice m.a m.q.d.length m.c], .int .i64 (c : Int)] w (NewL w (ap l m.q c)) := by
  have HLL := Lib.hid hl
  have HR := Lib.hid hr
  have HM := Lib.hid hm
  obtain ⟨ho1, ho2⟩ := hok
  obtain ⟨x, HX⟩ : ∃ x, Hid (x = m.q.d.take (64 * c)) := ⟨_, rfl⟩
  have HXG : Hid (∀ j (hj : j < x.length), m.q.d[j]? = some x[j]) := by
    intro j hj
    have h1 : x[j]? = some x[j] := List.getElem?_eq_getElem hj
    have h2 : j < 64 * c := by have := hj; rw [HX.out, List.length_take] at this; omega
    have h3 : x[j]? = m.q.d[j]? := by rw [HX.out, List.getElem?_take, if_pos h2]
    rw [← h3]; exact h1
  have hxl : x.length = min (64 * c) m.q.d.length := by rw [HX.out, List.length_take]
  have HAP : Hid (ap l m.q c = splice l (64 * m.q.s) x) := by show _ = _; rw [HX.out]; rfl
  obtain ⟨T, HT⟩ : ∃ T, Hid (x.length = T) := ⟨_, rfl⟩
  rw [HT.out] at hxl
  obtain ⟨so, hso⟩ : ∃ so : Nat, so = 64 * m.q.s := ⟨_, rfl⟩
  rw [← hso] at HAP
  obtain ⟨N, HNN⟩ : ∃ N, Hid (64 * n = N) := ⟨_, rfl⟩
  rw [HNN.out] at HLL ⊢
  have hN9 : N ≤ 4194304 := by have := HNN.out; omega
  have hsT : so + T ≤ N := by have := HNN.out; omega
  have HSL : Hid (∀ k, k ≤ T → (splice l so (x.take k)).length = N) := by
    intro k hk
    have : (x.take k).length = k := by rw [List.length_take, HT.out]; omega
    rw [splice_len _ _ _ (by rw [this, HLL.out]; omega), HLL.out]
  have hdl : m.q.d.length ≤ 4194304 := by have := HNN.out; omega
  clear hl hr hm ho1 ho2
  generalize m.q.d.length = dl at *
  generalize m.q.k = kk at *
  generalize m.q.s = ms at *
  generalize m.a = ma at *
  generalize m.c = mc at *
  have hc64 : 64 * (c : Int) = ((64 * c : Nat) : Int) := by omega
  obtain ⟨c64, HC64⟩ : ∃ z, Hid (64 * c = z) := ⟨_, rfl⟩
  rw [HC64.out] at hc64 hxl
  have hT1 : T ≤ dl := by omega
  have hT2 : T ≤ c64 := by omega
  have hT3 : dl ≤ T ∨ c64 ≤ T := by omega
  have hso6 : so ≤ 4194304 := by omega
  have hms : (64 * (ms : Int)) = (so : Int) := by omega
  have HMS := Lib.hid hms
  have hms2 : (ms : Int) ≤ 65536 := by omega
  clear hxl hso hms
  go_enter Try.func46, Try.ntmps46
  go_upto_region 1 with (fail)
  have hk1 := heap_alloc_new w (.cells #[.int .i64 (ms : Int), .slice ma dl mc] 47)
  have hb1 := below1 w (.cells #[.int .i64 (ms : Int), .slice ma dl mc] 47)
  generalize w.alloc (.cells #[.int .i64 (ms : Int), .slice ma dl mc] 47) = w1 at *
  have HK1 := Lib.hid hk1
  have HB1 := Lib.hid hb1
  have HR1 := Lib.hid (RB.below HR.out hb1)
  have hs1 : w.heap.size < w1.heap.size := (Array.getElem?_eq_some_iff.1 hk1).1
  clear hk1 hb1
  go_wp2_with (at_builtin; go_loud (refine wpList_apps _ rfl (.tmp 9) (.tmp 10) 30 rfl w1.heap.size 5 (.int .u8 0) 1 Try.underlying30 info_u8 rfl (.slice (some ⟨w1.heap.size, 0, none⟩) 0 0) 0 [] rfl (own_empty _ _ _ _ rfl (Nat.le_refl _)) A N ca (l.map vb) rfl (by simp; exact HLL.out) (Rd.alloc HR1.out _) (vb_one _) (by simp only [maxLen]; omega) (by omega) (by simp) ?_); intro Y cy w2 ho2 ha2; (rw [Nat.zero_add, List.nil_append] at ho2); have HO2 := Lib.hid ho2; have hb2 : Below w1.heap.size w1 w2 := (below1 w1 _).trans (ha2.below (own_empty w1.heap.size _ _ _ rfl (Nat.le_refl _)) (by simp)); have HB2 := Lib.hid hb2; clear ho2 ha2 hb2)
  have H2 : Hid (w2.ownsRow w1.heap.size 5 1 (.slice Y N cy) N ((splice l so (x.take 0)).map vb)) := by
    show World.ownsRow _ _ _ _ _ _ _
    rw [List.take_zero, splice_nil]; exact HO2.out
  clear HO2
  go_loopw [8] (fun i wr => ∃ k : Nat, k ≤ T ∧ i = .int .i64 k ∧ wr.ownsRow w1.heap.size 5 1 (.slice Y N cy) N ((splice l so (x.take k)).map vb) ∧ Below w1.heap.size w1 wr) (fun i _ => T - (intOf i).toNat)
  case atStart => exact ⟨0, by omega, rfl, H2.out, HB2.out⟩
  case round =>
    obtain ⟨k, hk, rfl, ho, hb⟩ := hrel
    have HO := Lib.hid ho
    have HB := Lib.hid hb
    have hKr : wr.heap[w.heap.size]? = some (.cells #[.int .i64 (ms : Int), .slice ma dl mc] 47 (0, 0)) := (hb.block _ hs1).trans HK1.out
    have HKR := Lib.hid hKr
    have p0 : wr.cell? ⟨w.heap.size, 0, none⟩ = some (.int .i64 (ms : Int)) := (cell_of_row _ _ 0 _ _ _ hKr).trans rfl
    have p1 : wr.cell? ⟨w.heap.size, 1, none⟩ = some (.slice ma dl mc) := (cell_of_row _ _ 1 _ _ _ hKr).trans rfl
    clear ho hb hKr
    have j0 : (0 : Int) ≤ (k : Int) := by omega
    by_cases hlt : k < T
    · have d1 : decide (k < dl) = true := by simp; omega
      have d2 : decide (k < c64) = true := by simp; omega
      have j1 : (k : Int) < (dl : Int) := by omega
      obtain ⟨ob, cap, e1, hob, hobl, hfz, hcell, hset⟩ := own_set0 HO.out (so + k) (by omega)
      cases e1
      have hxk : k < x.length := by have := HT.out; omega
      have hdk := HXG.out k hxk
      obtain ⟨bd, od, rfl, hcd⟩ := HM.out k (vb x[k]) (by rw [List.getElem?_map, hdk]; rfl)
      have hbdl : bd < w.heap.size := block_lt_of_cell hcd
      have hne : bd ∉ [ob] := by simp; omega
      have hneR : w.heap.size ∉ [ob] := by simp; omega
      have hcd1 : wr.cell? ⟨bd, od + k, none⟩ = some (vb x[k]) := ((HB1.out.trans (HB.out.mono (Nat.le_of_lt hs1))).cell (p := ⟨bd, od + k, none⟩) hbdl).trans hcd
      have y0 : ∀ w', Chg [ob] wr w' → w'.cell? ⟨w.heap.size, 0, none⟩ = some (.int .i64 (ms : Int)) := fun w' h => (h.cellAt HKR.out hneR).trans rfl
      have y1 : ∀ w', Chg [ob] wr w' → w'.cell? ⟨w.heap.size, 1, none⟩ = some (.slice (some ⟨bd, od, none⟩) dl mc) := fun w' h => (h.cellAt HKR.out hneR).trans rfl
      have y2 : ∀ w', Chg [ob] wr w' → w'.cell? ⟨bd, od + k, none⟩ = some (vb x[k]) := fun w' h => (World.cell?_of_block (a := ⟨bd, od + k, none⟩) (h.block bd (block_lt_of_cell hcd1) hne)).trans hcd1
      have hl2 : so + k < ((splice l so (x.take k)).map vb).length := by rw [List.length_map, HSL.out k hk]; omega
      rw [List.getElem?_eq_getElem hl2] at hcell
      obtain ⟨u, hu⟩ : ∃ u, ((splice l so (x.take k)).map vb)[so + k] = u := ⟨_, rfl⟩
      rw [hu] at hcell
      have HSET : Hid ((wr.setCell ⟨ob, so + k, none⟩ (vb x[k])).ownsRow w1.heap.size 5 1 (.slice (some ⟨ob, 0, none⟩) N cy) N ((splice l so (x.take (k + 1))).map vb)) := by
        have := hset (vb x[k])
        rw [← List.map_set, splice_set l so x k hxk (by rw [HT.out, HLL.out]; omega)] at this
        exact this
      have v1 : IntKind.i64.wrap (64 * (ms : Int)) = (so : Int) := by rw [HMS.out, IntKind.wrap_i64]; omega
      have v2 : IntKind.i64.wrap ((so : Int) + (k : Int)) = (so : Int) + (k : Int) := by rw [IntKind.wrap_i64]; omega
      have v3 : (0 : Int) ≤ (so : Int) + (k : Int) := by omega
      have v4 : (so : Int) + (k : Int) < (N : Int) := by omega
      have v5 : ((so : Int) + (k : Int)).toNat = so + k := by omega
      have HCS : Hid (Chg [ob] wr (wr.setCell ⟨ob, so + k, none⟩ (vb x[k]))) := (Chg.refl [ob] wr).setCell (p := ⟨ob, so + k, none⟩) (.inl (by simp)) _
      have HOB : Hid (w1.heap.size ≤ ob) := hob
      clear hset hu hcd hcd1 hdk hob
      generalize x[k] = xk at *
      go_wp2_with fail
      clear p0 p1
      go_region_held3 (fun w' => Chg [ob] wr w') (first | exact (Chg.refl _ _).drew | assumption | exact ((Chg.refl _ _).drew.setCell (p := ⟨ob, so + k, none⟩) (.inl (by simp)) _)) (fail)
      clear y0 y1 y2 hcell hfz v1 v2 v3 v4 v5
      have HB5 : Hid (Below w1.heap.size w1 (wr.setCell ⟨ob, so + k, none⟩ (vb xk)).drew) := (HB.out.trans (HCS.out.below HB.out.size (by simp; exact HOB.out))).drew
      have HO5 : Hid ((wr.setCell ⟨ob, so + k, none⟩ (vb xk)).drew.ownsRow w1.heap.size 5 1 (.slice (some ⟨ob, 0, none⟩) N cy) N ((splice l so (x.take (k + 1))).map vb)) := HSET.out
      go_wp2_with fail
      go_roundw
      case rel => exact ⟨k + 1, by omega, by go_num, HO5.out, HB5.out⟩
      case measure => simp [intOf]; omega
    · have HK : Hid (k = T) := by show _ = _; omega
      have HF : Hid (NewL w (ap l m.q c) (.returned (.slice Y N cy)) wr) := by
        have ho := HO.out
        rw [HK.out, ← HT.out, List.take_length, ← HAP.out] at ho
        have hl : (ap l m.q c).length = N := by have := ho.1; simpa using this
        exact ⟨Y, cy, by rw [hl], by rw [hl]; exact own_base ho HB1.out.size, HB1.out.trans (HB.out.mono HB1.out.size)⟩
      by_cases hq : k < dl
      · have d1 : decide (k < dl) = true := by simpa using hq
        have d2 : decide (k < c64) = false := by simp; omega
        go_wp2_with fail
        go_ret
        exact HF.out
      · have d1 : decide (k < dl) = false := by simpa using hq
        go_wp2_with fail
        go_ret
        exact HF.out
end Dk
end Go.Proofs.Ytoallpinpeolfaa
