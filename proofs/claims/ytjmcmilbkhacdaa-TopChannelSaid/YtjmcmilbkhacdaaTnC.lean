/- The walk of netsim.copied. -/
import Derived.Test.YtjmcmilbkhacdaaTnB
namespace Go.Proofs.Ytjmcmilbkhacdaa
open Go.RowKit Go.Shelf
namespace Tc
theorem info_y : (Try.prog.info? 5).map (fun i => (i.zero, i.size, i.bytes)) = some (some (.int .u8 0), 1, 1) := by kernel_rfl
theorem size_y : (Try.prog.info? 5).map (·.size) = some 1 := by kernel_rfl
theorem made_ys (N : Nat) : (madeCells #[.int .u8 0] N).toList = (List.replicate N (0 : UInt8)).map vb := by
  rw [toList_madeCells_one]
  simp
theorem st4 {w : World} {t : Nat} {ty : TypeId} {z0 z1 z2 z3 : Value} (h : w.heap[t]? = some (Obj.cells #[z0, z1, z2, z3] ty (0, 0))) (v0 v1 v2 v3 : Value) :
    ((((w.setCell ⟨t, 0, none⟩ v0).setCell ⟨t, 1, none⟩ v1).setCell ⟨t, 2, none⟩ v2).setCell ⟨t, 3, none⟩ v3).heap[t]? = some (Obj.cells #[v0, v1, v2, v3] ty (0, 0)) :=
  heap_setCell_same _ _ _ _ _ _ (heap_setCell_same _ _ _ _ _ _ (heap_setCell_same _ _ _ _ _ _ (heap_setCell_same _ _ _ _ _ _ h)))
theorem chgset4 {w : World} (t : Nat) (v0 v1 v2 v3 : Value) : Chg [t] w ((((w.setCell ⟨t, 0, none⟩ v0).setCell ⟨t, 1, none⟩ v1).setCell ⟨t, 2, none⟩ v2).setCell ⟨t, 3, none⟩ v3) :=
  ((((Chg.refl [t] w).setCell (p := ⟨t, 0, none⟩) (.inl (by simp)) v0).setCell (p := ⟨t, 1, none⟩) (.inl (by simp)) v1).setCell (p := ⟨t, 2, none⟩) (.inl (by simp)) v2).setCell (p := ⟨t, 3, none⟩) (.inl (by simp)) v3
def CopP (x : Pk) (B : Nat) (w : World) (e : Ending) (w' : World) : Prop := ∃ X c, e = .returned (pval ⟨x.num, x.f, x.t, x.d, X, c⟩) ∧ Pl B w' X x.d c ∧ Below w.heap.size w w'
set_option maxRecDepth 100000 in
set_option maxHeartbeats 2000000 in
theorem copied_calls (x : Pk) (B : Nat) (w : World) (hd : Pl B w x.a x.d x.c) (hl : x.d.length ≤ 1000000) : Calls Try.prog 23 #[pval x] w (CopP x B w) := by
  obtain ⟨N, HN⟩ : ∃ y, Hid (x.d.length = y) := ⟨_, rfl⟩
  have hN : N ≤ 1000000 := by rw [← HN.out]; exact hl
  obtain ⟨i0, hi0, hz0, hz1, hz2⟩ := info_parts info_y
  have hmk : ∀ u : World, (Instr.makeSlice 32 (.int .i64 (N : Int)) (.int .i64 (N : Int))).run Try.prog u = .ok (.slice (some ⟨u.heap.size, 0, none⟩) N N) (u.alloc (.cells (madeCells #[.int .u8 0] N) 5)) := fun u => by
    have h := run_make (P := Try.prog) u 32 5 i0 (.int .u8 0) Try.underlying32 hi0 hz0 .i64 .i64 N N (by omega) (Int.le_refl _) (by rw [hz2]; omega) (by omega)
    simpa [hz1, Value.cells] using h
  have HMC : Hid ((madeCells #[.int .u8 0] N).toList = (List.replicate N (0 : UInt8)).map vb) := Lib.hid (made_ys N)
  generalize madeCells #[.int .u8 0] N = mc at *
  have hmcl : mc.size = N := by have := congrArg List.length HMC.out; simpa using this
  have hb2 := below2 w (.cells #[.int .i64 x.num, .int .i64 x.f, .int .i64 x.t, .slice x.a N x.c] 50) (.cells #[.int .i64 0, .int .i64 0, .int .i64 0, .slice none 0 0] 50)
  have k0 : ((w.alloc (.cells #[.int .i64 x.num, .int .i64 x.f, .int .i64 x.t, .slice x.a N x.c] 50)).alloc (.cells #[.int .i64 0, .int .i64 0, .int .i64 0, .slice none 0 0] 50)).heap[w.heap.size]? = _ := (Below.heap_alloc _ _ _ (by simp)).trans (heap_alloc_new _ _)
  have k1 : ((w.alloc (.cells #[.int .i64 x.num, .int .i64 x.f, .int .i64 x.t, .slice x.a N x.c] 50)).alloc (.cells #[.int .i64 0, .int .i64 0, .int .i64 0, .slice none 0 0] 50)).heap[w.heap.size + 1]? = _ := heap_alloc2_new _ _ _
  have hp : pval x = .agg #[.int .i64 x.num, .int .i64 x.f, .int .i64 x.t, .slice x.a N x.c] := by rw [← HN.out]; rfl
  have HR := Lib.hid hd.rd
  rw [hp]
  clear hi0 hz0 hz1 hz2 hl hp hd
  go_enter Try.func23, Try.ntmps23
  go_upto_region 1 with (fail)
  generalize ((w.alloc _).alloc _) = w2 at *
  have hO1 : (w2.alloc (.cells mc 5)).ownsRow w2.heap.size 5 1 (.slice (some ⟨w2.heap.size, 0, none⟩) N N) N ((List.replicate N (0 : UInt8)).map vb) :=
    ⟨by simp, .inr ⟨w2.heap.size, N, mc, rfl, Nat.le_refl _, heap_alloc_new _ _, Nat.le_refl _, by simp only [maxLen]; omega, by omega, by rw [Nat.mul_one, List.take_of_length_le (by simp; omega), HMC.out]⟩⟩
  have hb3 := below1 w2 (.cells mc 5)
  obtain ⟨w3, hcp, hO2, hW2⟩ := run_copyO (P := Try.prog) (w2.alloc (.cells mc 5)) 32 32 3 5 Try.underlying32 size_y (some ⟨w2.heap.size, 0, none⟩) N hO1 0 x.a N x.c (x.d.map vb) (by rw [List.length_map]; exact HN.out) ((RB.below HR.out hb2).below hb3) (vb_one _) (by omega)
  rw [cutA_zero, Nat.sub_zero] at hcp
  have hsp : Go.splice ((List.replicate N (0 : UInt8)).map vb) 0 (x.d.map vb) = x.d.map vb := by
    unfold Go.splice
    rw [List.take_zero, List.nil_append, Nat.zero_add, List.drop_eq_nil_of_le (by simp [HN.out]), List.append_nil]
  rw [hsp] at hO2
  have hc3 : Chg [w2.heap.size] (w2.alloc (.cells mc 5)) w3 := hW2.chg (fun b hb => by
    have : w2.heap.size = b := by simpa [Value.ownBlock] using hb
    simp [this])
  have hb23 : Below w2.heap.size w2 w3 := hb3.trans (hc3.below (by simp) (by simp))
  have HO2 := Lib.hid hO2
  have HB3 := Lib.hid (hb2.trans (hb23.mono hb2.size))
  have hk0 := (hb23.block _ (Array.getElem?_eq_some_iff.1 k0).1).trans k0
  have hk1 := (hb23.block _ (Array.getElem?_eq_some_iff.1 k1).1).trans k1
  obtain ⟨q, HQ⟩ : ∃ y, Hid (w.heap.size = y) := ⟨_, rfl⟩
  rw [HQ.out] at k0 k1 hk0 hk1 ⊢
  have hq2 : q < w2.heap.size := (Array.getElem?_eq_some_iff.1 k0).1
  have c3 : w2.cell? ⟨q, 3, none⟩ = some (.slice x.a N x.c) := (cell_of_row _ _ 3 _ _ _ k0).trans rfl
  have n3 : ∀ o, (w2.alloc o).cell? ⟨q, 3, none⟩ = some (.slice x.a N x.c) := fun o => (World.cell?_alloc_lt w2 o ⟨q, 3, none⟩ hq2).trans c3
  have e0 : w3.cell? ⟨q, 0, none⟩ = some (.int .i64 x.num) := (cell_of_row _ _ 0 _ _ _ hk0).trans rfl
  have e1 : w3.cell? ⟨q, 1, none⟩ = some (.int .i64 x.f) := (cell_of_row _ _ 1 _ _ _ hk0).trans rfl
  have e2 : w3.cell? ⟨q, 2, none⟩ = some (.int .i64 x.t) := (cell_of_row _ _ 2 _ _ _ hk0).trans rfl
  have e3 : w3.cell? ⟨q, 3, none⟩ = some (.slice x.a N x.c) := (cell_of_row _ _ 3 _ _ _ hk0).trans rfl
  have f3 := frozen_of_row _ _ 3 _ _ hk0
  have h0 : w3.cell? ⟨q + 1, 0, none⟩ = some (.int .i64 0) := (cell_of_row _ _ 0 _ _ _ hk1).trans rfl
  have h1 : w3.cell? ⟨q + 1, 1, none⟩ = some (.int .i64 0) := (cell_of_row _ _ 1 _ _ _ hk1).trans rfl
  have h2 : w3.cell? ⟨q + 1, 2, none⟩ = some (.int .i64 0) := (cell_of_row _ _ 2 _ _ _ hk1).trans rfl
  have h3 : w3.cell? ⟨q + 1, 3, none⟩ = some (.slice none 0 0) := (cell_of_row _ _ 3 _ _ _ hk1).trans rfl
  have g0 := frozen_of_row _ _ 0 _ _ hk1
  have g1 := frozen_of_row _ _ 1 _ _ hk1
  have g2 := frozen_of_row _ _ 2 _ _ hk1
  have g3 := frozen_of_row _ _ 3 _ _ hk1
  have hc1 : Chg [q] w3 (w3.setCell ⟨q, 3, none⟩ (.slice (some ⟨w2.heap.size, 0, none⟩) N N)) := (Chg.refl [q] w3).setCell (p := ⟨q, 3, none⟩) (.inl (by simp)) _
  have HC1 := Lib.hid hc1
  have hz1 := hc1.blk hk1 (by simp)
  have hx := st4 hz1 (.int .i64 x.num) (.int .i64 x.f) (.int .i64 x.t) (.slice (some ⟨w2.heap.size, 0, none⟩) N N)
  have hcx := chgset4 (w := w3.setCell ⟨q, 3, none⟩ (.slice (some ⟨w2.heap.size, 0, none⟩) N N)) (q + 1) (.int .i64 x.num) (.int .i64 x.f) (.int .i64 x.t) (.slice (some ⟨w2.heap.size, 0, none⟩) N N)
  have HX := Lib.hid hx
  have HCX := Lib.hid hcx
  have HS : Hid (w2.heap.size < w3.heap.size ∧ q + 1 < w2.heap.size) := Lib.hid ⟨Nat.lt_of_lt_of_le (by simp) hc3.size, (Array.getElem?_eq_some_iff.1 k1).1⟩
  clear hO1 hO2 hW2 hsp hc3 hb3 hb23 hb2 k0 k1 hk0 hk1 hc1 hz1 hx hcx hmcl
  go_wp2_with fail
  generalize ((((w3.setCell _ _).setCell _ _).setCell _ _).setCell _ _).setCell _ _ = wx at *
  refine bodyPost_ret (results_cell_row rfl _ _ (q + 1) 50 #[.int .i64 x.num, .int .i64 x.f, .int .i64 x.t, .slice (some ⟨w2.heap.size, 0, none⟩) N N] (0, 0) _ rfl HX.out Try.underlying50 rfl size_p) rfl ?_
  have hbx : Below q w3 wx := (HC1.out.below (by have := HS.out; omega) (by simp)).trans (HCX.out.below (by have := HS.out; have := HC1.out.size; omega) (by simp))
  have hox : wx.ownsRow w2.heap.size 5 1 (.slice (some ⟨w2.heap.size, 0, none⟩) N N) N (x.d.map vb) := by
    have h5 := HC1.out.ownS HO2.out (fun b hb => by
      have : w2.heap.size = b := by simpa [Value.ownBlock] using hb
      have := HS.out
      simp; omega)
    exact HCX.out.ownS h5 (fun b hb => by
      have : w2.heap.size = b := by simpa [Value.ownBlock] using hb
      have := HS.out
      simp; omega)
  refine ⟨some ⟨w2.heap.size, 0, none⟩, N, ?_, Pl.own hox HN.out, ?_⟩
  · rw [show pval ⟨x.num, x.f, x.t, x.d, some ⟨w2.heap.size, 0, none⟩, N⟩ = .agg #[.int .i64 x.num, .int .i64 x.f, .int .i64 x.t, .slice (some ⟨w2.heap.size, 0, none⟩) x.d.length N] from rfl, HN.out]
  · have h6 := HB3.out
    rw [HQ.out] at h6 ⊢
    exact h6.trans hbx
end Tc
end Go.Proofs.Ytjmcmilbkhacdaa
