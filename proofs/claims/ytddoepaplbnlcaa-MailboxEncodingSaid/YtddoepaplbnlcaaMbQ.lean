/- The walk of Choose. -/
import Derived.Test.YtddoepaplbnlcaaMbP
import Derived.BigRegion
namespace Go.Proofs.Ytddoepaplbnlcaa
open Go.RowKit Go.Shelf
namespace Mb

/-- the place that an index chooses -/
def chI (k : Int) (n : Nat) : Nat := (k % (n : Int)).toNat
theorem chI_lt (k : Int) {n : Nat} (h : 0 < n) : chI k n < n := by
  unfold chI
  have h1 := Int.emod_lt_of_pos k (by omega : (0 : Int) < (n : Int))
  have h2 := Int.emod_nonneg k (by omega : (n : Int) ≠ 0)
  omega
theorem tm_bounds (k : Int) {n : Nat} (h : 0 < n) : -(n : Int) < k.tmod n ∧ k.tmod n < n := by
  refine ⟨?_, ?_⟩
  · have := Int.lt_tmod_of_pos k (by omega : (0 : Int) < (n : Int)); omega
  · exact Int.tmod_lt_of_pos k (by omega)
theorem ch_eq (k : Int) {n : Nat} (h : 0 < n) : (k.tmod n + n).tmod n = (chI k n : Int) := by
  have hb := tm_bounds k h
  unfold chI
  have h2 := Int.emod_nonneg k (by omega : (n : Int) ≠ 0)
  rw [Int.toNat_of_nonneg h2, Int.tmod_eq_emod_of_nonneg (by omega)]
  have h3 : (k.tmod n) % (n : Int) = k % (n : Int) := by
    rw [Int.tmod_eq_emod]
    split
    · simp
    · simp
  rw [Int.add_emod, h3]
  simp
def ChP (l : List Msg) (k : Int) (w : World) (e : Ending) (w' : World) : Prop :=
  Below w.heap.size w w' ∧ match l[chI k l.length]? with
  | none => e = .returned (.tuple #[.agg #[.int .i64 0, .int .i64 0], .agg #[.int .i64 0, .int .i64 0], .bool false])
  | some m => e = .returned (.tuple #[.agg #[.int .i64 m.a1, .int .i64 m.a2], .agg #[.int .i64 m.i1, .int .i64 m.i2], .bool true])
set_option maxRecDepth 100000 in
set_option maxHeartbeats 2000000 in
theorem choose_calls (K : List Nat) (B g : Nat) (l : List Msg) (k : Int) (w : World) (h : Bx K B g l w) (_hk1 : -9223372036854775808 ≤ k) (_hk2 : k ≤ 9223372036854775807) :
    Calls Try.prog 13 #[.pointer (some ⟨g, 0, none⟩), .int .i64 k] w (ChP l k w) := by
  obtain ⟨N, A, n, c, xs, hbx, hl, hi, _⟩ := h
  have hnl : n = l.length := by rw [← hl, List.length_map]; exact hbx.hn.symm
  have hn1 : n ≤ 1024 := by rw [hnl]; exact hi.n
  have HX := Lib.hid hbx
  have HL := Lib.hid hl
  have HI := Lib.hid hi
  have HNL := Lib.hid hnl
  have hb2 := below2 w (.cells #[.int .i64 0, .int .i64 0] 30) (.cells #[.int .i64 0, .int .i64 0] 30)
  have k0 : ((w.alloc (.cells #[.int .i64 0, .int .i64 0] 30)).alloc (.cells #[.int .i64 0, .int .i64 0] 30)).heap[w.heap.size]? = _ := (Below.heap_alloc _ _ _ (by simp)).trans (heap_alloc_new _ _)
  have k1 : ((w.alloc (.cells #[.int .i64 0, .int .i64 0] 30)).alloc (.cells #[.int .i64 0, .int .i64 0] 30)).heap[w.heap.size + 1]? = _ := heap_alloc2_new _ _ _
  clear hbx hl hi hnl
  go_enter Try.func13, Try.ntmps13
  go_upto_region 1 with (fail)
  generalize ((w.alloc _).alloc _) = w2 at *
  have HB2 := Lib.hid hb2
  have HK := Lib.hid (And.intro k0 k1)
  have HX2 := Lib.hid (HX.out.below hb2)
  have g2 : w2.cell? ⟨g, 0, none⟩ = some (.slice A n c) := (cell_of_row _ _ 0 _ _ _ HX2.out.hd).trans rfl
  have m00 : w2.cell? ⟨w.heap.size, 0, none⟩ = some _ := (cell_of_row _ _ 0 _ _ _ k0).trans rfl
  have m01 : w2.cell? ⟨w.heap.size, 1, none⟩ = some _ := (cell_of_row _ _ 1 _ _ _ k0).trans rfl
  have m10 : w2.cell? ⟨w.heap.size + 1, 0, none⟩ = some _ := (cell_of_row _ _ 0 _ _ _ k1).trans rfl
  have m11 : w2.cell? ⟨w.heap.size + 1, 1, none⟩ = some _ := (cell_of_row _ _ 1 _ _ _ k1).trans rfl
  have f00 : w2.frozen? ⟨w.heap.size, 0, none⟩ = false := frozen_of_row _ _ _ _ _ k0
  have f01 : w2.frozen? ⟨w.heap.size, 1, none⟩ = false := frozen_of_row _ _ _ _ _ k0
  have f10 : w2.frozen? ⟨w.heap.size + 1, 0, none⟩ = false := frozen_of_row _ _ _ _ _ k1
  have f11 : w2.frozen? ⟨w.heap.size + 1, 1, none⟩ = false := frozen_of_row _ _ _ _ _ k1
  clear hb2 k0 k1
  by_cases hn0 : n = 0
  · subst hn0
    have HP2 : Hid (∀ w', Below w.heap.size w w' → ChP l k w (.returned (.tuple #[.agg #[.int .i64 0, .int .i64 0], .agg #[.int .i64 0, .int .i64 0], .bool false])) w') := Lib.hid (fun w' hb => by
      refine ⟨hb, ?_⟩
      rw [List.getElem?_eq_none (by rw [← HNL.out]; exact Nat.zero_le _)])
    have HBF : ∀ u0 u1 u2 u3, Below w.heap.size w ((((w2.setCell ⟨w.heap.size, 0, none⟩ u0).setCell ⟨w.heap.size, 1, none⟩ u1).setCell ⟨w.heap.size + 1, 0, none⟩ u2).setCell ⟨w.heap.size + 1, 1, none⟩ u3) := fun u0 u1 u2 u3 =>
      Below.setCell (p := ⟨w.heap.size + 1, 1, none⟩) (Below.setCell (p := ⟨w.heap.size + 1, 0, none⟩) (Below.setCell (p := ⟨w.heap.size, 1, none⟩) (Below.setCell (p := ⟨w.heap.size, 0, none⟩) HB2.out (Nat.le_refl _) _) (Nat.le_refl _) _) (Nat.le_succ _) _) (Nat.le_succ _) _
    have HB6 := Lib.hid HBF
    clear HBF
    go_wp2_with fail
    refine bodyPost_ret (v := .tuple #[.agg #[.int .i64 0, .int .i64 0], .agg #[.int .i64 0, .int .i64 0], .bool false]) ?_ rfl (HP2.out _ ?_)
    · simp [results, Try.results13, go_sem, *]
    · exact HB6.out _ _ _ _
  · have q0 : ((n : Int) == 0) = false := by rw [beq_eq_false_iff_ne]; omega
    go_upto_region 4 with (fail)
    have hP : chI k n < n := chI_lt k (by omega)
    have hce := ch_eq k (n := n) (by omega)
    have htb := tm_bounds k (n := n) (by omega)
    obtain ⟨P, HP⟩ : ∃ P, Hid (chI k n = P) := ⟨_, rfl⟩
    rw [HP.out] at hce hP
    have hPx : P < xs.length := by rw [HX.out.hn]; exact hP
    have hPl : P < l.length := by rw [← HNL.out]; exact hP
    obtain ⟨b, off, e, hbl, x0, x1, x2, x3, x4, x5⟩ := rd6 HX2.out.rd P hPx
    subst e
    have hml : l[P] = xs[P].m := by simp only [← HL.out, List.getElem_map]
    have HP2 : Hid (∀ w', Below w.heap.size w w' → ChP l k w (.returned (.tuple #[.agg #[.int .i64 xs[P].m.a1, .int .i64 xs[P].m.a2], .agg #[.int .i64 xs[P].m.i1, .int .i64 xs[P].m.i2], .bool true])) w') := Lib.hid (fun w' hb => by
      refine ⟨hb, ?_⟩
      rw [← HNL.out, HP.out, List.getElem?_eq_getElem hPl, hml])
    generalize xs[P] = z at *
    obtain ⟨t, ht⟩ : ∃ t, k.tmod (n : Int) = t := ⟨_, rfl⟩
    rw [ht] at hce htb
    have hw1 : IntKind.i64.wrap t = t := IntWalk.i64_in _ (by omega)
    have hw2 : IntKind.i64.wrap (t + (n : Int)) = t + (n : Int) := IntWalk.i64_in _ (by omega)
    have hw3 : IntKind.i64.wrap (P : Int) = (P : Int) := IntWalk.i64_in _ (by omega)
    have j0 : (0 : Int) ≤ (P : Int) := by omega
    have j1 : (P : Int) < (n : Int) := by omega
    have hne : ¬ (n : Int) = 0 := by omega
    clear hml
    go_region_held3 (fun w' => w'.cell? ⟨g, 0, none⟩ = some (.slice (some ⟨b, off, none⟩) n c) ∧ w'.cell? ⟨b, off + P * 6, none⟩ = some (.int .i64 z.m.a1) ∧ w'.cell? ⟨b, off + P * 6 + 1, none⟩ = some (.int .i64 z.m.a2) ∧ w'.cell? ⟨b, off + P * 6 + 2, none⟩ = some (.int .i64 z.m.i1) ∧ w'.cell? ⟨b, off + P * 6 + 3, none⟩ = some (.int .i64 z.m.i2) ∧ w'.cell? ⟨b, off + P * 6 + 4, none⟩ = some (.string z.m.me) ∧ w'.cell? ⟨b, off + P * 6 + 5, none⟩ = some (.slice z.a z.m.ar.length z.c)) (go_keep) (fail)
    clear hw1 hw2 hw3 hce ht htb hne x0 x1 x2 x3 x4 x5 g2 m00 m01 m10 m11 f00 f01 f10 f11
    go_upto_region 5 with (fail)
    have hq := heap_alloc_new w2 (.cells #[.int .i64 z.m.a1, .int .i64 z.m.a2, .int .i64 z.m.i1, .int .i64 z.m.i2, .string z.m.me, .slice z.a z.m.ar.length z.c] 76)
    have hb5 := below1 w2 (.cells #[.int .i64 z.m.a1, .int .i64 z.m.a2, .int .i64 z.m.i1, .int .i64 z.m.i2, .string z.m.me, .slice z.a z.m.ar.length z.c] 76)
    have HS2 : w.heap.size + 1 < w2.heap.size := (Array.getElem?_eq_some_iff.1 HK.out.2).1
    generalize w2.alloc _ = w5 at *
    have hw5 : w2.heap.size < w5.heap.size := (Array.getElem?_eq_some_iff.1 hq).1
    have hk0 := (hb5.block _ (by omega : w.heap.size < w2.heap.size)).trans HK.out.1
    have hk1 := (hb5.block _ HS2).trans HK.out.2
    have s0 : w5.cell? ⟨w2.heap.size, 0, none⟩ = some (.int .i64 z.m.a1) := (cell_of_row _ _ 0 _ _ _ hq).trans rfl
    have s1 : w5.cell? ⟨w2.heap.size, 1, none⟩ = some (.int .i64 z.m.a2) := (cell_of_row _ _ 1 _ _ _ hq).trans rfl
    have s2 : w5.cell? ⟨w2.heap.size, 2, none⟩ = some (.int .i64 z.m.i1) := (cell_of_row _ _ 2 _ _ _ hq).trans rfl
    have s3 : w5.cell? ⟨w2.heap.size, 3, none⟩ = some (.int .i64 z.m.i2) := (cell_of_row _ _ 3 _ _ _ hq).trans rfl
    have m00 : w5.cell? ⟨w.heap.size, 0, none⟩ = some (.int .i64 0) := (cell_of_row _ _ 0 _ _ _ hk0).trans rfl
    have m01 : w5.cell? ⟨w.heap.size, 1, none⟩ = some (.int .i64 0) := (cell_of_row _ _ 1 _ _ _ hk0).trans rfl
    have m10 : w5.cell? ⟨w.heap.size + 1, 0, none⟩ = some (.int .i64 0) := (cell_of_row _ _ 0 _ _ _ hk1).trans rfl
    have m11 : w5.cell? ⟨w.heap.size + 1, 1, none⟩ = some (.int .i64 0) := (cell_of_row _ _ 1 _ _ _ hk1).trans rfl
    have f00 : w5.frozen? ⟨w.heap.size, 0, none⟩ = false := frozen_of_row _ _ _ _ _ hk0
    have f01 : w5.frozen? ⟨w.heap.size, 1, none⟩ = false := frozen_of_row _ _ _ _ _ hk0
    have f10 : w5.frozen? ⟨w.heap.size + 1, 0, none⟩ = false := frozen_of_row _ _ _ _ _ hk1
    have f11 : w5.frozen? ⟨w.heap.size + 1, 1, none⟩ = false := frozen_of_row _ _ _ _ _ hk1
    have n1 : ¬ w2.heap.size = w.heap.size := by omega
    have n2 : ¬ w2.heap.size = w.heap.size + 1 := by omega
    have HB5 := Lib.hid (HB2.out.trans (hb5.mono HB2.out.size))
    clear hq hk0 hk1 hb5
    have HBF : ∀ u0 u1 u2 u3, Below w.heap.size w ((((w5.setCell ⟨w.heap.size, 0, none⟩ u0).setCell ⟨w.heap.size, 1, none⟩ u1).setCell ⟨w.heap.size + 1, 0, none⟩ u2).setCell ⟨w.heap.size + 1, 1, none⟩ u3) := fun u0 u1 u2 u3 =>
      Below.setCell (p := ⟨w.heap.size + 1, 1, none⟩) (Below.setCell (p := ⟨w.heap.size + 1, 0, none⟩) (Below.setCell (p := ⟨w.heap.size, 1, none⟩) (Below.setCell (p := ⟨w.heap.size, 0, none⟩) HB5.out (Nat.le_refl _) _) (Nat.le_refl _) _) (Nat.le_succ _) _) (Nat.le_succ _) _
    have HBG : ∀ u0 u1 u2 u3, Below w.heap.size w ((((w5.setCell ⟨w.heap.size + 1, 0, none⟩ u2).setCell ⟨w.heap.size + 1, 1, none⟩ u3).setCell ⟨w.heap.size, 0, none⟩ u0).setCell ⟨w.heap.size, 1, none⟩ u1) := fun u0 u1 u2 u3 =>
      Below.setCell (p := ⟨w.heap.size, 1, none⟩) (Below.setCell (p := ⟨w.heap.size, 0, none⟩) (Below.setCell (p := ⟨w.heap.size + 1, 1, none⟩) (Below.setCell (p := ⟨w.heap.size + 1, 0, none⟩) HB5.out (Nat.le_succ _) _) (Nat.le_succ _) _) (Nat.le_refl _) _) (Nat.le_refl _) _
    have HB6 := Lib.hid (And.intro HBF HBG)
    clear HBF HBG
    go_region
    all_goals
      go_wp2_with fail
      refine bodyPost_ret (v := .tuple #[.agg #[.int .i64 z.m.a1, .int .i64 z.m.a2], .agg #[.int .i64 z.m.i1, .int .i64 z.m.i2], .bool true]) ?_ rfl (HP2.out _ ?_)
      · simp [results, Try.results13, go_sem, *]
      · first | exact (HB6.out.1 _ _ _ _).drew.drew | exact (HB6.out.2 _ _ _ _).drew.drew
end Mb
end Go.Proofs.Ytddoepaplbnlcaa
