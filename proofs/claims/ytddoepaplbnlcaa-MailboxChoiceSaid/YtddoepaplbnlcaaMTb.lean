/- Merged: MdI. -/
import Derived.Test.YtddoepaplbnlcaaMTa
/- The walk of MailboxChoice. -/
namespace Go.Proofs.Ytddoepaplbnlcaa
open Go.RowKit Go.Shelf
namespace Mb

/-- what a choice answers: the two IDs and whether there is one -/
def chV (l : List Msg) (k : Int) : (Int × Int) × (Int × Int) × Bool := match l[chI k l.length]? with
  | none => ((0, 0), (0, 0), false)
  | some m => ((m.a1, m.a2), (m.i1, m.i2), true)
theorem chV_of {l : List Msg} {k : Int} {w w' : World} {e : Ending} (h : ChP l k w e w') : Below w.heap.size w w' ∧ e = .returned (.tuple #[.agg #[.int .i64 (chV l k).1.1, .int .i64 (chV l k).1.2], .agg #[.int .i64 (chV l k).2.1.1, .int .i64 (chV l k).2.1.2], .bool (chV l k).2.2]) := by
  obtain ⟨h1, h2⟩ := h
  refine ⟨h1, ?_⟩
  unfold chV
  cases hl : l[chI k l.length]? with
  | none => rw [hl] at h2; exact h2
  | some m => rw [hl] at h2; exact h2
theorem chV_at (l : List Msg) (k : Nat) (hk : k < l.length) : chV l (k : Int) = ((l[k].a1, l[k].a2), (l[k].i1, l[k].i2), true) := by
  have e : chI (k : Int) l.length = k := by
    unfold chI
    rw [Int.emod_eq_of_lt (by omega) (by omega)]
    omega
  unfold chV
  rw [e, List.getElem?_eq_getElem hk]
set_option maxRecDepth 100000 in
set_option maxHeartbeats 4000000 in
theorem choice_calls (N : List Nat) (A : Option Addr) (n c : Nat) (os : List Ot) (k : Int) (hk1 : -9223372036854775808 ≤ k) (hk2 : k ≤ 9223372036854775807) (w : World) (h : IsO w N A n c os) :
    Calls Try.prog 3 #[.slice A n c, .int .i64 k] w fun e w' => e = .returned (.bool true) ∧ Below w.heap.size w w' := by
  have HO := Lib.hid h
  have HA := Lib.hid (awake_calls w)
  clear h
  go_enter Try.func3, Try.ntmps3
  go_wp2_with fail
  refine HA.out.mono ?_
  rintro e w1 ⟨rfl, hb1⟩
  have HB1 := Lib.hid hb1
  have HWI := Lib.hid (wide_calls N A n c os w1 (HO.out.below hb1))
  clear hb1 HA
  go_wp2_with fail
  refine HWI.out.mono ?_
  rintro e w2 ⟨rfl, hb2⟩
  have hb2' := HB1.out.trans (hb2.mono HB1.out.size)
  have HO2 := Lib.hid (HO.out.below hb2')
  have HB2 := Lib.hid hb2'
  clear hb2 hb2' HWI
  cases hwd : wideB os with
  | true =>
    clear hwd
    go_wp2_with fail
    go_ret
    exact ⟨rfl, HB2.out⟩
  | false =>
    have HR := Lib.hid (run_calls N A n c os w2 HO2.out (fun o ho => ((wideB_false hwd).2 o ho).2))
    clear hwd
    go_wp2_with fail
    refine HR.out.mono ?_
    rintro e w3 ⟨A3, n3, c3, rfl, hbo, hb3⟩
    have HB3 := Lib.hid (HB2.out.trans (hb3.mono HB2.out.size))
    have hi := hbo.inv
    obtain ⟨K, M, hx, ⟨A', n', c', xs, e0, hm2, hml⟩, _⟩ := hbo
    cases e0
    have hnl : n3 = (runL os).length := by rw [← hml, List.length_map]; exact hm2.hn.symm
    obtain ⟨l, HLL⟩ : ∃ x, Hid (x = runL os) := ⟨_, rfl⟩
    rw [← HLL.out] at hx hml hnl hi
    have hn1 : n3 ≤ 1024 := by rw [hnl]; exact hi.n
    have hm : Mo M l (.slice A3 n3 c3) w3 := ⟨A3, n3, c3, xs, rfl, hm2, hml⟩
    have HX := Lib.hid hx
    have HM := Lib.hid hm
    have HM2 := Lib.hid hm2
    have HL := Lib.hid hml
    have HI := Lib.hid hi
    have HNL := Lib.hid hnl
    have HC := Lib.hid (choose_calls K w2.heap.size w2.heap.size l k w3 hx hk1 hk2)
    obtain ⟨V, HV⟩ : ∃ x, Hid (x = chV l k) := ⟨_, rfl⟩
    obtain ⟨⟨va1, va2⟩, ⟨vi1, vi2⟩, vb⟩ := V
    clear hb3 HR hx hm hm2 hml hi hnl
    go_upto_region 8 with (fail)
    go_wp2_with fail
    refine HC.out.mono ?_
    intro e w4 h4
    obtain ⟨hb4, rfl⟩ := chV_of h4
    rw [← HV.out]
    simp only
    have HB4 := Lib.hid hb4
    clear h4 hb4 HC
    go_upto_region 9 with (fail)
    have hk0 : ((w4.alloc (.cells #[.int .i64 va1, .int .i64 va2] 30)).alloc (.cells #[.int .i64 vi1, .int .i64 vi2] 30)).heap[w4.heap.size]? = _ := (Below.heap_alloc _ _ _ (by simp)).trans (heap_alloc_new _ _)
    have hk1' : ((w4.alloc (.cells #[.int .i64 va1, .int .i64 va2] 30)).alloc (.cells #[.int .i64 vi1, .int .i64 vi2] 30)).heap[w4.heap.size + 1]? = _ := heap_alloc2_new _ _ _
    have hb5 := below2 w4 (.cells #[.int .i64 va1, .int .i64 va2] 30) (.cells #[.int .i64 vi1, .int .i64 vi2] 30)
    generalize ((w4.alloc _).alloc _) = w5 at *
    have HB5 := Lib.hid (HB4.out.trans (hb5.mono HB4.out.size))
    have HC := Lib.hid (rchoose_calls M l _ k w5 (HM.out.below HB5.out) HI.out.n hk1 hk2)
    clear hb5 HB4
    go_wp2_with fail
    refine HC.out.mono ?_
    intro e w6 h6
    obtain ⟨hb6, rfl⟩ := chV_of h6
    rw [← HV.out]
    simp only
    have hk2' := (hb6.block _ (Array.getElem?_eq_some_iff.1 hk0).1).trans hk0
    have hk3 := (hb6.block _ (Array.getElem?_eq_some_iff.1 hk1').1).trans hk1'
    have HB6 := Lib.hid (HB5.out.trans (hb6.mono HB5.out.size))
    clear h6 hb6 HC hk0 hk1' HB5
    go_upto_region 10 with (fail)
    have hq0 : ((w6.alloc (.cells #[.int .i64 va1, .int .i64 va2] 30)).alloc (.cells #[.int .i64 vi1, .int .i64 vi2] 30)).heap[w6.heap.size]? = _ := (Below.heap_alloc _ _ _ (by simp)).trans (heap_alloc_new _ _)
    have hq1 : ((w6.alloc (.cells #[.int .i64 va1, .int .i64 va2] 30)).alloc (.cells #[.int .i64 vi1, .int .i64 vi2] 30)).heap[w6.heap.size + 1]? = _ := heap_alloc2_new _ _ _
    have hb7 := below2 w6 (.cells #[.int .i64 va1, .int .i64 va2] 30) (.cells #[.int .i64 vi1, .int .i64 vi2] 30)
    generalize ((w6.alloc _).alloc _) = w7 at *
    have hk4 := (hb7.block _ (Array.getElem?_eq_some_iff.1 hk2').1).trans hk2'
    have hk5 := (hb7.block _ (Array.getElem?_eq_some_iff.1 hk3).1).trans hk3
    have HB7 := Lib.hid (HB6.out.trans (hb7.mono HB6.out.size))
    have s0 : w7.cell? ⟨w4.heap.size, 0, none⟩ = some (.int .i64 va1) := (cell_of_row _ _ 0 _ _ _ hk4).trans rfl
    have s1 : w7.cell? ⟨w4.heap.size, 1, none⟩ = some (.int .i64 va2) := (cell_of_row _ _ 1 _ _ _ hk4).trans rfl
    have s2 : w7.cell? ⟨w4.heap.size + 1, 0, none⟩ = some (.int .i64 vi1) := (cell_of_row _ _ 0 _ _ _ hk5).trans rfl
    have s3 : w7.cell? ⟨w4.heap.size + 1, 1, none⟩ = some (.int .i64 vi2) := (cell_of_row _ _ 1 _ _ _ hk5).trans rfl
    have t0 : w7.cell? ⟨w6.heap.size, 0, none⟩ = some (.int .i64 va1) := (cell_of_row _ _ 0 _ _ _ hq0).trans rfl
    have t1 : w7.cell? ⟨w6.heap.size, 1, none⟩ = some (.int .i64 va2) := (cell_of_row _ _ 1 _ _ _ hq0).trans rfl
    have t2 : w7.cell? ⟨w6.heap.size + 1, 0, none⟩ = some (.int .i64 vi1) := (cell_of_row _ _ 0 _ _ _ hq1).trans rfl
    have t3 : w7.cell? ⟨w6.heap.size + 1, 1, none⟩ = some (.int .i64 vi2) := (cell_of_row _ _ 1 _ _ _ hq1).trans rfl
    have q1 : ∀ w', (Op.equalIn 10000 30 (.agg #[.int .i64 va1, .int .i64 va2]) (.agg #[.int .i64 va1, .int .i64 va2])).run Try.prog w' = .ok true w' := fun w' => (eq_pair (va1, va2) (va1, va2) w').trans (by rw [decide_eq_true rfl])
    have q2 : ∀ w', (Op.equalIn 10000 30 (.agg #[.int .i64 vi1, .int .i64 vi2]) (.agg #[.int .i64 vi1, .int .i64 vi2])).run Try.prog w' = .ok true w' := fun w' => (eq_pair (vi1, vi2) (vi1, vi2) w').trans (by rw [decide_eq_true rfl])
    clear hk2' hk3 hk4 hk5 hq0 hq1 hb7 HB6
    go_upto_region 12 with (fail)
    clear s0 s1 s2 s3 t0 t1 t2 t3 q1 q2
    clear hk1 hk2 HV
    go_wp2_with fail
    go_loopw [14] (fun i wr => ∃ j : Nat, j ≤ n3 ∧ i = .int .i64 j ∧ Below w3.heap.size w3 wr) (fun i _ => n3 - (intOf i).toNat)
    case atStart => exact ⟨0, by omega, rfl, HB7.out⟩
    case round =>
      obtain ⟨j, hj, rfl, hbw⟩ := hrel
      have HBW := Lib.hid hbw
      clear hbw
      have j0 : (0 : Int) ≤ (j : Int) := by omega
      by_cases hlt : j < n3
      · have j1 : (j : Int) < (n3 : Int) := by omega
        have hjx : j < xs.length := by rw [HM2.out.hn]; exact hlt
        have hjl : j < l.length := by rw [← HNL.out]; exact hlt
        have HC := Lib.hid (choose_calls K w2.heap.size w2.heap.size l (j : Int) wr (HX.out.below HBW.out) (by omega) (by omega))
        have hml : l[j] = xs[j].m := by simp only [← HL.out, List.getElem_map]
        have HCV := Lib.hid (chV_at l j hjl)
        rw [hml] at HCV
        go_wp2_with fail
        refine HC.out.mono ?_
        intro e w8 h8
        obtain ⟨hb8, rfl⟩ := chV_of h8
        rw [HCV.out]
        simp only
        have HB8 := Lib.hid (HBW.out.trans (hb8.mono HBW.out.size))
        clear h8 hb8 HC HCV
        go_upto_region 16 with (fail)
        have hk0 : ((w8.alloc (.cells #[.int .i64 xs[j].m.a1, .int .i64 xs[j].m.a2] 30)).alloc (.cells #[.int .i64 xs[j].m.i1, .int .i64 xs[j].m.i2] 30)).heap[w8.heap.size]? = _ := (Below.heap_alloc _ _ _ (by simp)).trans (heap_alloc_new _ _)
        have hk1 : ((w8.alloc (.cells #[.int .i64 xs[j].m.a1, .int .i64 xs[j].m.a2] 30)).alloc (.cells #[.int .i64 xs[j].m.i1, .int .i64 xs[j].m.i2] 30)).heap[w8.heap.size + 1]? = _ := heap_alloc2_new _ _ _
        have hb9 := below2 w8 (.cells #[.int .i64 xs[j].m.a1, .int .i64 xs[j].m.a2] 30) (.cells #[.int .i64 xs[j].m.i1, .int .i64 xs[j].m.i2] 30)
        generalize ((w8.alloc _).alloc _) = w9 at *
        have HB9 := Lib.hid (HB8.out.trans (hb9.mono HB8.out.size))
        have HM9 := Lib.hid (HM2.out.below HB9.out)
        have hs0 := (Array.getElem?_eq_some_iff.1 hk0).1
        have hs1 := (Array.getElem?_eq_some_iff.1 hk1).1
        have s0 : ∀ w', Below w9.heap.size w9 w' → w'.cell? ⟨w8.heap.size, 0, none⟩ = some (.int .i64 xs[j].m.a1) := fun w' h => (cell_of_row _ _ 0 _ _ _ ((h.block _ hs0).trans hk0)).trans rfl
        have s1 : ∀ w', Below w9.heap.size w9 w' → w'.cell? ⟨w8.heap.size, 1, none⟩ = some (.int .i64 xs[j].m.a2) := fun w' h => (cell_of_row _ _ 1 _ _ _ ((h.block _ hs0).trans hk0)).trans rfl
        have s2 : ∀ w', Below w9.heap.size w9 w' → w'.cell? ⟨w8.heap.size + 1, 0, none⟩ = some (.int .i64 xs[j].m.i1) := fun w' h => (cell_of_row _ _ 0 _ _ _ ((h.block _ hs1).trans hk1)).trans rfl
        have s3 : ∀ w', Below w9.heap.size w9 w' → w'.cell? ⟨w8.heap.size + 1, 1, none⟩ = some (.int .i64 xs[j].m.i2) := fun w' h => (cell_of_row _ _ 1 _ _ _ ((h.block _ hs1).trans hk1)).trans rfl
        obtain ⟨b, off, e, hbl, x0, x1, x2, x3, x4, x5⟩ := rd6 HM9.out.rd j hjx
        have HBF : Hid (∀ p (hp : p < xs.length), p + 1 = j → ∀ w', Below w9.heap.size w9 w' → Calls Try.prog 15 #[mval xs[p], mval xs[j]] w' fun e w'' => e = .returned (.bool true) ∧ Below w9.heap.size w9 w'') := Lib.hid (fun p hp hpj w' hb => by
          have hlt2 : Lt xs[p].m xs[j].m := by
            have hpl : p < l.length := by omega
            have h := List.pairwise_iff_getElem.1 HI.out.s p j hpl hjl (by omega)
            have e1 : l[p] = xs[p].m := by simp only [← HL.out, List.getElem_map]
            rw [e1, hml] at h
            exact h
          refine (rbefore_calls xs[p] xs[j] w').mono ?_
          rintro e w'' ⟨h1, h2⟩
          rw [decide_eq_true hlt2] at h1
          exact ⟨h1, hb.trans (h2.mono hb.size)⟩)
        have q1 : ∀ w', (Op.equalIn 10000 30 (.agg #[.int .i64 xs[j].m.a1, .int .i64 xs[j].m.a2]) (.agg #[.int .i64 xs[j].m.a1, .int .i64 xs[j].m.a2])).run Try.prog w' = .ok true w' := fun w' => (eq_pair (xs[j].m.a1, xs[j].m.a2) (xs[j].m.a1, xs[j].m.a2) w').trans (by rw [decide_eq_true rfl])
        have q2 : ∀ w', (Op.equalIn 10000 30 (.agg #[.int .i64 xs[j].m.i1, .int .i64 xs[j].m.i2]) (.agg #[.int .i64 xs[j].m.i1, .int .i64 xs[j].m.i2])).run Try.prog w' = .ok true w' := fun w' => (eq_pair (xs[j].m.i1, xs[j].m.i2) (xs[j].m.i1, xs[j].m.i2) w').trans (by rw [decide_eq_true rfl])
        have X6 : Hid (∀ p (hp : p < xs.length), w9.cell? ⟨b, off + p * 6, none⟩ = some (.int .i64 xs[p].m.a1) ∧ w9.cell? ⟨b, off + p * 6 + 1, none⟩ = some (.int .i64 xs[p].m.a2) ∧ w9.cell? ⟨b, off + p * 6 + 2, none⟩ = some (.int .i64 xs[p].m.i1) ∧ w9.cell? ⟨b, off + p * 6 + 3, none⟩ = some (.int .i64 xs[p].m.i2) ∧ w9.cell? ⟨b, off + p * 6 + 4, none⟩ = some (.string xs[p].m.me) ∧ w9.cell? ⟨b, off + p * 6 + 5, none⟩ = some (.slice xs[p].a xs[p].m.ar.length xs[p].c)) := Lib.hid (fun p hp => by
          obtain ⟨b', off', e', _, h⟩ := rd6 HM9.out.rd p hp
          rw [e] at e'
          cases e'
          exact h)
        subst e
        clear hml hk0 hk1 hs0 hs1 hb9 HB8
        by_cases hj0 : j = 0
        · have d0 : decide ((0 : Int) < (j : Int)) = false := decide_eq_false (by omega)
          have d0n : decide (0 < j) = false := decide_eq_false (by omega)
          generalize xs[j] = z at *
          have m0 : ∀ w', Below w9.heap.size w9 w' → w'.cell? ⟨b, off + j * 6, none⟩ = some (.int .i64 z.m.a1) := fun w' h => (h.cell (p := ⟨b, off + j * 6, none⟩) hbl).trans x0
          have m1 : ∀ w', Below w9.heap.size w9 w' → w'.cell? ⟨b, off + j * 6 + 1, none⟩ = some (.int .i64 z.m.a2) := fun w' h => (h.cell (p := ⟨b, off + j * 6 + 1, none⟩) hbl).trans x1
          have m2 : ∀ w', Below w9.heap.size w9 w' → w'.cell? ⟨b, off + j * 6 + 2, none⟩ = some (.int .i64 z.m.i1) := fun w' h => (h.cell (p := ⟨b, off + j * 6 + 2, none⟩) hbl).trans x2
          have m3 : ∀ w', Below w9.heap.size w9 w' → w'.cell? ⟨b, off + j * 6 + 3, none⟩ = some (.int .i64 z.m.i2) := fun w' h => (h.cell (p := ⟨b, off + j * 6 + 3, none⟩) hbl).trans x3
          have m4 : ∀ w', Below w9.heap.size w9 w' → w'.cell? ⟨b, off + j * 6 + 4, none⟩ = some (.string z.m.me) := fun w' h => (h.cell (p := ⟨b, off + j * 6 + 4, none⟩) hbl).trans x4
          have m5 : ∀ w', Below w9.heap.size w9 w' → w'.cell? ⟨b, off + j * 6 + 5, none⟩ = some (.slice z.a z.m.ar.length z.c) := fun w' h => (h.cell (p := ⟨b, off + j * 6 + 5, none⟩) hbl).trans x5
          clear HBF X6 hj0
          have s0' := s0 w9 (Below.refl _ _)
          have s1' := s1 w9 (Below.refl _ _)
          have s2' := s2 w9 (Below.refl _ _)
          have s3' := s3 w9 (Below.refl _ _)
          clear m0 m1 m2 m3 m4 m5 s0 s1 s2 s3
          go_quiet (fail)
          have HBE := Lib.hid (blw_drewN HB9.out nq)
          clear x0 x1 x2 x3 x4 x5 s0' s1' s2' s3' q1 q2 d0 d0n
          go_wp2_with fail
          go_roundw
          case rel => exact ⟨j + 1, by omega, by go_num, HBE.out⟩
          case measure => simp [intOf]; omega
        · obtain ⟨p, hpj⟩ : ∃ p, p + 1 = j := ⟨j - 1, by omega⟩
          have hpx : p < xs.length := by omega
          have d0 : decide ((0 : Int) < (j : Int)) = true := decide_eq_true (by omega)
          have d0n : decide (0 < j) = true := decide_eq_true (by omega)
          have hsub : (j : Int) - 1 = (p : Int) := by omega
          have hw1 : IntKind.i64.wrap ((j : Int) - 1) = (p : Int) := by rw [hsub]; exact IntWalk.i64_in _ (by omega)
          have hw2 : IntKind.i64.wrap (p : Int) = (p : Int) := IntWalk.i64_in _ (by omega)
          have p0 : (0 : Int) ≤ (p : Int) := by omega
          have p1 : (p : Int) < (n3 : Int) := by omega
          have HBF2 := Lib.hid (HBF.out p hpx hpj)
          obtain ⟨g0, g1, g2, g3, g4, g5⟩ := X6.out p hpx
          unfold mval Mm.cells at HBF2
          generalize xs[p] = y at *
          generalize xs[j] = z at *
          have m0 : ∀ w', Below w9.heap.size w9 w' → w'.cell? ⟨b, off + j * 6, none⟩ = some (.int .i64 z.m.a1) := fun w' h => (h.cell (p := ⟨b, off + j * 6, none⟩) hbl).trans x0
          have m1 : ∀ w', Below w9.heap.size w9 w' → w'.cell? ⟨b, off + j * 6 + 1, none⟩ = some (.int .i64 z.m.a2) := fun w' h => (h.cell (p := ⟨b, off + j * 6 + 1, none⟩) hbl).trans x1
          have m2 : ∀ w', Below w9.heap.size w9 w' → w'.cell? ⟨b, off + j * 6 + 2, none⟩ = some (.int .i64 z.m.i1) := fun w' h => (h.cell (p := ⟨b, off + j * 6 + 2, none⟩) hbl).trans x2
          have m3 : ∀ w', Below w9.heap.size w9 w' → w'.cell? ⟨b, off + j * 6 + 3, none⟩ = some (.int .i64 z.m.i2) := fun w' h => (h.cell (p := ⟨b, off + j * 6 + 3, none⟩) hbl).trans x3
          have m4 : ∀ w', Below w9.heap.size w9 w' → w'.cell? ⟨b, off + j * 6 + 4, none⟩ = some (.string z.m.me) := fun w' h => (h.cell (p := ⟨b, off + j * 6 + 4, none⟩) hbl).trans x4
          have m5 : ∀ w', Below w9.heap.size w9 w' → w'.cell? ⟨b, off + j * 6 + 5, none⟩ = some (.slice z.a z.m.ar.length z.c) := fun w' h => (h.cell (p := ⟨b, off + j * 6 + 5, none⟩) hbl).trans x5
          have r0 : ∀ w', Below w9.heap.size w9 w' → w'.cell? ⟨b, off + p * 6, none⟩ = some (.int .i64 y.m.a1) := fun w' h => (h.cell (p := ⟨b, off + p * 6, none⟩) hbl).trans g0
          have r1 : ∀ w', Below w9.heap.size w9 w' → w'.cell? ⟨b, off + p * 6 + 1, none⟩ = some (.int .i64 y.m.a2) := fun w' h => (h.cell (p := ⟨b, off + p * 6 + 1, none⟩) hbl).trans g1
          have r2 : ∀ w', Below w9.heap.size w9 w' → w'.cell? ⟨b, off + p * 6 + 2, none⟩ = some (.int .i64 y.m.i1) := fun w' h => (h.cell (p := ⟨b, off + p * 6 + 2, none⟩) hbl).trans g2
          have r3 : ∀ w', Below w9.heap.size w9 w' → w'.cell? ⟨b, off + p * 6 + 3, none⟩ = some (.int .i64 y.m.i2) := fun w' h => (h.cell (p := ⟨b, off + p * 6 + 3, none⟩) hbl).trans g3
          have r4 : ∀ w', Below w9.heap.size w9 w' → w'.cell? ⟨b, off + p * 6 + 4, none⟩ = some (.string y.m.me) := fun w' h => (h.cell (p := ⟨b, off + p * 6 + 4, none⟩) hbl).trans g4
          have r5 : ∀ w', Below w9.heap.size w9 w' → w'.cell? ⟨b, off + p * 6 + 5, none⟩ = some (.slice y.a y.m.ar.length y.c) := fun w' h => (h.cell (p := ⟨b, off + p * 6 + 5, none⟩) hbl).trans g5
          clear x0 x1 x2 x3 x4 x5 g0 g1 g2 g3 g4 g5 HBF X6 hj0 hpj
          go_region_held3 (fun w' => Below w9.heap.size w9 w') (first | exact (Below.refl _ _).drew | assumption) (first | (go_at_call 15; refine (HBF2.out _ (by assumption)).mono ?_; rintro e wb ⟨rfl, hcb⟩))
          have HBE := Lib.hid (HB9.out.trans ((by assumption : Below w9.heap.size w9 _).mono HB9.out.size))
          clear m0 m1 m2 m3 m4 m5 s0 s1 s2 s3 q1 q2 d0 d0n r0 r1 r2 r3 r4 r5 hsub hw1 hw2
          go_wp2_with fail
          go_roundw
          case rel => exact ⟨j + 1, by omega, by go_num, HBE.out⟩
          case measure => simp [intOf]; omega
      · go_upto_region 18 with (fail)
        go_wp2_with fail
        go_ret
        exact ⟨rfl, HB3.out.trans (HBW.out.mono HB3.out.size)⟩
theorem choice_row (W : World) (A : Option Addr) (n c : Nat) (os : List Ot) (h : IsO W (List.range W.heap.size) A n c os) (k : Int) (hk1 : -9223372036854775808 ≤ k) (hk2 : k ≤ 9223372036854775807) :
    Calls Try.prog 3 #[.slice A n c, .int .i64 k] W fun e w' => e = .returned (.bool true) ∧ Below W.heap.size W w' := choice_calls _ A n c os k hk1 hk2 W h
end Mb
end Go.Proofs.Ytddoepaplbnlcaa
