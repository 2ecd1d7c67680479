/- The walks of slices.BinarySearchFunc over messages and of search. -/
import Derived.Test.YtddoepaplbnlcaaMbG
import Derived.IntWalk
import Derived.Deep.DeepCutAuto
namespace Go.Proofs.Ytddoepaplbnlcaa
open Go.RowKit Go.Shelf
namespace Mb

theorem pos_lt_iff {l : List Msg} (hs : l.Pairwise Lt) (m : Msg) {t : Nat} (ht : t < l.length) : t < pos l m ↔ cmpM l[t] m < 0 := by
  rw [cmpM_lt]
  constructor
  · intro h
    exact (pos_below h).2
  · intro h
    rcases Nat.lt_or_ge t (pos l m) with h1 | h1
    · exact h1
    · exact absurd h (pos_above hs h1 ht)
theorem pos_lt_map {xs : List Mm} (hs : (xs.map (·.m)).Pairwise Lt) (m : Msg) {t : Nat} (ht : t < xs.length) : t < pos (xs.map (·.m)) m ↔ cmpM xs[t].m m < 0 := by
  have h := pos_lt_iff hs m (t := t) (by rw [List.length_map]; exact ht)
  rwa [List.getElem_map] at h
def foundB (l : List Msg) (k : Msg) : Bool := match l[pos l k]? with
  | none => false
  | some x => decide (cmpM x k = 0)
def SrchP (l : List Msg) (k : Msg) (w : World) (e : Ending) (w' : World) : Prop := e = .returned (.tuple #[.int .i64 (pos l k : Int), .bool (foundB l k)]) ∧ Below w.heap.size w w'
theorem enters_cmp : ∀ (args : Array Value) (w' : World), (callFunc 49 args).run Try.prog w' = .ok (.enter 49 args) w' := enters_of Try.func49 (by kernel_rfl) rfl
set_option maxRecDepth 100000 in
set_option maxHeartbeats 2000000 in
theorem bsearch_calls (A : Option Addr) (n c : Nat) (xs : List Mm) (y : Mm) (w : World) (hn : xs.length = n) (hr : Rd w A (cells6 xs)) (hm : n ≤ 1000000) (hs : (xs.map (·.m)).Pairwise Lt) :
    Calls Try.prog 69 #[.slice A n c, mval y, .func (.func 49) #[] #[]] w (SrchP (xs.map (·.m)) y.m w) := by
  have HN := Lib.hid hn
  have HR := Lib.hid hr
  have HS := Lib.hid hs
  have hp := pos_le (xs.map (·.m)) y.m
  rw [List.length_map, hn] at hp
  obtain ⟨P, HP⟩ : ∃ P, Hid (pos (xs.map (·.m)) y.m = P) := ⟨_, rfl⟩
  rw [HP.out] at hp
  have HEN := enters_cmp
  have HY := Lib.hid (fun x => compare_calls x y)
  have HYM : Hid (∃ z : Msg, z = y.m) := ⟨_, rfl⟩
  clear hn hr hs
  have HB1 := Lib.hid (below1 w (.cells y.cells.toArray 76))
  have HK1 := Lib.hid (heap_alloc_new w (.cells y.cells.toArray 76))
  unfold mval Mm.cells at *
  go_enter Try.func69, Try.ntmps69
  go_wp2_with fail
  generalize w.alloc _ = w1 at *
  have HZ1 := Lib.hid (Array.getElem?_eq_some_iff.1 HK1.out).1
  go_loopw [9, 10] (fun i j wr => ∃ a b : Nat, a ≤ P ∧ P ≤ b ∧ b ≤ n ∧ i = .int .i64 a ∧ j = .int .i64 b ∧ Below w1.heap.size w1 wr) (fun i j _ => ((intOf j) - (intOf i)).toNat)
  case atStart => exact ⟨0, n, by omega, hp, by omega, rfl, rfl, Below.refl _ _⟩
  case round =>
    obtain ⟨a, b, ha, hb, hbn, rfl, rfl, hbw⟩ := hrel
    have HBW := Lib.hid hbw
    clear hbw
    by_cases hlt : a < b
    · go_upto_region 5 with (fail)
      obtain ⟨m, he⟩ : ∃ m : Nat, ((a : Int) + (b : Int)) / 2 = (m : Int) := ⟨(a + b) / 2, by omega⟩
      rw [he]
      have hm1 : a ≤ m := by omega
      have hm2 : m < b := by omega
      clear he
      have hml : m < xs.length := by have := HN.out; omega
      have HLE := Lib.hid (HBW.out.trans (Below.refl _ _))
      have HR1 := HR.out.below (HB1.out.trans (HBW.out.mono HB1.out.size))
      obtain ⟨g, off, e, hgl, x0, x1, x2, x3, x4, x5⟩ := rd6 HR1 m hml
      subst e
      clear HR1 HLE
      have HC := Lib.hid (HY.out xs[m])
      have hpl := pos_lt_map HS.out y.m hml
      rw [HP.out] at hpl
      have HPL := Lib.hid hpl
      clear hpl
      generalize xs[m] = z at *
      have mx0 : ∀ w', Below wr.heap.size wr w' → w'.cell? ⟨g, off + m * 6, none⟩ = some (.int .i64 z.m.a1) := fun w' h => (h.cell (p := ⟨g, off + m * 6, none⟩) hgl).trans x0
      have mx1 : ∀ w', Below wr.heap.size wr w' → w'.cell? ⟨g, off + m * 6 + 1, none⟩ = some (.int .i64 z.m.a2) := fun w' h => (h.cell (p := ⟨g, off + m * 6 + 1, none⟩) hgl).trans x1
      have mx2 : ∀ w', Below wr.heap.size wr w' → w'.cell? ⟨g, off + m * 6 + 2, none⟩ = some (.int .i64 z.m.i1) := fun w' h => (h.cell (p := ⟨g, off + m * 6 + 2, none⟩) hgl).trans x2
      have mx3 : ∀ w', Below wr.heap.size wr w' → w'.cell? ⟨g, off + m * 6 + 3, none⟩ = some (.int .i64 z.m.i2) := fun w' h => (h.cell (p := ⟨g, off + m * 6 + 3, none⟩) hgl).trans x3
      have mx4 : ∀ w', Below wr.heap.size wr w' → w'.cell? ⟨g, off + m * 6 + 4, none⟩ = some (.string z.m.me) := fun w' h => (h.cell (p := ⟨g, off + m * 6 + 4, none⟩) hgl).trans x4
      have mx5 : ∀ w', Below wr.heap.size wr w' → w'.cell? ⟨g, off + m * 6 + 5, none⟩ = some (.slice z.a z.m.ar.length z.c) := fun w' h => (h.cell (p := ⟨g, off + m * 6 + 5, none⟩) hgl).trans x5
      have my0 : ∀ w', Below wr.heap.size wr w' → w'.cell? ⟨w.heap.size, 0, none⟩ = some (.int .i64 y.m.a1) := fun w' h => (cell_of_row _ _ 0 _ _ _ ((h.block _ (Nat.lt_of_lt_of_le HZ1.out HBW.out.size)).trans ((HBW.out.block _ HZ1.out).trans HK1.out))).trans rfl
      have my1 : ∀ w', Below wr.heap.size wr w' → w'.cell? ⟨w.heap.size, 1, none⟩ = some (.int .i64 y.m.a2) := fun w' h => (cell_of_row _ _ 1 _ _ _ ((h.block _ (Nat.lt_of_lt_of_le HZ1.out HBW.out.size)).trans ((HBW.out.block _ HZ1.out).trans HK1.out))).trans rfl
      have my2 : ∀ w', Below wr.heap.size wr w' → w'.cell? ⟨w.heap.size, 2, none⟩ = some (.int .i64 y.m.i1) := fun w' h => (cell_of_row _ _ 2 _ _ _ ((h.block _ (Nat.lt_of_lt_of_le HZ1.out HBW.out.size)).trans ((HBW.out.block _ HZ1.out).trans HK1.out))).trans rfl
      have my3 : ∀ w', Below wr.heap.size wr w' → w'.cell? ⟨w.heap.size, 3, none⟩ = some (.int .i64 y.m.i2) := fun w' h => (cell_of_row _ _ 3 _ _ _ ((h.block _ (Nat.lt_of_lt_of_le HZ1.out HBW.out.size)).trans ((HBW.out.block _ HZ1.out).trans HK1.out))).trans rfl
      have my4 : ∀ w', Below wr.heap.size wr w' → w'.cell? ⟨w.heap.size, 4, none⟩ = some (.string y.m.me) := fun w' h => (cell_of_row _ _ 4 _ _ _ ((h.block _ (Nat.lt_of_lt_of_le HZ1.out HBW.out.size)).trans ((HBW.out.block _ HZ1.out).trans HK1.out))).trans rfl
      have my5 : ∀ w', Below wr.heap.size wr w' → w'.cell? ⟨w.heap.size, 5, none⟩ = some (.slice y.a y.m.ar.length y.c) := fun w' h => (cell_of_row _ _ 5 _ _ _ ((h.block _ (Nat.lt_of_lt_of_le HZ1.out HBW.out.size)).trans ((HBW.out.block _ HZ1.out).trans HK1.out))).trans rfl
      clear x0 x1 x2 x3 x4 x5 hgl
      have j0 : (0 : Int) ≤ (m : Int) := by omega
      have j1 : (m : Int) < (n : Int) := by omega
      by_cases hcm : cmpM z.m y.m < 0
      · have hmp : m < P := HPL.out.2 hcm
        go_region_held3 (fun w' => Below wr.heap.size wr w') (first | exact (Below.refl _ _).drew | assumption) (((with_reducible refine (HC.out _).mono ?_); rintro e w2 ⟨rfl, hb⟩; have hb2 := Below.trans (by assumption) (hb.mono (Below.size (by assumption))); clear hb))
        go_wp2_with fail
        have HB2 := Lib.hid (HBW.out.trans (hb2.mono HBW.out.size))
        go_roundw
        case rel => exact ⟨m + 1, b, by omega, by omega, by omega, by go_num, rfl, HB2.out⟩
        case measure => simp [intOf]; omega
      · have hmp : ¬ m < P := fun h => hcm (HPL.out.1 h)
        have hcd : decide (cmpM z.m y.m < 0) = false := decide_eq_false hcm
        go_region_held3 (fun w' => Below wr.heap.size wr w') (first | exact (Below.refl _ _).drew | assumption) (((with_reducible refine (HC.out _).mono ?_); rintro e w2 ⟨rfl, hb⟩; have hb2 := Below.trans (by assumption) (hb.mono (Below.size (by assumption))); clear hb))
        go_wp2_with fail
        have HB2 := Lib.hid (HBW.out.trans (hb2.mono HBW.out.size))
        go_roundw
        case rel => exact ⟨a, m, by omega, by omega, by omega, rfl, rfl, HB2.out⟩
        case measure => simp [intOf]; omega
    · obtain rfl : a = P := by omega
      obtain rfl : b = a := by omega
      by_cases hpn : b < n
      · have hml : b < xs.length := by have := HN.out; omega
        have HR1 := HR.out.below (HB1.out.trans (HBW.out.mono HB1.out.size))
        obtain ⟨g, off, e, hgl, x0, x1, x2, x3, x4, x5⟩ := rd6 HR1 b hml
        subst e
        clear HR1
        have HC := Lib.hid (HY.out xs[b])
        have HF : Hid (foundB (xs.map (·.m)) y.m = decide (cmpM xs[b].m y.m = 0)) := Lib.hid (by unfold foundB; rw [HP.out, List.getElem?_map, List.getElem?_eq_getElem hml]; rfl)
        generalize xs[b] = z at *
        have mx0 : ∀ w', Below wr.heap.size wr w' → w'.cell? ⟨g, off + b * 6, none⟩ = some (.int .i64 z.m.a1) := fun w' h => (h.cell (p := ⟨g, off + b * 6, none⟩) hgl).trans x0
        have mx1 : ∀ w', Below wr.heap.size wr w' → w'.cell? ⟨g, off + b * 6 + 1, none⟩ = some (.int .i64 z.m.a2) := fun w' h => (h.cell (p := ⟨g, off + b * 6 + 1, none⟩) hgl).trans x1
        have mx2 : ∀ w', Below wr.heap.size wr w' → w'.cell? ⟨g, off + b * 6 + 2, none⟩ = some (.int .i64 z.m.i1) := fun w' h => (h.cell (p := ⟨g, off + b * 6 + 2, none⟩) hgl).trans x2
        have mx3 : ∀ w', Below wr.heap.size wr w' → w'.cell? ⟨g, off + b * 6 + 3, none⟩ = some (.int .i64 z.m.i2) := fun w' h => (h.cell (p := ⟨g, off + b * 6 + 3, none⟩) hgl).trans x3
        have mx4 : ∀ w', Below wr.heap.size wr w' → w'.cell? ⟨g, off + b * 6 + 4, none⟩ = some (.string z.m.me) := fun w' h => (h.cell (p := ⟨g, off + b * 6 + 4, none⟩) hgl).trans x4
        have mx5 : ∀ w', Below wr.heap.size wr w' → w'.cell? ⟨g, off + b * 6 + 5, none⟩ = some (.slice z.a z.m.ar.length z.c) := fun w' h => (h.cell (p := ⟨g, off + b * 6 + 5, none⟩) hgl).trans x5
        have my0 : ∀ w', Below wr.heap.size wr w' → w'.cell? ⟨w.heap.size, 0, none⟩ = some (.int .i64 y.m.a1) := fun w' h => (cell_of_row _ _ 0 _ _ _ ((h.block _ (Nat.lt_of_lt_of_le HZ1.out HBW.out.size)).trans ((HBW.out.block _ HZ1.out).trans HK1.out))).trans rfl
        have my1 : ∀ w', Below wr.heap.size wr w' → w'.cell? ⟨w.heap.size, 1, none⟩ = some (.int .i64 y.m.a2) := fun w' h => (cell_of_row _ _ 1 _ _ _ ((h.block _ (Nat.lt_of_lt_of_le HZ1.out HBW.out.size)).trans ((HBW.out.block _ HZ1.out).trans HK1.out))).trans rfl
        have my2 : ∀ w', Below wr.heap.size wr w' → w'.cell? ⟨w.heap.size, 2, none⟩ = some (.int .i64 y.m.i1) := fun w' h => (cell_of_row _ _ 2 _ _ _ ((h.block _ (Nat.lt_of_lt_of_le HZ1.out HBW.out.size)).trans ((HBW.out.block _ HZ1.out).trans HK1.out))).trans rfl
        have my3 : ∀ w', Below wr.heap.size wr w' → w'.cell? ⟨w.heap.size, 3, none⟩ = some (.int .i64 y.m.i2) := fun w' h => (cell_of_row _ _ 3 _ _ _ ((h.block _ (Nat.lt_of_lt_of_le HZ1.out HBW.out.size)).trans ((HBW.out.block _ HZ1.out).trans HK1.out))).trans rfl
        have my4 : ∀ w', Below wr.heap.size wr w' → w'.cell? ⟨w.heap.size, 4, none⟩ = some (.string y.m.me) := fun w' h => (cell_of_row _ _ 4 _ _ _ ((h.block _ (Nat.lt_of_lt_of_le HZ1.out HBW.out.size)).trans ((HBW.out.block _ HZ1.out).trans HK1.out))).trans rfl
        have my5 : ∀ w', Below wr.heap.size wr w' → w'.cell? ⟨w.heap.size, 5, none⟩ = some (.slice y.a y.m.ar.length y.c) := fun w' h => (cell_of_row _ _ 5 _ _ _ ((h.block _ (Nat.lt_of_lt_of_le HZ1.out HBW.out.size)).trans ((HBW.out.block _ HZ1.out).trans HK1.out))).trans rfl
        clear x0 x1 x2 x3 x4 x5 hgl
        have j0 : (0 : Int) ≤ (b : Int) := by omega
        have j1 : (b : Int) < (n : Int) := by omega
        go_wp2_with fail
        go_region_held3 (fun w' => Below wr.heap.size wr w') (first | exact (Below.refl _ _).drew | assumption) (((with_reducible refine (HC.out _).mono ?_); rintro e w2 ⟨rfl, hb⟩; have hb2 := Below.trans (by assumption) (hb.mono (Below.size (by assumption))); clear hb))
        go_wp2_with fail
        have HB2 := Lib.hid (HB1.out.trans ((HBW.out.trans (hb2.mono HBW.out.size)).mono HB1.out.size))
        go_ret2
        exact ⟨by rw [HP.out, HF.out]; first | rfl | (simp; done), HB2.out⟩
      · obtain rfl : b = n := by omega
        have HF : Hid (foundB (xs.map (·.m)) y.m = false) := Lib.hid (by unfold foundB; rw [HP.out, List.getElem?_eq_none (by rw [List.length_map, HN.out]; exact Nat.le_refl _)])
        go_wp2_with fail
        go_quiet (fail)
        have HB2 := Lib.hid (HB1.out.trans (HBW.out.mono HB1.out.size))
        go_wp2_with fail
        go_ret2
        exact ⟨by rw [HP.out, HF.out]; rfl, blw_drewN HB2.out _⟩
/-- a box: block g holds its slice -/
theorem search_calls (g n c : Nat) (A : Option Addr) (xs : List Mm) (y : Mm) (w : World) (hg : w.heap[g]? = some (.cells #[.slice A n c] 74 (0, 0))) (hn : xs.length = n) (hr : Rd w A (cells6 xs)) (hm : n ≤ 1000000) (hs : (xs.map (·.m)).Pairwise Lt) :
    Calls Try.prog 41 #[.pointer (some ⟨g, 0, none⟩), mval y] w (SrchP (xs.map (·.m)) y.m w) := by
  have HB1 := Lib.hid (below1 w (.cells y.cells.toArray 76))
  have HK1 := Lib.hid (heap_alloc_new w (.cells y.cells.toArray 76))
  have hz := (Array.getElem?_eq_some_iff.1 hg).1
  have HS := Lib.hid (fun (w' : World) (hb : Below w.heap.size w w') => bsearch_calls A n c xs y w' hn (hr.below hb) hm hs)
  have HG := Lib.hid hg
  clear hg hn hr hs
  unfold mval Mm.cells SrchP at *
  go_enter Try.func41, Try.ntmps41
  go_wp2_with fail
  generalize w.alloc _ = wr at *
  have HZ1 := Lib.hid (Array.getElem?_eq_some_iff.1 HK1.out).1
  have my0 : ∀ w', Below wr.heap.size wr w' → w'.cell? ⟨w.heap.size, 0, none⟩ = some (.int .i64 y.m.a1) := fun w' h => (cell_of_row _ _ 0 _ _ _ ((h.block _ HZ1.out).trans HK1.out)).trans rfl
  have my1 : ∀ w', Below wr.heap.size wr w' → w'.cell? ⟨w.heap.size, 1, none⟩ = some (.int .i64 y.m.a2) := fun w' h => (cell_of_row _ _ 1 _ _ _ ((h.block _ HZ1.out).trans HK1.out)).trans rfl
  have my2 : ∀ w', Below wr.heap.size wr w' → w'.cell? ⟨w.heap.size, 2, none⟩ = some (.int .i64 y.m.i1) := fun w' h => (cell_of_row _ _ 2 _ _ _ ((h.block _ HZ1.out).trans HK1.out)).trans rfl
  have my3 : ∀ w', Below wr.heap.size wr w' → w'.cell? ⟨w.heap.size, 3, none⟩ = some (.int .i64 y.m.i2) := fun w' h => (cell_of_row _ _ 3 _ _ _ ((h.block _ HZ1.out).trans HK1.out)).trans rfl
  have my4 : ∀ w', Below wr.heap.size wr w' → w'.cell? ⟨w.heap.size, 4, none⟩ = some (.string y.m.me) := fun w' h => (cell_of_row _ _ 4 _ _ _ ((h.block _ HZ1.out).trans HK1.out)).trans rfl
  have my5 : ∀ w', Below wr.heap.size wr w' → w'.cell? ⟨w.heap.size, 5, none⟩ = some (.slice y.a y.m.ar.length y.c) := fun w' h => (cell_of_row _ _ 5 _ _ _ ((h.block _ HZ1.out).trans HK1.out)).trans rfl
  have mg : ∀ w', Below wr.heap.size wr w' → w'.cell? ⟨g, 0, none⟩ = some (.slice A n c) := fun w' h => (cell_of_row _ _ 0 _ _ _ ((h.block _ (Nat.lt_of_lt_of_le hz HB1.out.size)).trans ((HB1.out.block _ hz).trans HG.out))).trans rfl
  go_region_held3 (fun w' => Below wr.heap.size wr w') (first | exact (Below.refl _ _).drew | assumption) (((with_reducible refine (HS.out _ ?_).mono ?_); exact HB1.out.trans (Below.mono (by assumption) HB1.out.size); rintro e w2 ⟨rfl, hb⟩; have hb2 := Below.trans (by assumption) (hb.mono (Below.size (by assumption))); clear hb))
  go_wp2_with fail
  have HB2 := Lib.hid (HB1.out.trans (hb2.mono HB1.out.size))
  go_ret2
  exact ⟨rfl, HB2.out⟩
end Mb
end Go.Proofs.Ytddoepaplbnlcaa
