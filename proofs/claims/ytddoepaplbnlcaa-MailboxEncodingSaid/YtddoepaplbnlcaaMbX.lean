/- The walk of refmeshref46's Index. -/
import Derived.Test.YtddoepaplbnlcaaMbW
namespace Go.Proofs.Ytddoepaplbnlcaa
open Go.RowKit Go.Shelf
namespace Mb

theorem find_idx (xs : List Mm) (k : Msg) : (match find (xs.map (·.m)) k with | none => (-1 : Int) | some i => (i : Int)) = idxI xs (fun x => decide (Eq4 x.m k)) := by
  unfold find idxI
  rw [List.findIdx?_map]
  rfl
def IdxP (l : List Msg) (k : Msg) (w : World) (e : Ending) (w' : World) : Prop := e = .returned (.int .i64 (match find l k with | none => (-1 : Int) | some i => (i : Int))) ∧ Below w.heap.size w w'
set_option maxRecDepth 100000 in
set_option maxHeartbeats 2000000 in
theorem rindex_calls (A : Option Addr) (n c : Nat) (xs : List Mm) (a1 a2 i1 i2 : Int) (w : World) (hn : xs.length = n) (hr : Rd w A (cells6 xs)) (hm : n ≤ 9223372036854775807) :
    Calls Try.prog 85 #[.slice A n c, .agg #[.int .i64 a1, .int .i64 a2], .agg #[.int .i64 i1, .int .i64 i2]] w (IdxP (xs.map (·.m)) (key a1 a2 i1 i2) w) := by
  unfold IdxP
  rw [find_idx]
  have hb2 := below2 w (.cells #[.int .i64 a1, .int .i64 a2] 30) (.cells #[.int .i64 i1, .int .i64 i2] 30)
  have k0 : ((w.alloc (.cells #[.int .i64 a1, .int .i64 a2] 30)).alloc (.cells #[.int .i64 i1, .int .i64 i2] 30)).heap[w.heap.size]? = _ := (Below.heap_alloc _ _ _ (by simp)).trans (heap_alloc_new _ _)
  have k1 : ((w.alloc (.cells #[.int .i64 a1, .int .i64 a2] 30)).alloc (.cells #[.int .i64 i1, .int .i64 i2] 30)).heap[w.heap.size + 1]? = _ := heap_alloc2_new _ _ _
  have HN := Lib.hid hn
  have HR := Lib.hid (hr.below hb2)
  clear hn hr
  obtain ⟨pp, HPP⟩ : ∃ pp : Mm → Bool, Hid ((fun x : Mm => decide (Eq4 x.m (key a1 a2 i1 i2))) = pp) := ⟨fun x => decide (Eq4 x.m (key a1 a2 i1 i2)), rfl⟩
  have HPX : Hid (∀ x : Mm, pp x = true ↔ x.m.a1 = a1 ∧ x.m.a2 = a2 ∧ x.m.i1 = i1 ∧ x.m.i2 = i2) := Lib.hid fun x => by
    rw [← HPP.out]
    exact decide_eq_true_iff (p := Eq4 x.m (key a1 a2 i1 i2))
  rw [HPP.out]
  go_enter Try.func85, Try.ntmps85
  go_upto_region 1 with (fail)
  generalize ((w.alloc _).alloc _) = w2 at *
  have z0 := (Array.getElem?_eq_some_iff.1 k0).1
  have z1 := (Array.getElem?_eq_some_iff.1 k1).1
  have HB2 := Lib.hid hb2
  have HK := Lib.hid (And.intro k0 k1)
  clear hb2 k0 k1
  go_wp2_with fail
  go_loopw [7] (fun i wr => ∃ k : Nat, k ≤ n ∧ i = .int .i64 k ∧ (∀ x ∈ xs.take k, pp x = false) ∧ Below w2.heap.size w2 wr) (fun i _ => n - (intOf i).toNat)
  case atStart => exact ⟨0, by omega, rfl, by simp, Below.refl _ _⟩
  case round =>
    obtain ⟨k, hk, rfl, hall, hb⟩ := hrel
    have HA := Lib.hid hall
    have HB := Lib.hid hb
    clear hall hb
    have j0 : (0 : Int) ≤ (k : Int) := by omega
    by_cases hlt : k < n
    · have j1 : (k : Int) < (n : Int) := by omega
      have hkl : k < xs.length := by rw [HN.out]; exact hlt
      obtain ⟨b, off, e, hbl, x0, x1, x2, x3, x4, x5⟩ := rd6 (HR.out.below HB.out) k hkl
      subst e
      have HT := Lib.hid (take_more (P := fun x => pp x = false) hkl HA.out)
      have HS := Lib.hid (idxI_some (p := pp) hkl HA.out)
      have HPZ := Lib.hid (HPX.out xs[k])
      generalize xs[k] = z at *
      have m00 : wr.cell? ⟨w.heap.size, 0, none⟩ = some (.int .i64 a1) := (cell_of_row _ _ 0 _ _ _ ((HB.out.block _ z0).trans HK.out.1)).trans rfl
      have m01 : wr.cell? ⟨w.heap.size, 1, none⟩ = some (.int .i64 a2) := (cell_of_row _ _ 1 _ _ _ ((HB.out.block _ z0).trans HK.out.1)).trans rfl
      have m10 : wr.cell? ⟨w.heap.size + 1, 0, none⟩ = some (.int .i64 i1) := (cell_of_row _ _ 0 _ _ _ ((HB.out.block _ z1).trans HK.out.2)).trans rfl
      have m11 : wr.cell? ⟨w.heap.size + 1, 1, none⟩ = some (.int .i64 i2) := (cell_of_row _ _ 1 _ _ _ ((HB.out.block _ z1).trans HK.out.2)).trans rfl
      have heqa := eq_pair (z.m.a1, z.m.a2) (a1, a2)
      have heqi := eq_pair (z.m.i1, z.m.i2) (i1, i2)
      simp only at heqa heqi
      by_cases ha : (z.m.a1, z.m.a2) = (a1, a2)
      · rw [decide_eq_true ha] at heqa
        by_cases hi : (z.m.i1, z.m.i2) = (i1, i2)
        · rw [decide_eq_true hi] at heqi
          have HS2 := Lib.hid (HS.out (HPZ.out.2 (by simp only [Prod.mk.injEq] at ha hi; exact ⟨ha.1, ha.2, hi.1, hi.2⟩)))
          clear ha hi HT
          go_wp2_with fail
          go_quiet (fail)
          have HB3 := Lib.hid (HB2.out.trans ((blw_drewN HB.out nq).mono HB2.out.size))
          go_wp2_with fail
          go_ret
          exact ⟨by rw [HS2.out]; rfl, HB3.out⟩
        · rw [decide_eq_false hi] at heqi
          have HT2 := Lib.hid (HT.out (by
            rw [Bool.eq_false_iff]
            intro h
            have := HPZ.out.1 h
            exact hi (by rw [this.2.2.1, this.2.2.2])))
          clear ha hi HS
          go_wp2_with fail
          go_quiet (fail)
          have HB3 := Lib.hid (blw_drewN HB.out nq)
          go_wp2_with fail
          go_roundw
          case rel => exact ⟨k + 1, by omega, by go_num, HT2.out, HB3.out⟩
          case measure => simp [intOf]; omega
      · rw [decide_eq_false ha] at heqa
        have HT2 := Lib.hid (HT.out (by
          rw [Bool.eq_false_iff]
          intro h
          have := HPZ.out.1 h
          exact ha (by rw [this.1, this.2.1])))
        clear ha HS heqi
        go_wp2_with fail
        go_quiet (fail)
        have HB3 := Lib.hid (blw_drewN HB.out nq)
        go_wp2_with fail
        go_roundw
        case rel => exact ⟨k + 1, by omega, by go_num, HT2.out, HB3.out⟩
        case measure => simp [intOf]; omega
    · obtain rfl : k = n := by omega
      have HE : Hid (idxI xs pp = -1) := Lib.hid (idxI_none (by rw [← List.take_of_length_le (Nat.le_of_eq HN.out)]; exact HA.out))
      go_wp2_with fail
      go_ret
      exact ⟨by rw [HE.out]; rfl, HB2.out.trans (HB.out.mono HB2.out.size)⟩
end Mb
end Go.Proofs.Ytddoepaplbnlcaa
