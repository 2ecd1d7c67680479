/- The walks of Of and Actors. -/
import Derived.Test.YtddoepaplbnlcaaMbQ
namespace Go.Proofs.Ytddoepaplbnlcaa
open Go.RowKit Go.Shelf
namespace Mb

/-- a new row of identities -/
def NewI (l : List (Int × Int)) (w : World) (e : Ending) (w' : World) : Prop := ∃ X c, e = .returned (.slice X l.length c) ∧ w'.ownsRow w.heap.size 30 2 (.slice X l.length c) l.length (cells2 l) ∧ Below w.heap.size w w'
theorem ofL_take (l : List Msg) (a1 a2 : Int) (k : Nat) (hk : k < l.length) : ofL (l.take (k + 1)) a1 a2 = ofL (l.take k) a1 a2 ++ (if l[k].a1 = a1 ∧ l[k].a2 = a2 then [(l[k].i1, l[k].i2)] else []) := by
  unfold ofL
  rw [filter_take_succ _ _ _ hk, List.map_append]
  congr 1
  unfold isA
  by_cases h : l[k].a1 = a1 ∧ l[k].a2 = a2 <;> simp [h]
theorem cells2_app (l l' : List (Int × Int)) : cells2 (l ++ l') = cells2 l ++ cells2 l' := by simp [cells2]
theorem ofL_len (l : List Msg) (a1 a2 : Int) : (ofL l a1 a2).length ≤ l.length := by
  unfold ofL; rw [List.length_map]; exact List.length_filter_le _ _
theorem own_one2 (W : World) (T : TypeId) (a b : Int) : Rd (W.alloc (.cells #[.int .i64 a, .int .i64 b] T)) (some ⟨W.heap.size, 0, none⟩) (idC (a, b)) := Rd.mk fun i v hv => by
  rw [Nat.zero_add]
  exact (cell_of_row _ _ i _ _ _ (heap_alloc_new W _)).trans (by simpa [idC] using hv)
theorem idC_one (x : Int × Int) : ∀ u ∈ idC x, u.oneCell' = true := by
  intro u hu
  simp only [idC, List.mem_cons, List.not_mem_nil, or_false] at hu
  rcases hu with rfl | rfl <;> rfl
theorem rd_belowS {B : Nat} {w w' : World} {e : TypeId} {sz n : Nat} {v : Value} {xs : List Value} (h : w.ownsRow B e sz v n xs) (hb : Below w.heap.size w w') : w'.ownsRow B e sz v n xs := own_belowS h hb
set_option maxRecDepth 100000 in
set_option maxHeartbeats 4000000 in
theorem of_calls (K : List Nat) (B g : Nat) (l : List Msg) (a1 a2 : Int) (w : World) (h : Bx K B g l w) :
    Calls Try.prog 24 #[.pointer (some ⟨g, 0, none⟩), .agg #[.int .i64 a1, .int .i64 a2]] w (NewI (ofL l a1 a2) w) := by
  obtain ⟨N, A, n, c, xs, hbx, hl, hi, _⟩ := h
  have hb1 := below1 w (.cells #[.int .i64 a1, .int .i64 a2] 30)
  have k0 := heap_alloc_new w (.cells #[.int .i64 a1, .int .i64 a2] 30)
  have hnl : n = l.length := by rw [← hl, List.length_map]; exact hbx.hn.symm
  have hn1 : n ≤ 1024 := by rw [hnl]; exact hi.n
  have HL := Lib.hid hl
  have HNL := Lib.hid hnl
  have HX := Lib.hid hbx
  clear hl hi hnl hbx
  go_enter Try.func24, Try.ntmps24
  go_upto_region 2 with (fail)
  generalize w.alloc _ = w1 at *
  have HB1 := Lib.hid hb1
  have HK1 := Lib.hid k0
  have hz1 := (Array.getElem?_eq_some_iff.1 k0).1
  have HX1 := Lib.hid (HX.out.below hb1)
  have g1 : w1.cell? ⟨g, 0, none⟩ = some (.slice A n c) := (cell_of_row _ _ 0 _ _ _ HX1.out.hd).trans rfl
  clear hb1 k0
  go_wp2_with fail
  go_loopw [5, 7, 13] (fun v _ i wr => ∃ k : Nat, k ≤ n ∧ i = .int .i64 k ∧ wr.ownsRow w1.heap.size 30 2 v (ofL (l.take k) a1 a2).length (cells2 (ofL (l.take k) a1 a2)) ∧ Below w1.heap.size w1 wr) (fun _ _ i _ => n - (intOf i).toNat)
  case atStart => exact ⟨0, by omega, rfl, ⟨rfl, .inl ⟨rfl, rfl⟩⟩, Below.refl _ _⟩
  case round =>
    obtain ⟨k, hk, rfl, hown, hbw⟩ := hrel
    have HO := Lib.hid hown
    have HBW := Lib.hid hbw
    clear hown hbw
    have j0 : (0 : Int) ≤ (k : Int) := by omega
    by_cases hlt : k < n
    · have j1 : (k : Int) < (n : Int) := by omega
      have hkx : k < xs.length := by rw [HX1.out.hn]; exact hlt
      have hkl : k < l.length := by rw [← HNL.out]; exact hlt
      obtain ⟨b, off, e, hbl, x0, x1, x2, x3, x4, x5⟩ := rd6 (HX1.out.rd.below HBW.out) k hkx
      subst e
      have hml : l[k] = xs[k].m := by simp only [← HL.out, List.getElem_map]
      have HT := Lib.hid (ofL_take l a1 a2 k hkl)
      rw [hml] at HT
      generalize xs[k] = z at *
      have hz0 : w.heap.size < wr.heap.size := Nat.lt_of_lt_of_le hz1 HBW.out.size
      have y0 : ∀ o, (wr.alloc o).cell? ⟨w.heap.size, 0, none⟩ = some (.int .i64 a1) := fun o => (World.cell?_alloc_lt wr o ⟨w.heap.size, 0, none⟩ hz0).trans ((cell_of_row _ _ 0 _ _ _ ((HBW.out.block _ hz1).trans HK1.out)).trans rfl)
      have y1 : ∀ o, (wr.alloc o).cell? ⟨w.heap.size, 1, none⟩ = some (.int .i64 a2) := fun o => (World.cell?_alloc_lt wr o ⟨w.heap.size, 1, none⟩ hz0).trans ((cell_of_row _ _ 1 _ _ _ ((HBW.out.block _ hz1).trans HK1.out)).trans rfl)
      obtain ⟨len, HLEN⟩ : ∃ y, Hid ((ofL (l.take k) a1 a2).length = y) := ⟨_, rfl⟩
      have hlen : len ≤ 1024 := by
        have h1 := ofL_len (l.take k) a1 a2
        rw [HLEN.out, List.length_take] at h1
        omega
      rw [HLEN.out] at HO
      by_cases hq : z.m.a1 = a1 ∧ z.m.a2 = a2
      · obtain ⟨q1, q2⟩ := hq
        rw [if_pos ⟨q1, q2⟩] at HT
        subst q1 q2
        clear hml
        have HO2 := Lib.hid (own_belowS HO.out (below2 wr (.cells #[.int .i64 z.m.a1, .int .i64 z.m.a2, .int .i64 z.m.i1, .int .i64 z.m.i2, .string z.m.me, .slice z.a z.m.ar.length z.c] 76) (.cells #[.int .i64 z.m.i1, .int .i64 z.m.i2] 30)))
        have hr2 := own_one2 (wr.alloc (.cells #[.int .i64 z.m.a1, .int .i64 z.m.a2, .int .i64 z.m.i1, .int .i64 z.m.i2, .string z.m.me, .slice z.a z.m.ar.length z.c] 76)) 30 z.m.i1 z.m.i2
        rw [World.size_alloc] at hr2
        have HR2 := Lib.hid hr2
        clear hr2
        have HB2 := Lib.hid (HBW.out.trans ((below2 wr (.cells #[.int .i64 z.m.a1, .int .i64 z.m.a2, .int .i64 z.m.i1, .int .i64 z.m.i2, .string z.m.me, .slice z.a z.m.ar.length z.c] 76) (.cells #[.int .i64 z.m.i1, .int .i64 z.m.i2] 30)).mono HBW.out.size))
        have HZZ : Hid (w1.heap.size ≤ ((wr.alloc (.cells #[.int .i64 z.m.a1, .int .i64 z.m.a2, .int .i64 z.m.i1, .int .i64 z.m.i2, .string z.m.me, .slice z.a z.m.ar.length z.c] 76)).alloc (.cells #[.int .i64 z.m.i1, .int .i64 z.m.i2] 30)).heap.size) := by have := HBW.out.size; show _ ≤ _; simp; omega
        go_wp2_with (at_builtin; refine wpList_appS _ (by rfl) (.tmp 21) (.tmp 24) 53 (by rfl) w1.heap.size 30 zI 2 16 Try.underlying53 info_i rfl (by omega) _ len (cells2 (ofL (l.take k) z.m.a1 z.m.a2)) (by rfl) HO2.out (some ⟨wr.heap.size + 1, 0, none⟩) 1 1 (idC (z.m.i1, z.m.i2)) (by rfl) rfl HR2.out (idC_one _) (by unfold maxLen; omega) (by omega) HZZ.out ?_; intro X cap w5 hown happ; have HO5 := Lib.hid hown; have HA5 := Lib.hid happ; clear hown happ)
        have HT5 : Hid (w5.ownsRow w1.heap.size 30 2 (.slice X (len + 1) cap) (ofL (l.take (k + 1)) z.m.a1 z.m.a2).length (cells2 (ofL (l.take (k + 1)) z.m.a1 z.m.a2))) := Lib.hid (by
          rw [HT.out, cells2_app, List.length_append, HLEN.out]
          exact HO5.out)
        have HB5 : Hid (Below w1.heap.size w1 w5) := HB2.out.trans (HA5.out.belowS HO2.out HZZ.out)
        go_roundw
        case rel => exact ⟨k + 1, by omega, by go_num, HT5.out, HB5.out⟩
        case measure => simp [intOf]; omega
      · rw [if_neg hq, List.append_nil] at HT
        have HO1 : Hid ((wr.alloc (.cells #[.int .i64 z.m.a1, .int .i64 z.m.a2, .int .i64 z.m.i1, .int .i64 z.m.i2, .string z.m.me, .slice z.a z.m.ar.length z.c] 76)).ownsRow w1.heap.size 30 2 u5 (ofL (l.take (k + 1)) a1 a2).length (cells2 (ofL (l.take (k + 1)) a1 a2))) := Lib.hid (by
          rw [HT.out, HLEN.out]
          exact own_belowS HO.out (below1 wr (.cells #[.int .i64 z.m.a1, .int .i64 z.m.a2, .int .i64 z.m.i1, .int .i64 z.m.i2, .string z.m.me, .slice z.a z.m.ar.length z.c] 76)))
        have HB2 := Lib.hid (HBW.out.trans ((below1 wr (.cells #[.int .i64 z.m.a1, .int .i64 z.m.a2, .int .i64 z.m.i1, .int .i64 z.m.i2, .string z.m.me, .slice z.a z.m.ar.length z.c] 76)).mono HBW.out.size))
        clear hml
        by_cases q1 : z.m.a1 = a1
        · have q2 : ¬ z.m.a2 = a2 := fun h => hq ⟨q1, h⟩
          have n2 : (z.m.a2 == a2) = false := by rw [beq_eq_false_iff_ne]; exact q2
          clear hq
          subst q1
          go_wp2_with fail
          go_roundw
          case rel => exact ⟨k + 1, by omega, by go_num, HO1.out, HB2.out⟩
          case measure => simp [intOf]; omega
        · have n1 : (z.m.a1 == a1) = false := by rw [beq_eq_false_iff_ne]; exact q1
          clear hq
          go_wp2_with fail
          go_roundw
          case rel => exact ⟨k + 1, by omega, by go_num, HO1.out, HB2.out⟩
          case measure => simp [intOf]; omega
    · obtain rfl : k = n := by omega
      have HB2 := Lib.hid (HB1.out.trans (HBW.out.mono HB1.out.size))
      rw [List.take_of_length_le (Nat.le_of_eq HNL.out.symm)] at HO
      obtain ⟨X, cap, hv, _⟩ := own_formS HO.out
      subst hv
      have HO3 := Lib.hid (own_baseS HO.out HB1.out.size)
      go_wp2_with fail
      go_ret
      exact ⟨X, cap, rfl, HO3.out, HB2.out⟩
end Mb
end Go.Proofs.Ytddoepaplbnlcaa
