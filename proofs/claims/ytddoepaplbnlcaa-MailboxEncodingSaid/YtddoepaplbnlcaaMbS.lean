/- The walk of Actors. -/
import Derived.Test.YtddoepaplbnlcaaMbR
namespace Go.Proofs.Ytddoepaplbnlcaa
open Go.RowKit Go.Shelf
namespace Mb

def actL (l : List Msg) : List (Int × Int) := l.map fun x => (x.a1, x.a2)
theorem actL_take (l : List Msg) (k : Nat) (hk : k < l.length) : actL (l.take (k + 1)) = actL (l.take k) ++ [(l[k].a1, l[k].a2)] := by
  unfold actL
  rw [List.take_succ_eq_append_getElem hk, List.map_append]
  rfl
set_option maxRecDepth 100000 in
set_option maxHeartbeats 4000000 in
theorem actors_calls (K : List Nat) (B g : Nat) (l : List Msg) (w : World) (h : Bx K B g l w) :
    Calls Try.prog 23 #[.pointer (some ⟨g, 0, none⟩)] w (NewI (actorsL l) w) := by
  obtain ⟨N, A, n, c, xs, hbx, hl, hi, _⟩ := h
  have hnl : n = l.length := by rw [← hl, List.length_map]; exact hbx.hn.symm
  have hn1 : n ≤ 1024 := by rw [hnl]; exact hi.n
  have HL := Lib.hid hl
  have HNL := Lib.hid hnl
  have HX := Lib.hid hbx
  have g1 : w.cell? ⟨g, 0, none⟩ = some (.slice A n c) := (cell_of_row _ _ 0 _ _ _ hbx.hd).trans rfl
  clear hl hi hnl hbx
  go_enter Try.func23, Try.ntmps23
  go_wp2_with fail
  go_loopw [3, 5, 11] (fun v _ i wr => ∃ k : Nat, k ≤ n ∧ i = .int .i64 k ∧ wr.ownsRow w.heap.size 30 2 v (actL (l.take k)).length (cells2 (actL (l.take k))) ∧ Below w.heap.size w wr) (fun _ _ i _ => n - (intOf i).toNat)
  case atStart => exact ⟨0, by omega, rfl, ⟨rfl, .inl ⟨rfl, rfl⟩⟩, Below.refl _ _⟩
  case round =>
    obtain ⟨k, hk, rfl, hown, hbw⟩ := hrel
    have HO := Lib.hid hown
    have HBW := Lib.hid hbw
    clear hown hbw
    have j0 : (0 : Int) ≤ (k : Int) := by omega
    by_cases hlt : k < n
    · have j1 : (k : Int) < (n : Int) := by omega
      have hkx : k < xs.length := by rw [HX.out.hn]; exact hlt
      have hkl : k < l.length := by rw [← HNL.out]; exact hlt
      obtain ⟨b, off, e, hbl, x0, x1, x2, x3, x4, x5⟩ := rd6 (HX.out.rd.below HBW.out) k hkx
      subst e
      have hml : l[k] = xs[k].m := by simp only [← HL.out, List.getElem_map]
      have HT := Lib.hid (actL_take l k hkl)
      rw [hml] at HT
      clear hml
      generalize xs[k] = z at *
      obtain ⟨len, HLEN⟩ : ∃ y, Hid ((actL (l.take k)).length = y) := ⟨_, rfl⟩
      have hlen : len ≤ 1024 := by
        have h1 : (actL (l.take k)).length = (l.take k).length := by unfold actL; rw [List.length_map]
        rw [HLEN.out, List.length_take] at h1
        omega
      rw [HLEN.out] at HO
      have HO2 := Lib.hid (own_belowS HO.out (below2 wr (.cells #[.int .i64 z.m.a1, .int .i64 z.m.a2, .int .i64 z.m.i1, .int .i64 z.m.i2, .string z.m.me, .slice z.a z.m.ar.length z.c] 76) (.cells #[.int .i64 z.m.a1, .int .i64 z.m.a2] 30)))
      have hr2 := own_one2 (wr.alloc (.cells #[.int .i64 z.m.a1, .int .i64 z.m.a2, .int .i64 z.m.i1, .int .i64 z.m.i2, .string z.m.me, .slice z.a z.m.ar.length z.c] 76)) 30 z.m.a1 z.m.a2
      rw [World.size_alloc] at hr2
      have HR2 := Lib.hid hr2
      clear hr2
      have HB2 := Lib.hid (HBW.out.trans ((below2 wr (.cells #[.int .i64 z.m.a1, .int .i64 z.m.a2, .int .i64 z.m.i1, .int .i64 z.m.i2, .string z.m.me, .slice z.a z.m.ar.length z.c] 76) (.cells #[.int .i64 z.m.a1, .int .i64 z.m.a2] 30)).mono HBW.out.size))
      have HZZ : Hid (w.heap.size ≤ ((wr.alloc (.cells #[.int .i64 z.m.a1, .int .i64 z.m.a2, .int .i64 z.m.i1, .int .i64 z.m.i2, .string z.m.me, .slice z.a z.m.ar.length z.c] 76)).alloc (.cells #[.int .i64 z.m.a1, .int .i64 z.m.a2] 30)).heap.size) := by have := HBW.out.size; show _ ≤ _; simp; omega
      go_wp2_with (at_builtin; refine wpList_appS _ (by rfl) (.tmp 15) (.tmp 18) 53 (by rfl) w.heap.size 30 zI 2 16 Try.underlying53 info_i rfl (by omega) _ len (cells2 (actL (l.take k))) (by rfl) HO2.out (some ⟨wr.heap.size + 1, 0, none⟩) 1 1 (idC (z.m.a1, z.m.a2)) (by rfl) rfl HR2.out (idC_one _) (by unfold maxLen; omega) (by omega) HZZ.out ?_; intro X cap w5 hown happ; have HO5 := Lib.hid hown; have HA5 := Lib.hid happ; clear hown happ)
      have HT5 : Hid (w5.ownsRow w.heap.size 30 2 (.slice X (len + 1) cap) (actL (l.take (k + 1))).length (cells2 (actL (l.take (k + 1))))) := Lib.hid (by
        rw [HT.out, cells2_app, List.length_append, HLEN.out]
        exact HO5.out)
      have HB5 : Hid (Below w.heap.size w w5) := HB2.out.trans (HA5.out.belowS HO2.out HZZ.out)
      go_roundw
      case rel => exact ⟨k + 1, by omega, by go_num, HT5.out, HB5.out⟩
      case measure => simp [intOf]; omega
    · obtain rfl : k = n := by omega
      rw [List.take_of_length_le (Nat.le_of_eq HNL.out.symm)] at HO
      obtain ⟨X, cap, hv, hcap, _⟩ := own_formS HO.out
      subst hv
      have hln : (actL l).length = k := by unfold actL; rw [List.length_map, HNL.out]
      rw [hln] at HO
      have HC := Lib.hid (compact_calls w.heap.size k cap X (actL l) wr HO.out (by omega) hln)
      have HF : Hid (∀ e w', CompP w.heap.size (.slice X k cap) (dedup (actL l)) wr e w' → NewI (actorsL l) w e w') := Lib.hid (by
        rintro e w' ⟨A', c', rfl, h1, h2⟩
        exact ⟨A', c', rfl, h1, HBW.out.trans (h2.belowS HO.out HBW.out.size)⟩)
      have HG : Hid (Calls Try.prog 45 #[.slice X k cap] wr fun e w' => NewI (actorsL l) w e w' ∧ ∃ A' n' c', e = .returned (.slice A' n' c')) := Lib.hid (HC.out.mono fun e w' h => ⟨HF.out e w' h, by obtain ⟨A', c', rfl, _⟩ := h; exact ⟨A', _, c', rfl⟩⟩)
      rw [hln]
      clear hln
      go_wp2_with ((with_reducible refine HG.out.mono ?_); rintro e w5 ⟨hne, A', n', c', rfl⟩; have HN := Lib.hid hne; clear hne)
      go_ret
      exact HN.out
end Mb
end Go.Proofs.Ytddoepaplbnlcaa
