/- The walks of Choose, Find. -/
import Derived.Test.YtddoepaplbnlcaaMbN
namespace Go.Proofs.Ytddoepaplbnlcaa
open Go.RowKit Go.Shelf
namespace Mb

theorem find_found {l : List Msg} (h : Inv l) (k : Msg) : find l k = if foundB l k = true then some (pos l k) else none := by
  rw [find_pos h k]
  unfold foundB
  by_cases hp : pos l k < l.length
  · rw [dif_pos hp, List.getElem?_eq_getElem hp]
    simp
  · rw [dif_neg hp, List.getElem?_eq_none (by omega)]
    rfl
theorem found_lt {l : List Msg} {k : Msg} (h : foundB l k = true) : pos l k < l.length := by
  unfold foundB at h
  cases hg : l[pos l k]? with
  | none => rw [hg] at h; cases h
  | some x => exact (List.getElem?_eq_some_iff.1 hg).1
/-- what Find answers -/
def FindP (l : List Msg) (k : Msg) (w : World) (e : Ending) (w' : World) : Prop :=
  Below w.heap.size w w' ∧ match find l k with
  | none => e = .returned (.tuple #[.string ⟨#[]⟩, .slice none 0 0, .bool false])
  | some i => ∃ hi : i < l.length, ∃ X c, e = .returned (.tuple #[.string l[i].me, .slice X l[i].ar.length c, .bool true]) ∧ Rd w' X (l[i].ar.map (Value.int .i64))
set_option maxRecDepth 100000 in
set_option maxHeartbeats 2000000 in
theorem find_calls (K : List Nat) (B g : Nat) (l : List Msg) (a1 a2 i1 i2 : Int) (w : World) (h : Bx K B g l w) :
    Calls Try.prog 18 #[.pointer (some ⟨g, 0, none⟩), .agg #[.int .i64 a1, .int .i64 a2], .agg #[.int .i64 i1, .int .i64 i2]] w (FindP l (key a1 a2 i1 i2) w) := by
  obtain ⟨N, A, n, c, xs, hbx, hl, hi, _⟩ := h
  have hb2 := below2 w (.cells #[.int .i64 a1, .int .i64 a2] 30) (.cells #[.int .i64 i1, .int .i64 i2] 30)
  have k0 : ((w.alloc (.cells #[.int .i64 a1, .int .i64 a2] 30)).alloc (.cells #[.int .i64 i1, .int .i64 i2] 30)).heap[w.heap.size]? = _ := (Below.heap_alloc _ _ _ (by simp)).trans (heap_alloc_new _ _)
  have k1 : ((w.alloc (.cells #[.int .i64 a1, .int .i64 a2] 30)).alloc (.cells #[.int .i64 i1, .int .i64 i2] 30)).heap[w.heap.size + 1]? = _ := heap_alloc2_new _ _ _
  have hnl : n = l.length := by rw [← hl, List.length_map]; exact hbx.hn.symm
  have hn1 : n ≤ 1024 := by rw [hnl]; exact hi.n
  have HF := Lib.hid (find_found hi (key a1 a2 i1 i2))
  have HX := Lib.hid hbx
  have HL := Lib.hid hl
  have HI := Lib.hid hi
  have HNL := Lib.hid hnl
  clear hbx hl hi hnl
  go_enter Try.func18, Try.ntmps18
  go_upto_region 1 with (fail)
  generalize ((w.alloc _).alloc _) = w2 at *
  have m00 : w2.cell? ⟨w.heap.size, 0, none⟩ = some (.int .i64 a1) := (cell_of_row _ _ 0 _ _ _ k0).trans rfl
  have m01 : w2.cell? ⟨w.heap.size, 1, none⟩ = some (.int .i64 a2) := (cell_of_row _ _ 1 _ _ _ k0).trans rfl
  have m10 : w2.cell? ⟨w.heap.size + 1, 0, none⟩ = some (.int .i64 i1) := (cell_of_row _ _ 0 _ _ _ k1).trans rfl
  have m11 : w2.cell? ⟨w.heap.size + 1, 1, none⟩ = some (.int .i64 i2) := (cell_of_row _ _ 1 _ _ _ k1).trans rfl
  have HB2 := Lib.hid hb2
  have HX2 := Lib.hid (HX.out.below hb2)
  have g2 : w2.cell? ⟨g, 0, none⟩ = some (.slice A n c) := (cell_of_row _ _ 0 _ _ _ HX2.out.hd).trans rfl
  have HS := Lib.hid (search_calls g n c A xs ⟨key a1 a2 i1 i2, none, 0⟩ w2 HX2.out.hd HX2.out.hn HX2.out.rd (by omega) (by rw [HL.out]; exact HI.out.s))
  unfold mval Mm.cells SrchP key at HS
  simp only [List.length_nil] at HS
  rw [HL.out, show (ByteArray.empty : ByteArray) = ⟨#[]⟩ from rfl] at HS
  obtain ⟨P, HP⟩ : ∃ P, Hid (pos l (key a1 a2 i1 i2) = P) := ⟨_, rfl⟩
  obtain ⟨fb, HFB⟩ : ∃ P, Hid (foundB l (key a1 a2 i1 i2) = P) := ⟨_, rfl⟩
  have hP := HP.out
  have hFB := HFB.out
  unfold key at hP hFB
  rw [show (ByteArray.empty : ByteArray) = ⟨#[]⟩ from rfl] at hP hFB
  rw [hP, hFB] at HS
  clear hb2 k0 k1 hP hFB
  cases fb with
  | false =>
    have HP2 : Hid (∀ w', Below w.heap.size w w' → FindP l (key a1 a2 i1 i2) w (.returned (.tuple #[.string ⟨#[]⟩, .slice none 0 0, .bool false])) w') := Lib.hid (fun w' hb => by
      refine ⟨hb, ?_⟩
      rw [HF.out, HFB.out, if_neg (by simp)])
    go_wp2_with ((with_reducible refine HS.out.mono ?_); rintro e w3 ⟨rfl, hb⟩; have HB3 := Lib.hid (HB2.out.trans (hb.mono HB2.out.size)); clear hb)
    go_ret3
    exact HP2.out _ HB3.out
  | true =>
    go_upto_region 4 with (((with_reducible refine HS.out.mono ?_); rintro e w3 ⟨rfl, hb⟩; have HB3 := Lib.hid hb; clear hb))
    have hPl : P < l.length := by rw [← HP.out]; exact found_lt HFB.out
    have HX3 := Lib.hid (HX2.out.below HB3.out)
    have hPx : P < xs.length := by rw [HX.out.hn, HNL.out]; exact hPl
    obtain ⟨b, off, e, hbl, _, _, _, _, x4, x5⟩ := rd6 HX3.out.rd P hPx
    subst e
    have hok := (HX3.out.ok _ (List.getElem_mem hPx))
    have hml : l[P] = xs[P].m := by simp only [← HL.out, List.getElem_map]
    have hzl : xs[P].m.ar.length ≤ 1000000 := by
      have hv := HI.out.v _ (List.getElem_mem hPl)
      rw [hml] at hv
      unfold valid at hv
      simp at hv
      omega
    have HCL := Lib.hid (fun (w' : World) (hb : Below w3.heap.size w3 w') => cloneI_calls xs[P].a xs[P].m.ar.length xs[P].c xs[P].m.ar w' rfl (hok.rd.below hb) hzl)
    have HW3 := Lib.hid (HB2.out.trans (HB3.out.mono HB2.out.size))
    have HP2 : Hid (∀ w' X c, Below w.heap.size w w' → Rd w' X (xs[P].m.ar.map (Value.int .i64)) → FindP l (key a1 a2 i1 i2) w (.returned (.tuple #[.string xs[P].m.me, .slice X xs[P].m.ar.length c, .bool true])) w') := Lib.hid (fun w' X c hb hr => by
      refine ⟨hb, ?_⟩
      rw [HF.out, HFB.out, if_pos rfl, HP.out]
      exact ⟨hPl, X, c, by rw [hml], by rw [hml]; exact hr⟩)
    generalize xs[P] = z at *
    have mx4 : ∀ w', Below w3.heap.size w3 w' → w'.cell? ⟨b, off + P * 6 + 4, none⟩ = some (.string z.m.me) := fun w' h => (h.cell (p := ⟨b, off + P * 6 + 4, none⟩) hbl).trans x4
    have mx5 : ∀ w', Below w3.heap.size w3 w' → w'.cell? ⟨b, off + P * 6 + 5, none⟩ = some (.slice z.a z.m.ar.length z.c) := fun w' h => (h.cell (p := ⟨b, off + P * 6 + 5, none⟩) hbl).trans x5
    have mg : ∀ w', Below w3.heap.size w3 w' → w'.cell? ⟨g, 0, none⟩ = some (.slice (some ⟨b, off, none⟩) n c) := fun w' h => (cell_of_row _ _ 0 _ _ _ ((h.block _ HX3.out.lt).trans HX3.out.hd)).trans rfl
    have j0 : (0 : Int) ≤ (P : Int) := by omega
    have j1 : (P : Int) < (n : Int) := by have := HNL.out; omega
    clear x4 x5 hok m00 m01 m10 m11 g2 hml
    go_region_held3 (fun w' => Below w3.heap.size w3 w') (first | exact (Below.refl _ _).drew | assumption) (((with_reducible refine (HCL.out _ (by assumption)).mono ?_); rintro e w4 ⟨X, cx, rfl, hown, hb⟩; have hb4 := Below.trans (by assumption) (hb.mono (Below.size (by assumption)))))
    go_wp2_with fail
    have hX := own_form hown
    obtain ⟨_, _, e, _, _, _, hr⟩ := hX
    cases e
    have HQ := Lib.hid (HP2.out w4 X cx (HW3.out.trans (hb4.mono HW3.out.size)) hr)
    clear hown hb hr
    go_ret3
    exact HQ.out
end Mb
end Go.Proofs.Ytddoepaplbnlcaa
