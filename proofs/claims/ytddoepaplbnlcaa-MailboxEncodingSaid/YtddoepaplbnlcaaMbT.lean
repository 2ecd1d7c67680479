/- The walks of Take and TakeAll. -/
import Derived.Test.YtddoepaplbnlcaaMbS
namespace Go.Proofs.Ytddoepaplbnlcaa
open Go.RowKit Go.Shelf
namespace Mb

theorem Bx.sub {K K' : List Nat} {B g : Nat} {l : List Msg} {w : World} (h : Bx K B g l w) (hs : ∀ y ∈ K', y ∈ K) : Bx K' B g l w := by
  obtain ⟨N, A, n, c, xs, h1, h2, h3, h4⟩ := h
  exact ⟨N, A, n, c, xs, h1, h2, h3, fun y hy => h4 y (hs y hy)⟩
theorem BxW.sub {K K' : List Nat} {B g : Nat} {l : List Msg} {w w' : World} (h : BxW K B g l w w') (hs : ∀ y ∈ K', y ∈ K) : BxW K' B g l w w' := ⟨h.bx.sub hs, fun y hy => h.k y (hs y hy), h.b⟩
theorem Bx.stay {K : List Nat} {B g : Nat} {l : List Msg} {w w' : World} (h : Bx K B g l w) (hB : B ≤ w.heap.size) (hb : Below w.heap.size w w') : BxW K B g l w w' := ⟨h.below hb, Same.of_below h.lt hb, hb.mono hB⟩
/-- what Take answers -/
def TakeP (K : List Nat) (B g : Nat) (l : List Msg) (k : Msg) (w : World) (e : Ending) (w' : World) : Prop :=
  BxW K B g (takeL l k) w w' ∧ match find l k with
  | none => e = .returned (.tuple #[.slice none 0 0, .int .i64 6]) ∧ Below w.heap.size w w'
  | some i => ∃ hi : i < l.length, ∃ X c, e = .returned (.tuple #[.slice X l[i].ar.length c, .int .i64 0]) ∧ Rd w' X (l[i].ar.map (Value.int .i64))
set_option maxRecDepth 100000 in
set_option maxHeartbeats 2000000 in
theorem take_calls (K : List Nat) (B g : Nat) (l : List Msg) (a1 a2 i1 i2 : Int) (w : World) (h : Bx K B g l w) (hB : B ≤ w.heap.size) :
    Calls Try.prog 21 #[.pointer (some ⟨g, 0, none⟩), .agg #[.int .i64 a1, .int .i64 a2], .agg #[.int .i64 i1, .int .i64 i2]] w (TakeP K B g l (key a1 a2 i1 i2) w) := by
  have HB0 := Lib.hid h
  obtain ⟨N, A, n, c, xs, hbx, hl, hi, hK⟩ := h
  have hb2 := below2 w (.cells #[.int .i64 a1, .int .i64 a2] 30) (.cells #[.int .i64 i1, .int .i64 i2] 30)
  have k0 : ((w.alloc (.cells #[.int .i64 a1, .int .i64 a2] 30)).alloc (.cells #[.int .i64 i1, .int .i64 i2] 30)).heap[w.heap.size]? = _ := (Below.heap_alloc _ _ _ (by simp)).trans (heap_alloc_new _ _)
  have k1 : ((w.alloc (.cells #[.int .i64 a1, .int .i64 a2] 30)).alloc (.cells #[.int .i64 i1, .int .i64 i2] 30)).heap[w.heap.size + 1]? = _ := heap_alloc2_new _ _ _
  have hnl : n = l.length := by rw [← hl, List.length_map]; exact hbx.hn.symm
  have hn1 : n ≤ 1024 := by rw [hnl]; exact hi.n
  have HF := Lib.hid (find_found hi (key a1 a2 i1 i2))
  have HTI := Lib.hid (hi.take (key a1 a2 i1 i2))
  have HX := Lib.hid hbx
  have HL := Lib.hid hl
  have HI := Lib.hid hi
  have HKK := Lib.hid hK
  have HNL := Lib.hid hnl
  clear hbx hl hi hnl hK
  go_enter Try.func21, Try.ntmps21
  go_upto_region 1 with (fail)
  generalize ((w.alloc _).alloc _) = w2 at *
  have m00 : w2.cell? ⟨w.heap.size, 0, none⟩ = some (.int .i64 a1) := (cell_of_row _ _ 0 _ _ _ k0).trans rfl
  have m01 : w2.cell? ⟨w.heap.size, 1, none⟩ = some (.int .i64 a2) := (cell_of_row _ _ 1 _ _ _ k0).trans rfl
  have m10 : w2.cell? ⟨w.heap.size + 1, 0, none⟩ = some (.int .i64 i1) := (cell_of_row _ _ 0 _ _ _ k1).trans rfl
  have m11 : w2.cell? ⟨w.heap.size + 1, 1, none⟩ = some (.int .i64 i2) := (cell_of_row _ _ 1 _ _ _ k1).trans rfl
  have HB2 := Lib.hid hb2
  have HX2 := Lib.hid (HX.out.below hb2)
  have HS := Lib.hid (search_calls g n c A xs ⟨key a1 a2 i1 i2, none, 0⟩ w2 HX2.out.hd HX2.out.hn HX2.out.rd (by omega) (by rw [HL.out]; exact HI.out.s))
  unfold mval Mm.cells SrchP key at HS
  simp only [List.length_nil] at HS
  rw [HL.out, show (ByteArray.empty : ByteArray) = ⟨#[]⟩ from rfl] at HS
  obtain ⟨P, HP⟩ : ∃ P, Hid (pos l (key a1 a2 i1 i2) = P) := ⟨_, rfl⟩
  obtain ⟨fb, HFB⟩ : ∃ P, Hid (foundB l (key a1 a2 i1 i2) = P) := ⟨_, rfl⟩
  have hP := HP.out
  have hFB := HFB.out
  unfold key at hP hFB
  rw [show (ByteArray.empty : ByteArray) = ⟨#[]⟩ from rfl] at hP hFB
  rw [hP, hFB] at HS
  clear hb2 k0 k1 hP hFB
  cases fb with
  | false =>
    have HP2 : Hid (∀ w', Below w.heap.size w w' → TakeP K B g l (key a1 a2 i1 i2) w (.returned (.tuple #[.slice none 0 0, .int .i64 6])) w') := Lib.hid (fun w' hb => by
      have hf : find l (key a1 a2 i1 i2) = none := by rw [HF.out, HFB.out, if_neg (by simp)]
      have ht : takeL l (key a1 a2 i1 i2) = l := by unfold takeL; rw [hf]
      refine ⟨by rw [ht]; exact HB0.out.stay hB hb, ?_⟩
      rw [hf]
      exact ⟨rfl, hb⟩)
    go_wp2_with ((with_reducible refine HS.out.mono ?_); rintro e w3 ⟨rfl, hb⟩; have HB3 := Lib.hid (HB2.out.trans (hb.mono HB2.out.size)); clear hb)
    go_ret2
    exact HP2.out _ HB3.out
  | true =>
    go_upto_region 4 with (((with_reducible refine HS.out.mono ?_); rintro e w3 ⟨rfl, hb⟩; have HB3 := Lib.hid hb; clear hb))
    have hPl : P < l.length := by rw [← HP.out]; exact found_lt HFB.out
    have HX3 := Lib.hid (HX2.out.below HB3.out)
    have hPx : P < xs.length := by rw [HX.out.hn, HNL.out]; exact hPl
    have hPn : P < n := by rw [HNL.out]; exact hPl
    obtain ⟨b, off, e, hbl, _, _, _, _, x4, x5⟩ := rd6 HX3.out.rd P hPx
    obtain ⟨b', c', e', hBg, hnc, hcm, hgl⟩ := own_some HX3.out.ow (by omega)
    injection e' with e1 _ e3
    subst e3
    rw [e1] at e
    cases e
    subst e1
    have hok := HX.out.ok _ (List.getElem_mem hPx)
    have hml : l[P] = xs[P].m := by simp only [← HL.out, List.getElem_map]
    have HW3 := Lib.hid (HB2.out.trans (HB3.out.mono HB2.out.size))
    have g3 : w3.cell? ⟨g, 0, none⟩ = some (.slice (some ⟨b, 0, none⟩) n c) := (cell_of_row _ _ 0 _ _ _ HX3.out.hd).trans rfl
    have HD := Lib.hid (delete_calls B n c b P xs w3 HX3.out.ow (by omega) HX3.out.hn hPn)
    have HUP : Hid (∀ e w8, InsP B (.slice (some ⟨b, 0, none⟩) n c) (xs.take P ++ xs.drop (P + 1)) w3 e w8 → ∃ A' n' c', e = .returned (.slice A' n' c') ∧ w8.cell? ⟨g, 0, none⟩ = some (.slice (some ⟨b, 0, none⟩) n c) ∧ w8.frozen? ⟨g, 0, none⟩ = false ∧ TakeP K B g l (key a1 a2 i1 i2) w (.returned (.tuple #[.slice xs[P].a xs[P].m.ar.length xs[P].c, .int .i64 0])) (w8.setCell ⟨g, 0, none⟩ (.slice A' n' c'))) := Lib.hid (by
      rintro e w8 ⟨A', c', rfl, ho, ha⟩
      have hg8 : w8.heap[g]? = some (.cells #[.slice (some ⟨b, 0, none⟩) n c] 74 (0, 0)) := ha.old HX3.out.hd (fun e => by
        simp only [Value.ownBlock, Option.some.injEq] at e
        subst e
        exact HX3.out.apart 0 rfl)
      refine ⟨A', _, c', rfl, (cell_of_row _ _ 0 _ _ _ hg8).trans rfl, frozen_of_row _ _ _ _ _ hg8, ?_⟩
      have hf : find l (key a1 a2 i1 i2) = some P := by rw [HF.out, HFB.out, if_pos rfl, HP.out]
      have ht : takeL l (key a1 a2 i1 i2) = l.take P ++ l.drop (P + 1) := by unfold takeL; rw [hf]
      have hup := HX.out.upd (K := N ++ K) hB HW3.out ho ha (N' := N) (fun x hx => ?_) (fun y hy => ⟨Nat.lt_of_lt_of_le (HX.out.nn y hy).1 HW3.out.size, .inl hy⟩) (l := takeL l (key a1 a2 i1 i2)) ?_ HTI.out (fun y hy => ?_)
      · refine ⟨hup.sub (fun y hy => by simp [hy]), ?_⟩
        rw [hf]
        refine ⟨hPl, xs[P].a, xs[P].c, by rw [hml], ?_⟩
        rw [hml]
        exact Same.rd (N := N) (fun y hy => hup.k y (by simp [hy])) hok.rd (fun hp => hok.b (by simpa using hp))
      · have hx' : x ∈ xs := by
          rcases List.mem_append.1 hx with hx | hx
          · exact List.mem_of_mem_take hx
          · exact List.mem_of_mem_drop hx
        exact (HX.out.ok x hx').same (Same.of_below (fun y hy => (HX.out.nn y hy).1) HW3.out)
      · rw [ht, List.map_append, List.map_take, List.map_drop, HL.out]
      · rcases List.mem_append.1 hy with hy | hy
        · exact HX.out.nn y hy
        · exact HKK.out y hy)
    have HCC : Hid (Calls Try.prog 43 #[.slice (some ⟨b, 0, none⟩) n c, .int .i64 (P : Int), .int .i64 ((P : Int) + 1)] w3 fun e w8 => ∃ A' n' c', e = .returned (.slice A' n' c') ∧ w8.cell? ⟨g, 0, none⟩ = some (.slice (some ⟨b, 0, none⟩) n c) ∧ w8.frozen? ⟨g, 0, none⟩ = false ∧ TakeP K B g l (key a1 a2 i1 i2) w (.returned (.tuple #[.slice xs[P].a xs[P].m.ar.length xs[P].c, .int .i64 0])) (w8.setCell ⟨g, 0, none⟩ (.slice A' n' c'))) := Lib.hid (HD.out.mono (fun e w8 h => HUP.out e w8 h))
    clear HD HUP hok hml
    generalize xs[P] = z at *
    have j0 : (0 : Int) ≤ (P : Int) := by omega
    have j1 : (P : Int) < (n : Int) := by omega
    clear m00 m01 m10 m11 x4
    simp only [Nat.zero_add] at x5
    go_wp2_with ((with_reducible refine HCC.out.mono ?_); rintro e w8 ⟨A', n', c', rfl, h8, f8, hup⟩; have HUP := Lib.hid hup; clear hup)
    go_ret2
    exact HUP.out
end Mb
end Go.Proofs.Ytddoepaplbnlcaa
