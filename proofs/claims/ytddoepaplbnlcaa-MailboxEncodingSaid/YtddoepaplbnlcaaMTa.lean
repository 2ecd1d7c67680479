/- Merged: McC McD McE McF MdA MdB MdC MdD MdE MdF MdG MdH MdO. -/
import Derived.BigRegion
import Derived.Test.YtddoepaplbnlcaaMcB
import Derived.Test.YtddoepaplbnlcaaWrP
import Derived.Test.YtddoepaplbnlcaaOpenR
/- The walk of refmeshref46's Take. -/
namespace Go.Proofs.Ytddoepaplbnlcaa
open Go.RowKit Go.Shelf
namespace Mb

/-- what the reference's Take answers -/
def RTakeP (M : List Nat) (l : List Msg) (k : Msg) (w : World) (e : Ending) (w' : World) : Prop := ∃ A n c, NewM M (takeL l k) (.slice A n c) w w' ∧ match find l k with
  | none => e = .returned (.tuple #[.slice A n c, .slice none 0 0, .int .i64 6])
  | some i => ∃ hi : i < l.length, ∃ X cx, e = .returned (.tuple #[.slice A n c, .slice X l[i].ar.length cx, .int .i64 0]) ∧ Rd w' X (l[i].ar.map (Value.int .i64)) ∧ (0 < l[i].ar.length → ∀ b off, X = some ⟨b, off, none⟩ → b ∈ M)
set_option maxRecDepth 100000 in
set_option maxHeartbeats 4000000 in
theorem rtake_calls (M : List Nat) (l : List Msg) (v : Value) (a1 a2 i1 i2 : Int) (w : World) (h : Mo M l v w) (hi : Inv l) :
    Calls Try.prog 63 #[v, .agg #[.int .i64 a1, .int .i64 a2], .agg #[.int .i64 i1, .int .i64 i2]] w (RTakeP M l (key a1 a2 i1 i2) w) := by
  have HM0 := Lib.hid h
  obtain ⟨A, n, c, xs, rfl, hm, hl⟩ := h
  have hnl : n = l.length := by rw [← hl, List.length_map]; exact hm.hn.symm
  have hn1 : n ≤ 1024 := by rw [hnl]; exact hi.n
  have hb2 := below2 w (.cells #[.int .i64 a1, .int .i64 a2] 30) (.cells #[.int .i64 i1, .int .i64 i2] 30)
  have k0 : ((w.alloc (.cells #[.int .i64 a1, .int .i64 a2] 30)).alloc (.cells #[.int .i64 i1, .int .i64 i2] 30)).heap[w.heap.size]? = _ := (Below.heap_alloc _ _ _ (by simp)).trans (heap_alloc_new _ _)
  have k1 : ((w.alloc (.cells #[.int .i64 a1, .int .i64 a2] 30)).alloc (.cells #[.int .i64 i1, .int .i64 i2] 30)).heap[w.heap.size + 1]? = _ := heap_alloc2_new _ _ _
  have HM := Lib.hid hm
  have HL := Lib.hid hl
  have HNL := Lib.hid hnl
  clear hm hl hnl
  go_enter Try.func63, Try.ntmps63
  go_upto_region 1 with (fail)
  generalize ((w.alloc _).alloc _) = w2 at *
  have m00 : w2.cell? ⟨w.heap.size, 0, none⟩ = some (.int .i64 a1) := (cell_of_row _ _ 0 _ _ _ k0).trans rfl
  have m01 : w2.cell? ⟨w.heap.size, 1, none⟩ = some (.int .i64 a2) := (cell_of_row _ _ 1 _ _ _ k0).trans rfl
  have m10 : w2.cell? ⟨w.heap.size + 1, 0, none⟩ = some (.int .i64 i1) := (cell_of_row _ _ 0 _ _ _ k1).trans rfl
  have m11 : w2.cell? ⟨w.heap.size + 1, 1, none⟩ = some (.int .i64 i2) := (cell_of_row _ _ 1 _ _ _ k1).trans rfl
  have HB2 := Lib.hid hb2
  have HM2 := Lib.hid (HM.out.below hb2)
  have HI := rindex_calls A n c xs a1 a2 i1 i2 w2 HM2.out.hn HM2.out.rd (by omega)
  rw [HL.out] at HI
  unfold IdxP at HI
  have HII := Lib.hid HI
  clear hb2 k0 k1 HI
  cases hf : find l (key a1 a2 i1 i2) with
  | none =>
    rw [hf] at HII
    have ht : takeL l (key a1 a2 i1 i2) = l := by unfold takeL; rw [hf]
    have HP2 : Hid (∀ w', Below w.heap.size w w' → RTakeP M l (key a1 a2 i1 i2) w (.returned (.tuple #[.slice A n c, .slice none 0 0, .int .i64 6])) w') := Lib.hid fun w' hb => ⟨A, n, c, by rw [ht]; exact HM0.out.new hb, by rw [hf]⟩
    clear hf ht
    go_wp2_with ((with_reducible refine HII.out.mono ?_); rintro e w3 ⟨rfl, hb⟩; have HB3 := Lib.hid (HB2.out.trans (hb.mono HB2.out.size)); clear hb)
    go_ret3
    exact HP2.out _ HB3.out
  | some P =>
    obtain ⟨hPl, _⟩ := find_some hf
    rw [hf] at HII
    have HF := Lib.hid hf
    have j9 : ¬ (P : Int) < 0 := by omega
    clear hf
    go_upto_region 4 with (((with_reducible refine HII.out.mono ?_); rintro e w8 ⟨rfl, hb⟩; have HB28 := Lib.hid hb; have HB8 := Lib.hid (HB2.out.trans (hb.mono HB2.out.size)); clear hb))
    clear m00 m01 m10 m11
    have HM8 := Lib.hid (HM2.out.below HB28.out)
    have hPn : P < n := by rw [HNL.out]; exact hPl
    have hPx : P < xs.length := by rw [HM8.out.hn]; exact hPn
    obtain ⟨b, off, e, hbl, _, _, _, _, _, x5⟩ := rd6 HM8.out.rd P hPx
    have hml : l[P] = xs[P].m := by simp only [← HL.out, List.getElem_map]
    have HOK := Lib.hid (HM8.out.ok _ (List.getElem_mem hPx))
    have HRT := Lib.hid (fun (u : World) (hu : Below w8.heap.size w8 u) => rd_take6 (P := P) (HM8.out.rd.below hu) (by rw [HM8.out.hn]; omega))
    have HRD := Lib.hid (fun (u : World) (hu : Below w8.heap.size w8 u) => rd_cutS (P := P + 1) (HM8.out.rd.below hu) (by rw [HM8.out.hn]; omega) (by rw [HM8.out.hn]; exact HM8.out.nc))
    have HOA := Lib.hid (own_belowS (own_made1 w8 36 6) (below_drw _))
    have HTL : Hid ((xs.take P).length = P) := Lib.hid (by rw [List.length_take, HM8.out.hn]; omega)
    have HDL : Hid ((xs.drop (P + 1)).length = n - (P + 1)) := Lib.hid (by rw [List.length_drop, HM8.out.hn])
    have hcut1 : ∀ w' : World, (Instr.slice 26 (.slice A n c) none (some (.int .i64 (P : Int))) none).run Try.prog w' = .ok (.slice A P c) w' := fun w' => run_cutS_h Try.underlying26 elem_r A n c P (by have := HM8.out.nc; omega) size_r w'
    have hcut2 : ∀ w' : World, (Instr.slice 26 (.slice A n c) (some (.int .i64 ((P : Int) + 1))) none none).run Try.prog w' = .ok (.slice (cutS A (P + 1) c 6) (n - (P + 1)) (c - (P + 1))) w' := fun w' => run_cutS_l Try.underlying26 elem_r size_r A n c (P + 1) (by omega) w'
    obtain ⟨A2, HA2⟩ : ∃ A2, Hid (cutS A (P + 1) c 6 = A2) := ⟨_, rfl⟩
    rw [HA2.out] at HRD hcut2
    have HKP : Hid (P + (n - (P + 1)) = n - 1) := Lib.hid (by omega)
    have hw1 : IntKind.i64.wrap ((P : Int) + 1) = (P : Int) + 1 := IntWalk.i64_in _ (by omega)
    have j0 : (0 : Int) ≤ (P : Int) := by omega
    have j1 : (P : Int) < (n : Int) := by omega
    have HFIN : Hid (∀ X11 c11 w11, Below w8.heap.size w8 w11 → w11.ownsRow w8.heap.size 36 6 (.slice X11 (n - 1) c11) (n - 1) (cells6 (xs.take P ++ xs.drop (P + 1))) → RTakeP M l (key a1 a2 i1 i2) w (.returned (.tuple #[.slice X11 (n - 1) c11, .slice xs[P].a xs[P].m.ar.length xs[P].c, .int .i64 0])) w11) := Lib.hid fun X11 c11 w11 hb ho => by
      have hw : Below w.heap.size w w11 := HB8.out.trans (hb.mono HB8.out.size)
      have hpl : takeL l (key a1 a2 i1 i2) = (xs.take P ++ xs.drop (P + 1)).map (·.m) := by
        unfold takeL
        rw [HF.out, List.map_append, List.map_take, List.map_drop, HL.out]
      refine ⟨X11, n - 1, c11, ?_, ?_⟩
      · rw [hpl]
        refine newM_of (N' := M) hw ho HB8.out.size (by rw [List.length_append, HTL.out, HDL.out]; exact HKP.out) (fun y hy => ?_) (fun y hy => .inl hy) HM.out.ml
        rcases List.mem_append.1 hy with hy | hy
        · exact Mm.ok.below (HM8.out.ok y (List.mem_of_mem_take hy)) hb
        · exact Mm.ok.below (HM8.out.ok y (List.mem_of_mem_drop hy)) hb
      · rw [HF.out]
        exact ⟨hPl, xs[P].a, xs[P].c, by rw [hml], by rw [hml]; exact HOK.out.rd.below hb, by rw [hml]; exact HOK.out.b⟩
    generalize xs[P] = z at *
    clear hml
    subst e
    have x5a : ∀ o, (w8.alloc o).cell? ⟨b, off + P * 6 + 5, none⟩ = some (.slice z.a z.m.ar.length z.c) := fun o => (World.cell?_alloc_lt w8 o ⟨b, off + P * 6 + 5, none⟩ hbl).trans x5
    go_region_law (first | (refine stepM w8.heap.size _ ?a1 (.tmp 17) (.tmp 20) ?a2 (.slice (some ⟨w8.heap.size, 0, none⟩) 0 0) 0 [] (xs.take P) ?a3 ?a7 (some ⟨b, off, none⟩) P c ?a4 HTL.out ?a8 P ?a5 ?a9 ?a6 ?_; (case a1 => rfl); (case a2 => rfl); (case a3 => rfl); (case a7 => exact HOA.out); (case a4 => rfl); (case a8 => exact HRT.out _ (below1 w8 (.cells #[] 36)).drew); (case a5 => exact Nat.zero_add P); (case a9 => omega); (case a6 => exact (below1 w8 (.cells #[] 36)).size); intro X9 c9 w9 HO9 HA9 HB9; have HB9w : Below w8.heap.size w8 w9 := Below.trans (below1 w8 (.cells #[] 36)).drew HB9.out; have x59 : w9.cell? ⟨b, off + P * 6 + 5, none⟩ = some (.slice z.a z.m.ar.length z.c) := (HB9w.cell (p := ⟨b, off + P * 6 + 5, none⟩) hbl).trans x5) | (refine stepM w8.heap.size _ ?a1 (.tmp 21) (.tmp 25) ?a2 (.slice X9 P c9) P (xs.take P) (xs.drop (P + 1)) ?a3 ?a7 A2 (n - (P + 1)) (c - (P + 1)) ?a4 HDL.out ?a8 (n - 1) HKP.out ?a9 ?a6 ?_; (case a1 => rfl); (case a2 => rfl); (case a3 => rfl); (case a7 => exact HO9.out); (case a4 => rfl); (case a8 => exact HRD.out _ HB9w); (case a9 => omega); (case a6 => exact HB9w.size); intro X11 c11 w11 HO11 HA11 HB11; have HB11w : Below w8.heap.size w8 w11 := HB9w.trans HB11.out; have x511 : w11.cell? ⟨b, off + P * 6 + 5, none⟩ = some (.slice z.a z.m.ar.length z.c) := (HB11w.cell (p := ⟨b, off + P * 6 + 5, none⟩) hbl).trans x5))
    all_goals
      have HG := Lib.hid (HFIN.out X11 c11 w11 HB11w HO11.out)
      go_wp2_with fail
      go_ret3
      exact HG.out
end Mb
end Go.Proofs.Ytddoepaplbnlcaa

/- The walk of refmeshref46's Of. -/
namespace Go.Proofs.Ytddoepaplbnlcaa
open Go.RowKit Go.Shelf
namespace Mb

theorem own_app {w w' : World} {B n sz : Nat} {e : TypeId} {v v2 v2' : Value} {xs : List Value} (h : w.ownsRow B e sz v n xs) (ha : App w v2 w' v2') (hne : ∀ b, v.ownBlock = some b → v2.ownBlock ≠ some b) : w'.ownsRow B e sz v n xs := by
  obtain ⟨h1, h2⟩ := h
  refine ⟨h1, h2.imp id fun ⟨g, cap, cur, e1, e2, e3, e4⟩ => ⟨g, cap, cur, e1, e2, ?_, e4⟩⟩
  exact ha.old e3 (hne g (by rw [e1]; rfl))
theorem own_types {w : World} {B B' n n' sz sz' : Nat} {e e' : TypeId} {v v' : Value} {xs xs' : List Value} (h : w.ownsRow B e sz v n xs) (h' : w.ownsRow B' e' sz' v' n' xs') (hne : e ≠ e') : ∀ b, v.ownBlock = some b → v'.ownBlock ≠ some b := by
  intro b hb hb'
  rcases h.2 with ⟨rfl, _⟩ | ⟨g, cap, cur, rfl, _, hh, _⟩
  · cases hb
  · rcases h'.2 with ⟨rfl, _⟩ | ⟨g', cap', cur', rfl, _, hh', _⟩
    · cases hb'
    · simp only [Value.ownBlock, Option.some.injEq] at hb hb'
      subst hb
      subst hb'
      rw [hh] at hh'
      injection hh' with hh'
      injection hh' with _ ht
      exact hne ht
theorem restL_take (l : List Mm) (a1 a2 : Int) (k : Nat) (hk : k < l.length) : (l.take (k + 1)).filter (fun x => !isA a1 a2 x.m) = (l.take k).filter (fun x => !isA a1 a2 x.m) ++ (if l[k].m.a1 = a1 ∧ l[k].m.a2 = a2 then [] else [l[k]]) := by
  rw [filter_take_succ _ _ _ hk]
  congr 1
  unfold isA
  by_cases h : l[k].m.a1 = a1 ∧ l[k].m.a2 = a2 <;> simp [h]
/-- what the reference's Of answers -/
def ROfP (M : List Nat) (l : List Msg) (a1 a2 : Int) (w : World) (e : Ending) (w' : World) : Prop := ∃ X c A n c', e = .returned (.tuple #[.slice X (ofL l a1 a2).length c, .slice A n c']) ∧ Rd w' X (cells2 (ofL l a1 a2)) ∧ NewM M (restL l a1 a2) (.slice A n c') w w' ∧ ∀ b off, X = some ⟨b, off, none⟩ → w.heap.size ≤ b
set_option maxRecDepth 100000 in
set_option maxHeartbeats 4000000 in
theorem rof_calls (M : List Nat) (l : List Msg) (v : Value) (a1 a2 : Int) (w : World) (h : Mo M l v w) (hln : l.length ≤ 1024) :
    Calls Try.prog 36 #[v, .agg #[.int .i64 a1, .int .i64 a2]] w (ROfP M l a1 a2 w) := by
  obtain ⟨A, n, c, xs, rfl, hm, hl⟩ := h
  have hnl : n = l.length := by rw [← hl, List.length_map]; exact hm.hn.symm
  have hn1 : n ≤ 1024 := by rw [hnl]; exact hln
  have hb1 := below1 w (.cells #[.int .i64 a1, .int .i64 a2] 30)
  have k0 := heap_alloc_new w (.cells #[.int .i64 a1, .int .i64 a2] 30)
  have HM := Lib.hid hm
  have HL := Lib.hid hl
  have HNL := Lib.hid hnl
  clear hm hl hnl
  go_enter Try.func36, Try.ntmps36
  go_upto_region 1 with (fail)
  generalize w.alloc _ = w1 at *
  have hz1 := (Array.getElem?_eq_some_iff.1 k0).1
  have HB1 := Lib.hid hb1
  have HK1 := Lib.hid k0
  have HM1 := Lib.hid (HM.out.below hb1)
  clear hb1 k0
  go_upto_region 2 with (fail)
  have hO6 : ((w1.alloc (.cells #[] 30)).alloc (.cells #[] 36)).ownsRow w1.heap.size 30 2 (.slice (some ⟨w1.heap.size, 0, none⟩) 0 0) 0 [] := own_belowS (own_made1 w1 30 2) (below1 _ _)
  have hO7 : ((w1.alloc (.cells #[] 30)).alloc (.cells #[] 36)).ownsRow w1.heap.size 36 6 (.slice (some ⟨w1.heap.size + 1, 0, none⟩) 0 0) 0 [] := own_made0 w1 _ 36 6
  have HO6 := Lib.hid hO6
  have HO7 := Lib.hid hO7
  have HBB := Lib.hid (below2 w1 (.cells #[] 30) (.cells #[] 36))
  clear hO6 hO7
  go_wp2_with fail
  go_loopw [6, 7, 8] (fun v6 v7 i wr => ∃ k : Nat, k ≤ n ∧ i = .int .i64 k ∧ wr.ownsRow w1.heap.size 30 2 v6 (ofL (l.take k) a1 a2).length (cells2 (ofL (l.take k) a1 a2)) ∧ wr.ownsRow w1.heap.size 36 6 v7 ((xs.take k).filter (fun x => !isA a1 a2 x.m)).length (cells6 ((xs.take k).filter (fun x => !isA a1 a2 x.m))) ∧ Below w1.heap.size w1 wr) (fun _ _ i _ => n - (intOf i).toNat)
  case atStart => exact ⟨0, by omega, rfl, HO6.out, HO7.out, HBB.out⟩
  case round =>
    obtain ⟨k, hk, rfl, ho6, ho7, hbw⟩ := hrel
    have HP6 := Lib.hid ho6
    have HP7 := Lib.hid ho7
    have HBW := Lib.hid hbw
    clear ho6 ho7 hbw
    have j0 : (0 : Int) ≤ (k : Int) := by omega
    by_cases hlt : k < n
    · have j1 : (k : Int) < (n : Int) := by omega
      have hkx : k < xs.length := by rw [HM.out.hn]; exact hlt
      have hkl : k < l.length := by rw [← HNL.out]; exact hlt
      obtain ⟨b, off, e, hbl, x0, x1, x2, x3, x4, x5⟩ := rd6 (HM1.out.rd.below HBW.out) k hkx
      subst e
      have hml : l[k] = xs[k].m := by simp only [← HL.out, List.getElem_map]
      have HT := Lib.hid (ofL_take l a1 a2 k hkl)
      have HT2 := Lib.hid (restL_take xs a1 a2 k hkx)
      rw [hml] at HT
      clear hml
      generalize xs[k] = z at *
      have y0 : wr.cell? ⟨w.heap.size, 0, none⟩ = some (.int .i64 a1) := (cell_of_row _ _ 0 _ _ _ ((HBW.out.block _ hz1).trans HK1.out)).trans rfl
      have y1 : wr.cell? ⟨w.heap.size, 1, none⟩ = some (.int .i64 a2) := (cell_of_row _ _ 1 _ _ _ ((HBW.out.block _ hz1).trans HK1.out)).trans rfl
      obtain ⟨len, HLEN⟩ : ∃ y, Hid ((ofL (l.take k) a1 a2).length = y) := ⟨_, rfl⟩
      obtain ⟨rln, HRLN⟩ : ∃ y, Hid (((xs.take k).filter (fun x => !isA a1 a2 x.m)).length = y) := ⟨_, rfl⟩
      have hlen : len ≤ 1024 := by
        have h1 := ofL_len (l.take k) a1 a2
        rw [HLEN.out, List.length_take] at h1
        omega
      have hrln : rln ≤ 1024 := by
        have h1 := List.length_filter_le (fun x : Mm => !isA a1 a2 x.m) (xs.take k)
        rw [HRLN.out, List.length_take] at h1
        omega
      rw [HLEN.out] at HP6
      rw [HRLN.out] at HP7
      have heq := eq_pair (z.m.a1, z.m.a2) (a1, a2)
      simp only at heq
      by_cases hq : (z.m.a1, z.m.a2) = (a1, a2)
      · rw [decide_eq_true hq] at heq
        have hq2 : z.m.a1 = a1 ∧ z.m.a2 = a2 := by simpa using hq
        rw [if_pos hq2] at HT
        rw [if_pos hq2, List.append_nil] at HT2
        clear hq hq2
        go_wp2_with fail
        go_quiet (fail)
        clear heq y0 y1
        have HBQ := Lib.hid (blw_drewN HBW.out nq)
        have HQ6 : Hid ((wr.drewN nq).ownsRow w1.heap.size 30 2 u6 len (cells2 (ofL (l.take k) a1 a2))) := HP6.out
        have HQ7 : Hid ((wr.drewN nq).ownsRow w1.heap.size 36 6 u7 rln (cells6 ((xs.take k).filter (fun x => !isA a1 a2 x.m)))) := HP7.out
        have x2' : (wr.drewN nq).cell? ⟨b, off + k * 6 + 2, none⟩ = some (.int .i64 z.m.i1) := x2
        have x3' : (wr.drewN nq).cell? ⟨b, off + k * 6 + 3, none⟩ = some (.int .i64 z.m.i2) := x3
        generalize wr.drewN nq = wq at *
        clear x0 x1 x2 x3 x4 x5
        have HO2 := Lib.hid (own_belowS HQ6.out (below1 wq (.cells #[.int .i64 z.m.i1, .int .i64 z.m.i2] 30)))
        have HO3 := Lib.hid (own_belowS HQ7.out (below1 wq (.cells #[.int .i64 z.m.i1, .int .i64 z.m.i2] 30)))
        have HR2 := Lib.hid (own_one2 wq 30 z.m.i1 z.m.i2)
        have HB2 := Lib.hid (HBQ.out.trans ((below1 wq (.cells #[.int .i64 z.m.i1, .int .i64 z.m.i2] 30)).mono HBQ.out.size))
        have HZZ : Hid (w1.heap.size ≤ (wq.alloc (.cells #[.int .i64 z.m.i1, .int .i64 z.m.i2] 30)).heap.size) := HB2.out.size
        go_wp2_with (at_builtin; refine wpList_appS _ (by rfl) (.tmp 24) (.tmp 30) 53 (by rfl) w1.heap.size 30 zI 2 16 Try.underlying53 info_i rfl (by omega) _ len (cells2 (ofL (l.take k) a1 a2)) (by rfl) HO2.out (some ⟨wq.heap.size, 0, none⟩) 1 1 (idC (z.m.i1, z.m.i2)) (by rfl) rfl HR2.out (idC_one _) (by unfold maxLen; omega) (by omega) HZZ.out ?_; intro X cap w5 hown happ; have HO5 := Lib.hid hown; have HA5 := Lib.hid happ; clear hown happ)
        have HT5 : Hid (w5.ownsRow w1.heap.size 30 2 (.slice X (len + 1) cap) (ofL (l.take (k + 1)) a1 a2).length (cells2 (ofL (l.take (k + 1)) a1 a2))) := Lib.hid (by
          rw [HT.out, cells2_app, List.length_append, HLEN.out]
          exact HO5.out)
        have HT6 : Hid (w5.ownsRow w1.heap.size 36 6 u7 ((xs.take (k + 1)).filter (fun x => !isA a1 a2 x.m)).length (cells6 ((xs.take (k + 1)).filter (fun x => !isA a1 a2 x.m)))) := Lib.hid (by
          rw [HT2.out, HRLN.out]
          exact own_app HO3.out HA5.out (own_types HO3.out HO2.out (by decide)))
        have HB5 : Hid (Below w1.heap.size w1 w5) := HB2.out.trans (HA5.out.belowS HO2.out HZZ.out)
        go_roundw
        case rel => exact ⟨k + 1, by omega, by go_num, HT5.out, HT6.out, HB5.out⟩
        case measure => simp [intOf]; omega
      · rw [decide_eq_false hq] at heq
        have hq2 : ¬ (z.m.a1 = a1 ∧ z.m.a2 = a2) := by simpa using hq
        rw [if_neg hq2, List.append_nil] at HT
        rw [if_neg hq2] at HT2
        clear hq hq2
        go_wp2_with fail
        go_quiet (fail)
        clear heq y0 y1
        have HBQ := Lib.hid (blw_drewN HBW.out nq)
        have HQ6 : Hid ((wr.drewN nq).ownsRow w1.heap.size 30 2 u6 len (cells2 (ofL (l.take k) a1 a2))) := HP6.out
        have HQ7 : Hid ((wr.drewN nq).ownsRow w1.heap.size 36 6 u7 rln (cells6 ((xs.take k).filter (fun x => !isA a1 a2 x.m)))) := HP7.out
        have x0' : (wr.drewN nq).cell? ⟨b, off + k * 6, none⟩ = some (.int .i64 z.m.a1) := x0
        have x1' : (wr.drewN nq).cell? ⟨b, off + k * 6 + 1, none⟩ = some (.int .i64 z.m.a2) := x1
        have x2' : (wr.drewN nq).cell? ⟨b, off + k * 6 + 2, none⟩ = some (.int .i64 z.m.i1) := x2
        have x3' : (wr.drewN nq).cell? ⟨b, off + k * 6 + 3, none⟩ = some (.int .i64 z.m.i2) := x3
        have x4' : (wr.drewN nq).cell? ⟨b, off + k * 6 + 4, none⟩ = some (.string z.m.me) := x4
        have x5' : (wr.drewN nq).cell? ⟨b, off + k * 6 + 5, none⟩ = some (.slice z.a z.m.ar.length z.c) := x5
        generalize wr.drewN nq = wq at *
        clear x0 x1 x2 x3 x4 x5
        have HO2 := Lib.hid (own_belowS HQ7.out (below1 wq (.cells #[.int .i64 z.m.a1, .int .i64 z.m.a2, .int .i64 z.m.i1, .int .i64 z.m.i2, .string z.m.me, .slice z.a z.m.ar.length z.c] 36)))
        have HO3 := Lib.hid (own_belowS HQ6.out (below1 wq (.cells #[.int .i64 z.m.a1, .int .i64 z.m.a2, .int .i64 z.m.i1, .int .i64 z.m.i2, .string z.m.me, .slice z.a z.m.ar.length z.c] 36)))
        have HR2 : Hid (Rd (wq.alloc (.cells #[.int .i64 z.m.a1, .int .i64 z.m.a2, .int .i64 z.m.i1, .int .i64 z.m.i2, .string z.m.me, .slice z.a z.m.ar.length z.c] 36)) (some ⟨wq.heap.size, 0, none⟩) (cells6 [z])) := Lib.hid (by
          have e6 : cells6 [z] = [.int .i64 z.m.a1, .int .i64 z.m.a2, .int .i64 z.m.i1, .int .i64 z.m.i2, .string z.m.me, .slice z.a z.m.ar.length z.c] := by simp [cells6, Mm.cells]
          rw [e6]
          exact Rd.new wq [.int .i64 z.m.a1, .int .i64 z.m.a2, .int .i64 z.m.i1, .int .i64 z.m.i2, .string z.m.me, .slice z.a z.m.ar.length z.c] _ _)
        have HB2 := Lib.hid (HBQ.out.trans ((below1 wq (.cells #[.int .i64 z.m.a1, .int .i64 z.m.a2, .int .i64 z.m.i1, .int .i64 z.m.i2, .string z.m.me, .slice z.a z.m.ar.length z.c] 36)).mono HBQ.out.size))
        have HZZ : Hid (w1.heap.size ≤ (wq.alloc (.cells #[.int .i64 z.m.a1, .int .i64 z.m.a2, .int .i64 z.m.i1, .int .i64 z.m.i2, .string z.m.me, .slice z.a z.m.ar.length z.c] 36)).heap.size) := HB2.out.size
        go_wp2_with (at_builtin; refine wpList_appS _ (by rfl) (.tmp 32) (.tmp 37) 26 (by rfl) w1.heap.size 36 zM 6 72 Try.underlying26 info_r rfl (by omega) _ rln (cells6 ((xs.take k).filter (fun x => !isA a1 a2 x.m))) (by rfl) HO2.out (some ⟨wq.heap.size, 0, none⟩) 1 1 (cells6 [z]) (by rfl) (cells6_len [z]) HR2.out (cells6_one _) (by unfold maxLen; omega) (by omega) HZZ.out ?_; intro X cap w5 hown happ; have HO5 := Lib.hid hown; have HA5 := Lib.hid happ; clear hown happ)
        have HT5 : Hid (w5.ownsRow w1.heap.size 36 6 (.slice X (rln + 1) cap) ((xs.take (k + 1)).filter (fun x => !isA a1 a2 x.m)).length (cells6 ((xs.take (k + 1)).filter (fun x => !isA a1 a2 x.m)))) := Lib.hid (by
          have e : cells6 ((xs.take k).filter (fun x => !isA a1 a2 x.m) ++ [z]) = cells6 ((xs.take k).filter (fun x => !isA a1 a2 x.m)) ++ cells6 [z] := by simp [cells6]
          rw [HT2.out, e, List.length_append, HRLN.out]
          exact HO5.out)
        have HT6 : Hid (w5.ownsRow w1.heap.size 30 2 u6 (ofL (l.take (k + 1)) a1 a2).length (cells2 (ofL (l.take (k + 1)) a1 a2))) := Lib.hid (by
          rw [HT.out, HLEN.out]
          exact own_app HO3.out HA5.out (own_types HO3.out HO2.out (by decide)))
        have HB5 : Hid (Below w1.heap.size w1 w5) := HB2.out.trans (HA5.out.belowS HO2.out HZZ.out)
        go_roundw
        case rel => exact ⟨k + 1, by omega, by go_num, HT6.out, HT5.out, HB5.out⟩
        case measure => simp [intOf]; omega
    · obtain rfl : k = n := by omega
      have HB2 := Lib.hid (HB1.out.trans (HBW.out.mono HB1.out.size))
      rw [List.take_of_length_le (Nat.le_of_eq HNL.out.symm)] at HP6
      rw [List.take_of_length_le (Nat.le_of_eq HM.out.hn)] at HP7
      obtain ⟨X, cap, hv, _, _, _, hr6⟩ := own_formS HP6.out
      obtain ⟨Y, cap', hv', _⟩ := own_formS HP7.out
      subst hv hv'
      have HR6 := Lib.hid hr6
      have HXN : Hid (∀ b off, X = some ⟨b, off, none⟩ → w.heap.size ≤ b) := Lib.hid (fun b off e => Nat.le_trans HB1.out.size (own_ge HP6.out b (by rw [e]; rfl)))
      have HN : Hid (NewM M (restL l a1 a2) (.slice Y (xs.filter (fun x => !isA a1 a2 x.m)).length cap') w wr) := Lib.hid (by
        have e : restL l a1 a2 = (xs.filter (fun x => !isA a1 a2 x.m)).map (·.m) := by
          unfold restL
          rw [← HL.out, List.filter_map]
          rfl
        rw [e]
        exact newM_of (N' := M) HB2.out HP7.out HB1.out.size rfl (fun y hy => Mm.ok.below (HM.out.ok y (List.mem_filter.1 hy).1) HB2.out) (fun y hy => .inl hy) HM.out.ml)
      clear hr6
      go_wp2_with fail
      go_ret2
      exact ⟨X, cap, Y, _, cap', rfl, HR6.out, HN.out, HXN.out⟩
end Mb
end Go.Proofs.Ytddoepaplbnlcaa

/- The walk of refmeshref46's Actors. -/
namespace Go.Proofs.Ytddoepaplbnlcaa
open Go.RowKit Go.Shelf
namespace Mb

theorem actL_len (l : List Msg) : (actL l).length = l.length := by unfold actL; rw [List.length_map]
theorem actL_get (l : List Msg) (k : Nat) (hk : k < l.length) : (actL l)[k]'(by rw [actL_len]; exact hk) = (l[k].a1, l[k].a2) := by unfold actL; rw [List.getElem_map]
theorem actL_tk (l : List Msg) (k : Nat) : actL (l.take k) = (actL l).take k := by unfold actL; rw [List.map_take]
set_option maxRecDepth 100000 in
set_option maxHeartbeats 4000000 in
theorem ractors_calls (M : List Nat) (l : List Msg) (v : Value) (w : World) (h : Mo M l v w) (hln : l.length ≤ 1024) :
    Calls Try.prog 35 #[v] w (NewI (actorsL l) w) := by
  obtain ⟨A, n, c, xs, rfl, hm, hl⟩ := h
  have hnl : n = l.length := by rw [← hl, List.length_map]; exact hm.hn.symm
  have hn1 : n ≤ 1024 := by rw [hnl]; exact hln
  have HM := Lib.hid hm
  have HL := Lib.hid hl
  have HNL := Lib.hid hnl
  have HO3 := Lib.hid (own_made1 w 30 2)
  have HB3 := Lib.hid (below1 w (.cells #[] 30))
  clear hm hl hnl
  go_enter Try.func35, Try.ntmps35
  go_wp2_with fail
  go_loopw [3, 4] (fun v i wr => ∃ k : Nat, k ≤ n ∧ i = .int .i64 k ∧ wr.ownsRow w.heap.size 30 2 v (dedup (actL (l.take k))).length (cells2 (dedup (actL (l.take k)))) ∧ Below w.heap.size w wr) (fun _ i _ => n - (intOf i).toNat)
  case atStart => exact ⟨0, by omega, rfl, HO3.out, HB3.out⟩
  case round =>
    obtain ⟨k, hk, rfl, ho, hbw⟩ := hrel
    have HP := Lib.hid ho
    have HBW := Lib.hid hbw
    clear ho hbw
    have j0 : (0 : Int) ≤ (k : Int) := by omega
    by_cases hlt : k < n
    · have j1 : (k : Int) < (n : Int) := by omega
      have hkx : k < xs.length := by rw [HM.out.hn]; exact hlt
      have hkl : k < l.length := by rw [← HNL.out]; exact hlt
      obtain ⟨b, off, e, hbl, x0, x1, x2, x3, x4, x5⟩ := rd6 (HM.out.rd.below HBW.out) k hkx
      have hml : l[k] = xs[k].m := by simp only [← HL.out, List.getElem_map]
      obtain ⟨len, HLEN⟩ : ∃ y, Hid ((dedup (actL (l.take k))).length = y) := ⟨_, rfl⟩
      have hdl : ∀ q : List (Int × Int), (dedup q).length ≤ q.length := by
        intro q
        induction q with
        | nil => exact Nat.le_refl _
        | cons x q ih =>
          cases q with
          | nil => exact Nat.le_refl _
          | cons y q =>
            rw [dedup]
            split
            · exact Nat.le_trans ih (Nat.le_succ _)
            · simp only [List.length_cons] at ih ⊢; omega
      have hlen : len ≤ 1024 := by
        have h1 := hdl (actL (l.take k))
        rw [HLEN.out, actL_len, List.length_take] at h1
        omega
      rw [HLEN.out] at HP
      clear hdl
      have HAPP : Hid (∀ wq : World, Below w.heap.size w wq → wq.ownsRow w.heap.size 30 2 u3 len (cells2 (dedup (actL (l.take k)))) → (wq.alloc (.cells #[.int .i64 xs[k].m.a1, .int .i64 xs[k].m.a2] 30)).ownsRow w.heap.size 30 2 u3 len (cells2 (dedup (actL (l.take k)))) ∧ Rd (wq.alloc (.cells #[.int .i64 xs[k].m.a1, .int .i64 xs[k].m.a2] 30)) (some ⟨wq.heap.size, 0, none⟩) (idC (xs[k].m.a1, xs[k].m.a2)) ∧ Below w.heap.size w (wq.alloc (.cells #[.int .i64 xs[k].m.a1, .int .i64 xs[k].m.a2] 30)) ∧ w.heap.size ≤ (wq.alloc (.cells #[.int .i64 xs[k].m.a1, .int .i64 xs[k].m.a2] 30)).heap.size) := Lib.hid fun wq hb ho => ⟨own_belowS ho (below1 _ _), own_one2 wq _ _ _, hb.trans ((below1 wq _).mono hb.size), by have := hb.size; simp; omega⟩
      by_cases hk0 : k = 0
      · subst hk0
        have HT : Hid (dedup (actL (l.take (0 + 1))) = dedup (actL (l.take 0)) ++ [(xs[0].m.a1, xs[0].m.a2)]) := Lib.hid (by
          rw [actL_take l 0 hkl, hml]
          rfl)
        subst e
        clear hml
        generalize xs[0] = z at *
        go_wp2_with fail
        go_quiet (fail)
        have HBQ := Lib.hid (blw_drewN HBW.out nq)
        have HQ6 : Hid ((wr.drewN nq).ownsRow w.heap.size 30 2 u3 len (cells2 (dedup (actL (l.take 0))))) := HP.out
        have HA4 := HAPP.out (wr.drewN nq) HBQ.out HQ6.out
        have x0' : (wr.drewN nq).cell? ⟨b, off + 0 * 6, none⟩ = some (.int .i64 z.m.a1) := x0
        have x1' : (wr.drewN nq).cell? ⟨b, off + 0 * 6 + 1, none⟩ = some (.int .i64 z.m.a2) := x1
        simp only [Nat.zero_mul, Nat.add_zero] at x0' x1'
        generalize wr.drewN nq = wq at *
        obtain ⟨ha1, ha2, ha3, ha4⟩ := HA4
        have HA1 := Lib.hid ha1
        have HA2 := Lib.hid ha2
        have HA3 := Lib.hid ha3
        have HA6 := Lib.hid ha4
        clear x0 x1 x2 x3 x4 x5 ha1 ha2 ha3 ha4
        go_wp2_with (at_builtin; refine wpList_appS _ (by rfl) (.tmp 28) (.tmp 34) 53 (by rfl) w.heap.size 30 zI 2 16 Try.underlying53 info_i rfl (by omega) _ len (cells2 (dedup (actL (l.take 0)))) (by rfl) HA1.out (some ⟨wq.heap.size, 0, none⟩) 1 1 (idC (z.m.a1, z.m.a2)) (by rfl) rfl HA2.out (idC_one _) (by unfold maxLen; omega) (by omega) HA6.out ?_; intro X cap w5 hown happ; have HO5 := Lib.hid hown; have HA5 := Lib.hid happ; clear hown happ)
        have HT5 : Hid (w5.ownsRow w.heap.size 30 2 (.slice X (len + 1) cap) (dedup (actL (l.take (0 + 1)))).length (cells2 (dedup (actL (l.take (0 + 1)))))) := Lib.hid (by
          rw [HT.out, cells2_app, List.length_append, HLEN.out]
          exact HO5.out)
        have HB5 : Hid (Below w.heap.size w w5) := HA3.out.trans (HA5.out.belowS HA1.out HA6.out)
        go_roundw
        case rel => exact ⟨0 + 1, by omega, by go_num, HT5.out, HB5.out⟩
        case measure => simp [intOf]; omega
      · have hkx1 : k - 1 < xs.length := by omega
        have hkl1 : k - 1 < l.length := by omega
        obtain ⟨b', off', e', _, y0, y1, _, _, _, _⟩ := rd6 (HM.out.rd.below HBW.out) (k - 1) hkx1
        rw [e] at e'
        cases e'
        have hml1 : l[k - 1] = xs[k - 1].m := by simp only [← HL.out, List.getElem_map]
        have HT : Hid (dedup (actL (l.take (k + 1))) = if (xs[k].m.a1, xs[k].m.a2) = (xs[k - 1].m.a1, xs[k - 1].m.a2) then dedup (actL (l.take k)) else dedup (actL (l.take k)) ++ [(xs[k].m.a1, xs[k].m.a2)]) := Lib.hid (by
          have h := dedup_take (actL l) k (by omega) (by rw [actL_len]; exact hkl)
          rw [actL_get l k hkl, actL_get l (k - 1) hkl1, hml, hml1] at h
          rw [actL_tk, actL_tk]
          exact h)
        subst e
        clear hml hml1
        have heq := eq_pair (xs[k - 1].m.a1, xs[k - 1].m.a2) (xs[k].m.a1, xs[k].m.a2)
        simp only at heq
        generalize xs[k] = z at *
        generalize xs[k - 1] = z' at *
        have n0 : ((k : Int) == 0) = false := by rw [beq_eq_false_iff_ne]; omega
        have hw1 : IntKind.i64.wrap ((k : Int) - 1) = (k : Int) - 1 := IntWalk.i64_in _ (by omega)
        have hw2 : ((k : Int) - 1).toNat = k - 1 := by omega
        have hw3 : (0 : Int) ≤ (k : Int) - 1 := by omega
        by_cases hq : (z'.m.a1, z'.m.a2) = (z.m.a1, z.m.a2)
        · rw [decide_eq_true hq] at heq
          rw [if_pos hq.symm] at HT
          clear hq HAPP
          go_wp2_with fail
          go_quiet (fail)
          clear hw1 hw2 hw3 heq
          have HBQ := Lib.hid (blw_drewN HBW.out nq)
          have HQ6 : Hid ((wr.drewN nq).ownsRow w.heap.size 30 2 u3 (dedup (actL (l.take (k + 1)))).length (cells2 (dedup (actL (l.take (k + 1)))))) := Lib.hid (by rw [HT.out, HLEN.out]; exact HP.out)
          go_wp2_with fail
          go_roundw
          case rel => exact ⟨k + 1, by omega, by go_num, HQ6.out, HBQ.out⟩
          case measure => simp [intOf]; omega
        · rw [decide_eq_false hq] at heq
          rw [if_neg (fun h => hq h.symm)] at HT
          clear hq
          go_wp2_with fail
          go_quiet (fail)
          clear hw1 hw2 hw3 heq
          have HBQ := Lib.hid (blw_drewN HBW.out nq)
          have HQ6 : Hid ((wr.drewN nq).ownsRow w.heap.size 30 2 u3 len (cells2 (dedup (actL (l.take k))))) := HP.out
          have HA4 := HAPP.out (wr.drewN nq) HBQ.out HQ6.out
          have x0' : (wr.drewN nq).cell? ⟨b, off + k * 6, none⟩ = some (.int .i64 z.m.a1) := x0
          have x1' : (wr.drewN nq).cell? ⟨b, off + k * 6 + 1, none⟩ = some (.int .i64 z.m.a2) := x1
          generalize wr.drewN nq = wq at *
          obtain ⟨ha1, ha2, ha3, ha4⟩ := HA4
          have HA1 := Lib.hid ha1
          have HA2 := Lib.hid ha2
          have HA3 := Lib.hid ha3
          have HA6 := Lib.hid ha4
          clear x0 x1 x2 x3 x4 x5 y0 y1 ha1 ha2 ha3 ha4
          go_wp2_with (at_builtin; refine wpList_appS _ (by rfl) (.tmp 28) (.tmp 34) 53 (by rfl) w.heap.size 30 zI 2 16 Try.underlying53 info_i rfl (by omega) _ len (cells2 (dedup (actL (l.take k)))) (by rfl) HA1.out (some ⟨wq.heap.size, 0, none⟩) 1 1 (idC (z.m.a1, z.m.a2)) (by rfl) rfl HA2.out (idC_one _) (by unfold maxLen; omega) (by omega) HA6.out ?_; intro X cap w5 hown happ; have HO5 := Lib.hid hown; have HA5 := Lib.hid happ; clear hown happ)
          have HT5 : Hid (w5.ownsRow w.heap.size 30 2 (.slice X (len + 1) cap) (dedup (actL (l.take (k + 1)))).length (cells2 (dedup (actL (l.take (k + 1)))))) := Lib.hid (by
            rw [HT.out, cells2_app, List.length_append, HLEN.out]
            exact HO5.out)
          have HB5 : Hid (Below w.heap.size w w5) := HA3.out.trans (HA5.out.belowS HA1.out HA6.out)
          go_roundw
          case rel => exact ⟨k + 1, by omega, by go_num, HT5.out, HB5.out⟩
          case measure => simp [intOf]; omega
    · obtain rfl : k = n := by omega
      rw [List.take_of_length_le (Nat.le_of_eq HNL.out.symm)] at HP
      obtain ⟨X, cap, hv, _⟩ := own_formS HP.out
      subst hv
      go_wp2_with fail
      go_ret
      exact ⟨X, cap, rfl, HP.out, HBW.out⟩
end Mb
end Go.Proofs.Ytddoepaplbnlcaa

/- The walk of refmeshref46's Choose. -/
namespace Go.Proofs.Ytddoepaplbnlcaa
open Go.RowKit Go.Shelf
namespace Mb
set_option maxRecDepth 100000 in
set_option maxHeartbeats 2000000 in
theorem rchoose_calls (M : List Nat) (l : List Msg) (v : Value) (k : Int) (w : World) (h : Mo M l v w) (hln : l.length ≤ 1024) (_hk1 : -9223372036854775808 ≤ k) (_hk2 : k ≤ 9223372036854775807) :
    Calls Try.prog 14 #[v, .int .i64 k] w (ChP l k w) := by
  obtain ⟨A, n, c, xs, rfl, hm, hl⟩ := h
  have hnl : n = l.length := by rw [← hl, List.length_map]; exact hm.hn.symm
  have hn1 : n ≤ 1024 := by rw [hnl]; exact hln
  have HM := Lib.hid hm
  have HL := Lib.hid hl
  have HNL := Lib.hid hnl
  have hb2 := below2 w (.cells #[.int .i64 0, .int .i64 0] 30) (.cells #[.int .i64 0, .int .i64 0] 30)
  have k0 : ((w.alloc (.cells #[.int .i64 0, .int .i64 0] 30)).alloc (.cells #[.int .i64 0, .int .i64 0] 30)).heap[w.heap.size]? = _ := (Below.heap_alloc _ _ _ (by simp)).trans (heap_alloc_new _ _)
  have k1 : ((w.alloc (.cells #[.int .i64 0, .int .i64 0] 30)).alloc (.cells #[.int .i64 0, .int .i64 0] 30)).heap[w.heap.size + 1]? = _ := heap_alloc2_new _ _ _
  clear hm hl hnl
  go_enter Try.func14, Try.ntmps14
  go_upto_region 1 with (fail)
  generalize ((w.alloc _).alloc _) = w2 at *
  have HB2 := Lib.hid hb2
  have HM2 := Lib.hid (HM.out.below hb2)
  have m00 : w2.cell? ⟨w.heap.size, 0, none⟩ = some _ := (cell_of_row _ _ 0 _ _ _ k0).trans rfl
  have m01 : w2.cell? ⟨w.heap.size, 1, none⟩ = some _ := (cell_of_row _ _ 1 _ _ _ k0).trans rfl
  have m10 : w2.cell? ⟨w.heap.size + 1, 0, none⟩ = some _ := (cell_of_row _ _ 0 _ _ _ k1).trans rfl
  have m11 : w2.cell? ⟨w.heap.size + 1, 1, none⟩ = some _ := (cell_of_row _ _ 1 _ _ _ k1).trans rfl
  have f00 : w2.frozen? ⟨w.heap.size, 0, none⟩ = false := frozen_of_row _ _ _ _ _ k0
  have f01 : w2.frozen? ⟨w.heap.size, 1, none⟩ = false := frozen_of_row _ _ _ _ _ k0
  have f10 : w2.frozen? ⟨w.heap.size + 1, 0, none⟩ = false := frozen_of_row _ _ _ _ _ k1
  have f11 : w2.frozen? ⟨w.heap.size + 1, 1, none⟩ = false := frozen_of_row _ _ _ _ _ k1
  clear hb2 k0 k1
  have HBF : ∀ u0 u1 u2 u3, Below w.heap.size w ((((w2.setCell ⟨w.heap.size, 0, none⟩ u0).setCell ⟨w.heap.size, 1, none⟩ u1).setCell ⟨w.heap.size + 1, 0, none⟩ u2).setCell ⟨w.heap.size + 1, 1, none⟩ u3) := fun u0 u1 u2 u3 =>
      Below.setCell (p := ⟨w.heap.size + 1, 1, none⟩) (Below.setCell (p := ⟨w.heap.size + 1, 0, none⟩) (Below.setCell (p := ⟨w.heap.size, 1, none⟩) (Below.setCell (p := ⟨w.heap.size, 0, none⟩) HB2.out (Nat.le_refl _) _) (Nat.le_refl _) _) (Nat.le_succ _) _) (Nat.le_succ _) _
  have HBG : ∀ u0 u1 u2 u3, Below w.heap.size w ((((w2.setCell ⟨w.heap.size + 1, 0, none⟩ u2).setCell ⟨w.heap.size + 1, 1, none⟩ u3).setCell ⟨w.heap.size, 0, none⟩ u0).setCell ⟨w.heap.size, 1, none⟩ u1) := fun u0 u1 u2 u3 =>
      Below.setCell (p := ⟨w.heap.size, 1, none⟩) (Below.setCell (p := ⟨w.heap.size, 0, none⟩) (Below.setCell (p := ⟨w.heap.size + 1, 1, none⟩) (Below.setCell (p := ⟨w.heap.size + 1, 0, none⟩) HB2.out (Nat.le_succ _) _) (Nat.le_succ _) _) (Nat.le_refl _) _) (Nat.le_refl _) _
  have HB6 := Lib.hid (And.intro HBF HBG)
  clear HBF HBG
  by_cases hn0 : n = 0
  · subst hn0
    have HP2 : Hid (∀ w', Below w.heap.size w w' → ChP l k w (.returned (.tuple #[.agg #[.int .i64 0, .int .i64 0], .agg #[.int .i64 0, .int .i64 0], .bool false])) w') := Lib.hid (fun w' hb => by
      refine ⟨hb, ?_⟩
      rw [List.getElem?_eq_none (by rw [← HNL.out]; exact Nat.zero_le _)])
    go_wp2_with fail
    refine bodyPost_ret (v := .tuple #[.agg #[.int .i64 0, .int .i64 0], .agg #[.int .i64 0, .int .i64 0], .bool false]) ?_ rfl (HP2.out _ ?_)
    · simp [results, Try.results14, go_sem, *]
    · exact HB6.out.1 _ _ _ _
  · have q0 : ((n : Int) == 0) = false := by rw [beq_eq_false_iff_ne]; omega
    have hne : ¬ (n : Int) = 0 := by omega
    have hP : chI k n < n := chI_lt k (by omega)
    have htb := tm_bounds k (n := n) (by omega)
    obtain ⟨P, HP⟩ : ∃ P, Hid (chI k n = P) := ⟨_, rfl⟩
    have hce : (if k.tmod (n : Int) < 0 then k.tmod (n : Int) + n else k.tmod n) = (P : Int) := by
      rw [← HP.out]
      unfold chI
      have h2 := Int.emod_nonneg k hne
      rw [Int.toNat_of_nonneg h2, Int.tmod_eq_emod]
      have h3 := Int.emod_lt_of_pos k (by omega : (0 : Int) < (n : Int))
      split <;> split <;> omega
    rw [HP.out] at hP
    have hPx : P < xs.length := by rw [HM.out.hn]; exact hP
    have hPl : P < l.length := by rw [← HNL.out]; exact hP
    obtain ⟨b, off, e, hbl, x0, x1, x2, x3, x4, x5⟩ := rd6 HM2.out.rd P hPx
    subst e
    have hml : l[P] = xs[P].m := by simp only [← HL.out, List.getElem_map]
    have HP2 : Hid (∀ w', Below w.heap.size w w' → ChP l k w (.returned (.tuple #[.agg #[.int .i64 xs[P].m.a1, .int .i64 xs[P].m.a2], .agg #[.int .i64 xs[P].m.i1, .int .i64 xs[P].m.i2], .bool true])) w') := Lib.hid (fun w' hb => by
      refine ⟨hb, ?_⟩
      rw [← HNL.out, HP.out, List.getElem?_eq_getElem hPl, hml])
    generalize xs[P] = z at *
    have hw3 : IntKind.i64.wrap (P : Int) = (P : Int) := IntWalk.i64_in _ (by omega)
    have j0 : (0 : Int) ≤ (P : Int) := by omega
    have j1 : (P : Int) < (n : Int) := by omega
    obtain ⟨t, ht⟩ : ∃ t, k.tmod (n : Int) = t := ⟨_, rfl⟩
    rw [ht] at hce htb
    have hw1 : IntKind.i64.wrap t = t := IntWalk.i64_in _ (by omega)
    clear hml
    by_cases hneg : t < 0
    · rw [if_pos hneg] at hce
      have hw2 : IntKind.i64.wrap (t + (n : Int)) = (P : Int) := by rw [hce]; exact hw3
      have d1 : decide (t < 0) = true := decide_eq_true hneg
      go_upto_region 6 with (fail)
      clear hw1 hw2 hce ht htb hne d1 hneg
      go_region
      all_goals
        go_wp2_with fail
        refine bodyPost_ret (v := .tuple #[.agg #[.int .i64 z.m.a1, .int .i64 z.m.a2], .agg #[.int .i64 z.m.i1, .int .i64 z.m.i2], .bool true]) ?_ rfl (HP2.out _ ?_)
        · simp [results, Try.results14, go_sem, *]
        · first | exact (HB6.out.1 _ _ _ _).drew | exact (HB6.out.2 _ _ _ _).drew | exact (HB6.out.1 _ _ _ _).drew.drew | exact (HB6.out.2 _ _ _ _).drew.drew
    · rw [if_neg hneg] at hce
      have d1 : decide (t < 0) = false := decide_eq_false hneg
      subst hce
      go_upto_region 6 with (fail)
      clear hw1 htb hne d1 hneg
      go_region
      all_goals
        go_wp2_with fail
        refine bodyPost_ret (v := .tuple #[.agg #[.int .i64 z.m.a1, .int .i64 z.m.a2], .agg #[.int .i64 z.m.i1, .int .i64 z.m.i2], .bool true]) ?_ rfl (HP2.out _ ?_)
        · simp [results, Try.results14, go_sem, *]
        · first | exact (HB6.out.1 _ _ _ _).drew | exact (HB6.out.2 _ _ _ _).drew | exact (HB6.out.1 _ _ _ _).drew.drew | exact (HB6.out.2 _ _ _ _).drew.drew
end Mb
end Go.Proofs.Ytddoepaplbnlcaa

/- The encoding of a list of messages; the walk of Box.Encode. -/
namespace Go.Proofs.Ytddoepaplbnlcaa
open Go.RowKit Go.Shelf
namespace Mb
open Wr Wi

def encA (l : List Int) : List UInt8 := (l.map fun x => enc (u64n x)).flatten
def encM (m : Msg) : List UInt8 := encID m.a1 m.a2 ++ encID m.i1 m.i2 ++ (enc m.me.size ++ strB m.me) ++ enc m.ar.length ++ encA m.ar
def encMs (l : List Msg) : List UInt8 := (l.map encM).flatten
def encL (l : List Msg) : List UInt8 := enc l.length ++ encMs l
theorem enc_le (n : Nat) : (enc n).length ≤ 9 := by have h1 := enc_len n; have h2 := digits_len_le n; omega
theorem encID_le (a b : Int) : (encID a b).length ≤ 18 := by
  have h1 := enc_le (u64n a)
  have h2 := enc_le (u64n b)
  unfold encID; rw [List.length_append]; omega
theorem encA_succ (l : List Int) (k : Nat) (hk : k < l.length) : encA (l.take (k + 1)) = encA (l.take k) ++ enc (u64n l[k]) := by
  unfold encA; rw [List.take_succ_eq_append_getElem hk, List.map_append, List.flatten_append]; simp
theorem encMs_succ (l : List Msg) (k : Nat) (hk : k < l.length) : encMs (l.take (k + 1)) = encMs (l.take k) ++ encM l[k] := by
  unfold encMs; rw [List.take_succ_eq_append_getElem hk, List.map_append, List.flatten_append]; simp
theorem encA_len (l : List Int) : (encA l).length ≤ 9 * l.length := by
  induction l with
  | nil => simp [encA]
  | cons x l ih =>
    have h1 := enc_le (u64n x)
    have : encA (x :: l) = enc (u64n x) ++ encA l := by simp [encA]
    rw [this, List.length_append, List.length_cons]; omega
theorem valid_sizes {m : Msg} (h : valid m = true) : m.me.size ≤ 31 ∧ m.ar.length ≤ 9 := by
  unfold valid at h
  simp at h
  omega
theorem encM_len (m : Msg) (h : valid m = true) : (encM m).length ≤ 170 := by
  have h1 := encID_le m.a1 m.a2
  have h2 := encID_le m.i1 m.i2
  have h3 := enc_le m.me.size
  have h4 := enc_le m.ar.length
  have h5 := encA_len m.ar
  obtain ⟨h6, h7⟩ := valid_sizes h
  have h8 : (strB m.me).length = m.me.size := strB_length _
  unfold encM
  simp only [List.length_append]
  omega
theorem encMs_len (l : List Msg) (h : ∀ m ∈ l, valid m = true) : (encMs l).length ≤ 170 * l.length := by
  induction l with
  | nil => simp [encMs]
  | cons x l ih =>
    have h1 := encM_len x (h x List.mem_cons_self)
    have h2 := ih (fun m hm => h m (List.mem_cons_of_mem _ hm))
    have : encMs (x :: l) = encM x ++ encMs l := by simp [encMs]
    rw [this, List.length_append, List.length_cons]; omega
/-- these bytes lie in a slice of the call's own -/
def EncP (w : World) (l : List UInt8) (X : Option Addr) (q c : Nat) (wr : World) : Prop :=
  q = l.length ∧ OB wr w.heap.size (.slice X q c) l ∧ Below w.heap.size w wr
theorem EncP.len {w wr : World} {l : List UInt8} {X : Option Addr} {q c : Nat} (h : EncP w l X q c wr) : l.length = q := h.1.symm
theorem EncP.ext {w wr : World} {l : List UInt8} {X : Option Addr} {q c : Nat} (h : EncP w l X q c wr) : Ext wr w.heap.size (.slice X q c) l (.slice X q c) wr := by
  obtain ⟨rfl, h, _⟩ := h
  exact ⟨X, c, rfl, h, App.refl _ _⟩
theorem EncP.to {w w1 w2 : World} {l : List UInt8} {v0 v : Value} {l0 : List UInt8} (hb : Below w.heap.size w w1) (h0 : Ext w1 w.heap.size v0 l0 v0 w1) (h : Ext w1 w.heap.size v0 l v w2) : ∃ X c, v = .slice X l.length c ∧ EncP w l X l.length c w2 := by
  have hb2 := Ext.below h0 hb.size h
  obtain ⟨X, c, rfl, ho, _⟩ := h
  exact ⟨X, c, rfl, rfl, ho, hb.trans hb2⟩

set_option maxRecDepth 100000 in
set_option maxHeartbeats 4000000 in
theorem encode_calls (K : List Nat) (B g : Nat) (l : List Msg) (w : World) (h : Bx K B g l w) :
    Calls Try.prog 29 #[.pointer (some ⟨g, 0, none⟩)] w (NewB w (encL l)) := by
  obtain ⟨N, A, n, c, xs, hbx, hl, hi, _⟩ := h
  have hnl : n = l.length := by rw [← hl, List.length_map]; exact hbx.hn.symm
  have hn1 : n ≤ 1024 := by rw [hnl]; exact hi.n
  have HX := Lib.hid hbx
  have HL := Lib.hid hl
  have HI := Lib.hid hi
  have HNL := Lib.hid hnl
  have g1 : w.cell? ⟨g, 0, none⟩ = some (.slice A n c) := (cell_of_row _ _ 0 _ _ _ hbx.hd).trans rfl
  have HU := Lib.hid (appendNat_calls w.heap.size (.slice none 0 0) [] n (by omega) w (Ext.nil w) (by simp) (Nat.le_refl _))
  clear hbx hl hi hnl
  go_enter Try.func29, Try.ntmps29
  go_wp2_with fail
  refine HU.out.mono ?_
  rintro e w1 ⟨v1, rfl, hx1⟩
  have hb1 := Ext.below (Ext.nil w) (Nat.le_refl _) hx1
  obtain ⟨X1, q1, rfl, ho1, _⟩ := hx1
  rw [List.nil_append] at ho1 ⊢
  have HR1 : Hid (EncP w (enc n) X1 (enc n).length q1 w1) := ⟨rfl, ho1, hb1⟩
  have g2 : w1.cell? ⟨g, 0, none⟩ = some (.slice A n c) := (cell_of_row _ _ 0 _ _ _ (HX.out.below hb1).hd).trans rfl
  clear hb1 ho1 g1 HU
  generalize (enc n).length = ql at *
  go_wp2_with fail
  go_loopw [3, 20] (fun v i wr => ∃ k : Nat, ∃ X q c', k ≤ n ∧ i = .int .i64 k ∧ v = .slice X q c' ∧ EncP w (enc n ++ encMs (l.take k)) X q c' wr) (fun _ i _ => n - (intOf i).toNat)
  case atStart => exact ⟨0, _, _, _, by omega, rfl, rfl, by simpa [encMs] using HR1.out⟩
  case round =>
    obtain ⟨k, X, q, c', hk, rfl, rfl, hE⟩ := hrel
    have HE := Lib.hid hE
    have hq2 : q ≤ 200000 := by
      have h1 := enc_le n
      have h2 := encMs_len (l.take k) (fun m hm => HI.out.v m (List.mem_of_mem_take hm))
      rw [List.length_take] at h2
      rw [hE.1, List.length_append]; omega
    have HBX := Lib.hid (HX.out.below hE.2.2)
    clear hE
    have j0 : (0 : Int) ≤ (k : Int) := by omega
    by_cases hlt : k < n
    · have j1 : (k : Int) < (n : Int) := by omega
      have hkx : k < xs.length := by rw [HX.out.hn]; exact hlt
      have hkl : k < l.length := by rw [← HNL.out]; exact hlt
      obtain ⟨b, off, e, hbl, x0, x1, x2, x3, x4, x5⟩ := rd6 HBX.out.rd k hkx
      subst e
      have hml : l[k] = xs[k].m := by simp only [← HL.out, List.getElem_map]
      have hval : valid xs[k].m = true := by rw [← hml]; exact HI.out.v _ (List.getElem_mem _)
      have HZ := Lib.hid (HX.out.ok _ (List.getElem_mem hkx))
      obtain ⟨O, HOO⟩ : ∃ x, Hid (x = enc n ++ encMs (l.take k)) := ⟨_, rfl⟩
      rw [← HOO.out] at HE
      have HE2 : Hid (enc n ++ encMs (l.take (k + 1)) = O ++ encM xs[k].m) := by
        show _ = _; rw [HOO.out, encMs_succ l k hkl, hml, List.append_assoc]
      generalize xs[k] = z at *
      obtain ⟨hv1, hv2⟩ := valid_sizes hval
      clear hml hval
      obtain ⟨na, HNA⟩ : ∃ x, Hid (x = z.m.ar.length) := ⟨_, rfl⟩
      rw [← HNA.out] at hv2 x5
      have hws : w.heap.size ≤ wr.heap.size := HE.out.2.2.size
      have hS0 : ∀ b, (Value.slice X q c').ownBlock = some b → b < wr.heap.size := fun b hb => (HE.out.2.1.lt b hb).2
      go_upto_region 5 with (fail)
      have hk3 := heap_alloc_new wr (.cells #[.int .i64 z.m.a1, .int .i64 z.m.a2, .int .i64 z.m.i1, .int .i64 z.m.i2, .string z.m.me, .slice z.a na z.c] 76)
      have hb3 := below1 wr (.cells #[.int .i64 z.m.a1, .int .i64 z.m.a2, .int .i64 z.m.i1, .int .i64 z.m.i2, .string z.m.me, .slice z.a na z.c] 76)
      obtain ⟨S, HS⟩ : ∃ S, Hid (S = (Value.slice X q c').ownBlock.toList) := ⟨_, rfl⟩
      have hS : wr.heap.size ∉ S := by rw [HS.out]; simp only [Option.mem_toList]; intro h; have := hS0 _ h; omega
      generalize wr.alloc _ = w3 at *
      have m0 : ∀ w', Chg S w3 w' → w'.cell? ⟨wr.heap.size, 0, none⟩ = some (.int .i64 z.m.a1) := fun w' h => (h.cellAt hk3 hS).trans rfl
      have m1 : ∀ w', Chg S w3 w' → w'.cell? ⟨wr.heap.size, 1, none⟩ = some (.int .i64 z.m.a2) := fun w' h => (h.cellAt hk3 hS).trans rfl
      have m2 : ∀ w', Chg S w3 w' → w'.cell? ⟨wr.heap.size, 2, none⟩ = some (.int .i64 z.m.i1) := fun w' h => (h.cellAt hk3 hS).trans rfl
      have m3 : ∀ w', Chg S w3 w' → w'.cell? ⟨wr.heap.size, 3, none⟩ = some (.int .i64 z.m.i2) := fun w' h => (h.cellAt hk3 hS).trans rfl
      have m4 : ∀ w', Chg S w3 w' → w'.cell? ⟨wr.heap.size, 4, none⟩ = some (.string z.m.me) := fun w' h => (h.cellAt hk3 hS).trans rfl
      have M5 : Hid (∀ w', Chg S w3 w' → w'.cell? ⟨wr.heap.size, 5, none⟩ = some (.slice z.a na z.c)) := fun w' h => (h.cellAt hk3 hS).trans rfl
      have hws3 : w.heap.size ≤ w3.heap.size := Nat.le_trans hws hb3.size
      have HB3 := Lib.hid (HE.out.2.2.trans ((hb3.trans ((below_drew w3).mono hb3.size)).mono hws))
      have HE3 : Hid (Ext w3.drew w.heap.size (.slice X q c') O (.slice X q c') w3.drew) := by
        have h := HE.out.2.1.below (hb3.trans ((below_drew w3).mono hb3.size))
        have e := HE.out.1
        subst e
        exact ⟨X, c', rfl, h, App.refl _ _⟩
      have HOL := Lib.hid HE.out.len
      have HU := Lib.hid (appendID_calls w.heap.size _ O z.m.a1 z.m.a2 w3.drew HE3.out (by rw [HOL.out]; omega) hws3)
      have HU2 : Hid (∀ v1 w4, Ext w3.drew w.heap.size (.slice X q c') (O ++ encID z.m.a1 z.m.a2) v1 w4 → Calls Try.prog 59 #[v1, .agg #[.int .i64 z.m.i1, .int .i64 z.m.i2]] w4 (ExtPost w4 w.heap.size v1 (O ++ encID z.m.a1 z.m.a2 ++ encID z.m.i1 z.m.i2))) := fun v1 w4 h =>
        appendID_calls w.heap.size v1 _ _ _ w4 h.again (by have := encID_le z.m.a1 z.m.a2; rw [List.length_append, HOL.out]; omega) (Nat.le_trans hws3 h.size)
      have HU3 : Hid (∀ v1 w4, Ext w3.drew w.heap.size (.slice X q c') (O ++ encID z.m.a1 z.m.a2 ++ encID z.m.i1 z.m.i2) v1 w4 → Calls Try.prog 58 #[v1, .string z.m.me] w4 (ExtPost w4 w.heap.size v1 (O ++ encID z.m.a1 z.m.a2 ++ encID z.m.i1 z.m.i2 ++ (enc z.m.me.size ++ strB z.m.me)))) := fun v1 w4 h =>
        appendString_calls w.heap.size v1 _ _ w4 h.again (by have := encID_le z.m.a1 z.m.a2; have := encID_le z.m.i1 z.m.i2; rw [List.length_append, List.length_append, HOL.out]; omega) (Nat.le_trans hws3 h.size) (by omega)
      clear hk3 hb3 x0 x1 x2 x3 x4 x5 hS0
      have tok : True := trivial
      go_region_held3 (fun w' => Chg S w3 w') (first | exact (Chg.refl _ _).drew | assumption) (first | (go_at_call 59; have _t := tok; refine HU.out.mono ?_; rintro e w4 ⟨v4, rfl, hx4⟩; have HX4 := Lib.hid hx4; have hc4 : Chg S w3 w4 := (Chg.refl S w3).drew.trans' (by rw [HS.out]; exact hx4.chg); clear hx4 tok _t) | (go_at_call 59; refine (HU2.out _ _ HX4.out).mono ?_; rintro e w5 ⟨v5, rfl, hx5⟩; have HX5 := Lib.hid (HX4.out.trans hx5); have hc5 : Chg S w3 w5 := (Chg.refl S w3).drew.trans' (by rw [HS.out]; exact HX5.out.chg); clear hx5) | (go_at_call 58; refine (HU3.out _ _ HX5.out).mono ?_; rintro e w6 ⟨v6, rfl, hx6⟩; have HX6 := Lib.hid (HX5.out.trans hx6); have hc6 : Chg S w3 w6 := (Chg.refl S w3).drew.trans' (by rw [HS.out]; exact HX6.out.chg); clear hx6))
      obtain ⟨O6, HO6⟩ : ∃ x, Hid (x = O ++ encID z.m.a1 z.m.a2 ++ encID z.m.i1 z.m.i2 ++ (enc z.m.me.size ++ strB z.m.me)) := ⟨_, rfl⟩
      have hO6 : O6.length ≤ 200100 := by
        have h1 := encID_le z.m.a1 z.m.a2
        have h2 := encID_le z.m.i1 z.m.i2
        have h3 := enc_le z.m.me.size
        have h4 : (strB z.m.me).length = z.m.me.size := strB_length _
        rw [HO6.out]
        simp only [List.length_append, HOL.out]
        omega
      rw [← HO6.out] at HX6
      have hm5 := M5.out _ hc6
      have HU6 := Lib.hid (appendNat_calls w.heap.size v6 O6 na (by omega) w6 HX6.out.again (by omega) (Nat.le_trans hws3 HX6.out.size))
      clear m0 m1 m2 m3 m4 hc4 hc5 hc6 HU HU2 HU3 HX4 HX5
      go_wp2_with fail
      refine HU6.out.mono ?_
      rintro e w7 ⟨v7, rfl, hx7⟩
      have HX7 := Lib.hid (HX6.out.trans hx7)
      clear hx7 hm5 HU6
      have hm7 := M5.out w7 ((Chg.refl S w3).drew.trans' (by rw [HS.out]; exact HX7.out.chg))
      obtain ⟨O7, HO7⟩ : ∃ x, Hid (x = O6 ++ enc na) := ⟨_, rfl⟩
      rw [← HO7.out] at HX7
      have hO7 : O7.length ≤ 200200 := by
        have h1 := enc_le na
        rw [HO7.out, List.length_append]; omega
      obtain ⟨X7, c7, e7, hE7⟩ := EncP.to HB3.out HE3.out HX7.out
      subst e7
      have HE7 := Lib.hid hE7
      clear hE7
      obtain ⟨q7, HQ7⟩ : ∃ x, Hid (x = O7.length) := ⟨_, rfl⟩
      rw [← HQ7.out] at HE7 ⊢
      have i0 : (0 : Int) ≤ (na : Int) := by omega
      have i1 : (na : Int) ≤ 9 := by omega
      go_wp2_with fail
      clear hm7 M5
      go_loopw [3, 43] (fun v i wr => ∃ k : Nat, ∃ X q c', k ≤ na ∧ i = .int .i64 k ∧ v = .slice X q c' ∧ EncP w (O7 ++ encA (z.m.ar.take k)) X q c' wr) (fun _ i _ => na - (intOf i).toNat)
      case atStart => exact ⟨0, _, _, _, by omega, rfl, rfl, by simpa [encA] using HE7.out⟩
      case round =>
        obtain ⟨j, Y, p, d, hj, rfl, rfl, hF⟩ := hrel
        have HF := Lib.hid hF
        have hp2 : p ≤ 200300 := by
          have h2 := encA_len (z.m.ar.take j)
          rw [List.length_take] at h2
          rw [hF.1, List.length_append]; omega
        clear hF
        have jj0 : (0 : Int) ≤ (j : Int) := by omega
        by_cases hlt2 : j < na
        · have jj1 : (j : Int) < (na : Int) := by omega
          have hjl : j < z.m.ar.length := by rw [← HNA.out]; exact hlt2
          obtain ⟨ba, oa, ea, y0⟩ := (HZ.out.rd.below HF.out.2.2) j _ (by rw [List.getElem?_map, List.getElem?_eq_getElem hjl]; rfl)
          obtain ⟨O8, HO8⟩ : ∃ x, Hid (x = O7 ++ encA (z.m.ar.take j)) := ⟨_, rfl⟩
          rw [← HO8.out] at HF
          have HE8 : Hid (O7 ++ encA (z.m.ar.take (j + 1)) = O8 ++ enc (u64n z.m.ar[j])) := by
            show _ = _; rw [HO8.out, encA_succ _ _ hjl, List.append_assoc]
          generalize z.m.ar[j] = y at *
          have HU8 := Lib.hid (appendNat_calls w.heap.size (.slice Y p d) O8 (u64n y) (u64n_lt y) wr HF.out.ext (by rw [HF.out.len]; omega) HF.out.2.2.size)
          rw [u64n_cast] at HU8
          rw [ea]
          go_wp2_with fail
          refine HU8.out.mono ?_
          rintro e w9 ⟨v9, rfl, hx9⟩
          obtain ⟨X9, c9, e9, hE9⟩ := EncP.to HF.out.2.2 HF.out.ext hx9
          subst e9
          rw [← HE8.out] at hE9 ⊢
          have HE9 := Lib.hid hE9
          clear hE9 hx9 y0 HU8
          generalize (O7 ++ encA (z.m.ar.take (j + 1))).length = q9 at *
          go_wp2_with fail
          go_roundw
          case rel => exact ⟨j + 1, _, _, _, by omega, by go_num, rfl, HE9.out⟩
          case measure => simp [intOf]; omega
        · have hjn : j = na := by omega
          have HF2 : Hid (EncP w (enc n ++ encMs (l.take (k + 1))) Y p d wr) := by
            have h := HF.out
            rw [hjn, HNA.out, List.take_length, HO7.out, HO6.out] at h
            show EncP _ _ _ _ _ _
            rw [HE2.out]
            unfold encM
            simpa only [List.append_assoc, HNA.out] using h
          clear hjn
          go_wp2_with fail
          go_roundw
          case rel => exact ⟨k + 1, _, _, _, by omega, by go_num, rfl, HF2.out⟩
          case measure => simp [intOf]; omega
    · have hkn : k = n := by omega
      have HF : Hid (NewB w (encL l) (.returned (.slice X q c')) wr) := by
        have h := HE.out
        rw [hkn, HNL.out, List.take_length] at h
        exact ⟨X, c', q, rfl, h.1, h.2.1, h.2.2⟩
      clear hkn
      go_wp2_with fail
      go_ret
      exact HF.out
end Mb
end Go.Proofs.Ytddoepaplbnlcaa

/- The walk of refmeshref46.Encode. -/
namespace Go.Proofs.Ytddoepaplbnlcaa
open Go.RowKit Go.Shelf
namespace Mb
open Wr Wi

theorem EncP.new {w w1 w2 : World} {l l2 : List UInt8} {X : Option Addr} {q c : Nat} {e : Ending} (h : EncP w l X q c w1) (hn : NewB w1 l2 e w2) : ∃ X2 c2, e = .returned (.slice X2 l2.length c2) ∧ EncP w l2 X2 l2.length c2 w2 ∧ Below w1.heap.size w1 w2 := by
  obtain ⟨X2, c2, k2, rfl, hk, ho, hb⟩ := hn
  subst hk
  exact ⟨X2, c2, rfl, ⟨rfl, ho.base h.2.2.size, h.2.2.trans (hb.mono h.2.2.size)⟩, hb⟩
theorem EncP.drew {w w1 : World} {l : List UInt8} {X : Option Addr} {q c : Nat} (h : EncP w l X q c w1) : EncP w l X q c w1.drew :=
  ⟨h.1, h.2.1.below (below_drew w1), h.2.2.trans ((below_drew w1).mono h.2.2.size)⟩
theorem EncP.uint {w w1 : World} {l : List UInt8} {X : Option Addr} {q c : Nat} (h : EncP w l X q c w1) (hl : q ≤ 900000) (N : Nat) (hN : N < 18446744073709551616) :
    Calls Try.prog 60 #[.slice X q c, .int .u64 (N : Int)] w1 (NewB w1 (l ++ enc N)) := ruint_calls X q c l N w1 h.len h.2.1.rb.1 (by omega) hN

set_option maxRecDepth 100000 in
set_option maxHeartbeats 4000000 in
theorem rencode_calls (M : List Nat) (l : List Msg) (v : Value) (w : World) (h : Mo M l v w) (hln : l.length ≤ 1024) (hv : ∀ m ∈ l, valid m = true) :
    Calls Try.prog 30 #[v] w (NewB w (encL l)) := by
  obtain ⟨A, n, c, xs, rfl, hm, hl⟩ := h
  have hnl : n = l.length := by rw [← hl, List.length_map]; exact hm.hn.symm
  have hn1 : n ≤ 1024 := by rw [hnl]; exact hln
  have HM := Lib.hid hm
  have HL := Lib.hid hl
  have HNL := Lib.hid hnl
  have HV := Lib.hid hv
  have HU := Lib.hid (ruint_calls none 0 0 [] n w rfl RB.nil (by omega) (by omega))
  clear hm hl hnl hv
  go_enter Try.func30, Try.ntmps30
  go_wp2_with fail
  refine HU.out.mono ?_
  rintro e w1 ⟨X1, c1, q1, rfl, hq1, ho1, hb1⟩
  rw [List.nil_append] at hq1 ho1
  have HR1 : Hid (EncP w (enc n) X1 q1 c1 w1) := ⟨hq1, ho1, hb1⟩
  clear hb1 ho1 hq1 HU
  go_wp2_with fail
  go_loopw [3, 4] (fun v i wr => ∃ k : Nat, ∃ X q c', k ≤ n ∧ i = .int .i64 k ∧ v = .slice X q c' ∧ EncP w (enc n ++ encMs (l.take k)) X q c' wr) (fun _ i _ => n - (intOf i).toNat)
  case atStart => exact ⟨0, _, _, _, by omega, rfl, rfl, by simpa [encMs] using HR1.out⟩
  case round =>
    obtain ⟨k, X, q, c', hk, rfl, rfl, hE⟩ := hrel
    have HE := Lib.hid hE
    have hq2 : q ≤ 200000 := by
      have h1 := enc_le n
      have h2 := encMs_len (l.take k) (fun m hm => HV.out m (List.mem_of_mem_take hm))
      rw [List.length_take] at h2
      rw [hE.1, List.length_append]; omega
    have HBX := Lib.hid (HM.out.below hE.2.2)
    clear hE
    have j0 : (0 : Int) ≤ (k : Int) := by omega
    by_cases hlt : k < n
    · have j1 : (k : Int) < (n : Int) := by omega
      have hkx : k < xs.length := by rw [HM.out.hn]; exact hlt
      have hkl : k < l.length := by rw [← HNL.out]; exact hlt
      obtain ⟨b, off, e, hbl, x0, x1, x2, x3, x4, x5⟩ := rd6 HBX.out.rd k hkx
      obtain ⟨b', off', e', hbl0, _, _, _, _, _, X5⟩ := rd6 HM.out.rd k hkx
      subst e
      injection e' with e'
      injection e' with e1 e2
      subst e1 e2
      have hml : l[k] = xs[k].m := by simp only [← HL.out, List.getElem_map]
      have hval : valid xs[k].m = true := by rw [← hml]; exact HV.out _ (List.getElem_mem _)
      have HZ := Lib.hid (HM.out.ok _ (List.getElem_mem hkx))
      obtain ⟨O, HOO⟩ : ∃ x, Hid (x = enc n ++ encMs (l.take k)) := ⟨_, rfl⟩
      rw [← HOO.out] at HE
      have HE2 : Hid (enc n ++ encMs (l.take (k + 1)) = O ++ encM xs[k].m) := by
        show _ = _; rw [HOO.out, encMs_succ l k hkl, hml, List.append_assoc]
      generalize xs[k] = z at *
      obtain ⟨hv1, hv2⟩ := valid_sizes hval
      clear hml hval
      obtain ⟨na, HNA⟩ : ∃ x, Hid (x = z.m.ar.length) := ⟨_, rfl⟩
      rw [← HNA.out] at hv2 x5 X5
      have M5 : Hid (∀ w', Below w.heap.size w w' → w'.cell? ⟨b, off + k * 6 + 5, none⟩ = some (.slice z.a na z.c)) := fun w' h => (h.cell (p := ⟨b, off + k * 6 + 5, none⟩) hbl0).trans X5
      have m0 : ∀ w', Below wr.heap.size wr w' → w'.cell? ⟨b, off + k * 6, none⟩ = some (.int .i64 z.m.a1) := fun w' h => (h.cell (p := ⟨b, off + k * 6, none⟩) hbl).trans x0
      have m1 : ∀ w', Below wr.heap.size wr w' → w'.cell? ⟨b, off + k * 6 + 1, none⟩ = some (.int .i64 z.m.a2) := fun w' h => (h.cell (p := ⟨b, off + k * 6 + 1, none⟩) hbl).trans x1
      have m2 : ∀ w', Below wr.heap.size wr w' → w'.cell? ⟨b, off + k * 6 + 2, none⟩ = some (.int .i64 z.m.i1) := fun w' h => (h.cell (p := ⟨b, off + k * 6 + 2, none⟩) hbl).trans x2
      have m3 : ∀ w', Below wr.heap.size wr w' → w'.cell? ⟨b, off + k * 6 + 3, none⟩ = some (.int .i64 z.m.i2) := fun w' h => (h.cell (p := ⟨b, off + k * 6 + 3, none⟩) hbl).trans x3
      have m4 : ∀ w', Below wr.heap.size wr w' → w'.cell? ⟨b, off + k * 6 + 4, none⟩ = some (.string z.m.me) := fun w' h => (h.cell (p := ⟨b, off + k * 6 + 4, none⟩) hbl).trans x4
      have HOL := Lib.hid HE.out.len
      have HE3 := Lib.hid HE.out.drew
      have HU := Lib.hid (rid_calls X q c' O z.m.a1 z.m.a2 wr.drew HE3.out.len HE3.out.2.1.rb.1 (by omega))
      have HU2 : Hid (∀ Y d w4, EncP w (O ++ encID z.m.a1 z.m.a2) Y (O ++ encID z.m.a1 z.m.a2).length d w4 → Calls Try.prog 62 #[.slice Y (O ++ encID z.m.a1 z.m.a2).length d, .agg #[.int .i64 z.m.i1, .int .i64 z.m.i2]] w4 (NewB w4 (O ++ encID z.m.a1 z.m.a2 ++ encID z.m.i1 z.m.i2))) := fun Y d w4 h =>
        rid_calls Y _ d _ _ _ w4 rfl h.2.1.rb.1 (by have := encID_le z.m.a1 z.m.a2; rw [List.length_append, HOL.out]; omega)
      have HU3 : Hid (∀ Y d w4, EncP w (O ++ encID z.m.a1 z.m.a2 ++ encID z.m.i1 z.m.i2) Y (O ++ encID z.m.a1 z.m.a2 ++ encID z.m.i1 z.m.i2).length d w4 → Calls Try.prog 61 #[.slice Y (O ++ encID z.m.a1 z.m.a2 ++ encID z.m.i1 z.m.i2).length d, .string z.m.me] w4 (NewB w4 (O ++ encID z.m.a1 z.m.a2 ++ encID z.m.i1 z.m.i2 ++ (enc z.m.me.size ++ strB z.m.me)))) := fun Y d w4 h =>
        rstring_calls Y _ d _ _ w4 rfl h.2.1.rb.1 (by have := encID_le z.m.a1 z.m.a2; have := encID_le z.m.i1 z.m.i2; rw [List.length_append, List.length_append, HOL.out]; omega) (by omega)
      obtain ⟨p1, HP1⟩ : ∃ x, Hid (x = (O ++ encID z.m.a1 z.m.a2).length) := ⟨_, rfl⟩
      obtain ⟨p2, HP2⟩ : ∃ x, Hid (x = (O ++ encID z.m.a1 z.m.a2 ++ encID z.m.i1 z.m.i2).length) := ⟨_, rfl⟩
      rw [← HP1.out] at HU2
      rw [← HP2.out] at HU3
      obtain ⟨O6, HO6⟩ : ∃ x, Hid (x = O ++ encID z.m.a1 z.m.a2 ++ encID z.m.i1 z.m.i2 ++ (enc z.m.me.size ++ strB z.m.me)) := ⟨_, rfl⟩
      have hO6 : O6.length ≤ 200100 := by
        have h1 := encID_le z.m.a1 z.m.a2
        have h2 := encID_le z.m.i1 z.m.i2
        have h3 := enc_le z.m.me.size
        have h4 : (strB z.m.me).length = z.m.me.size := strB_length _
        rw [HO6.out]
        simp only [List.length_append, HOL.out]
        omega
      obtain ⟨q6, HQ6⟩ : ∃ x, Hid (x = O6.length) := ⟨_, rfl⟩
      rw [← HQ6.out] at hO6
      rw [← HO6.out] at HU3
      go_upto_region 5 with (fail)
      clear x0 x1 x2 x3 x4 x5 X5
      have tok : True := trivial
      go_region_held3 (fun w' => Below wr.heap.size wr w') (first | exact (Below.refl _ _).drew | assumption) (first | (go_at_call 62; have _t := tok; refine HU.out.mono ?_; intro e w4 hn4; obtain ⟨X4, d4, rfl, hE4, hb4⟩ := HE3.out.new hn4; rw [← HP1.out] at hE4 ⊢; have HE4 := Lib.hid hE4; have hc4 : Below wr.heap.size wr w4 := (below_drew wr).trans hb4; clear hn4 hE4 hb4 tok _t) | (go_at_call 62; refine (HU2.out _ _ _ HE4.out).mono ?_; intro e w5 hn5; obtain ⟨X5, d5, rfl, hE5, hb5⟩ := HE4.out.new hn5; rw [← HP2.out] at hE5 ⊢; have HE5 := Lib.hid hE5; have hc5 : Below wr.heap.size wr w5 := hc4.trans (hb5.mono hc4.size); clear hn5 hE5 hb5) | (go_at_call 61; refine (HU3.out _ _ _ HE5.out).mono ?_; intro e w6 hn6; obtain ⟨X6, d6, rfl, hE6, hb6⟩ := HE5.out.new hn6; rw [← HQ6.out] at hE6 ⊢; have HE6 := Lib.hid hE6; have hc6 : Below wr.heap.size wr w6 := hc5.trans (hb6.mono hc5.size); clear hn6 hE6 hb6))
      have hm5 := M5.out _ HE6.out.2.2
      have HU6 := Lib.hid (HE6.out.uint (by omega) na (by omega))
      clear m0 m1 m2 m3 m4 hc4 hc5 hc6 HU HU2 HU3 HE4 HE5 HP1 HP2
      go_wp2_with fail
      refine HU6.out.mono ?_
      intro e w7 hn7
      obtain ⟨X7, d7, rfl, hE7, _⟩ := HE6.out.new hn7
      obtain ⟨O7, HO7⟩ : ∃ x, Hid (x = O6 ++ enc na) := ⟨_, rfl⟩
      rw [← HO7.out] at hE7 ⊢
      have hO7 : O7.length ≤ 200200 := by
        have h1 := enc_le na
        rw [HO7.out, List.length_append, ← HQ6.out]; omega
      have HE7 := Lib.hid hE7
      clear hE7 hm5 HU6 hn7
      obtain ⟨q7, HQ7⟩ : ∃ x, Hid (x = O7.length) := ⟨_, rfl⟩
      rw [← HQ7.out] at HE7 ⊢
      have i0 : (0 : Int) ≤ (na : Int) := by omega
      have i1 : (na : Int) ≤ 9 := by omega
      go_wp2_with fail
      go_loopw [3, 5] (fun v i wr => ∃ k : Nat, ∃ X q c', k ≤ na ∧ i = .int .i64 k ∧ v = .slice X q c' ∧ EncP w (O7 ++ encA (z.m.ar.take k)) X q c' wr) (fun _ i _ => na - (intOf i).toNat)
      case atStart => exact ⟨0, _, _, _, by omega, rfl, rfl, by simpa [encA] using HE7.out⟩
      case round =>
        obtain ⟨j, Y, p, d, hj, rfl, rfl, hF⟩ := hrel
        have HF := Lib.hid hF
        have hp2 : p ≤ 200300 := by
          have h2 := encA_len (z.m.ar.take j)
          rw [List.length_take] at h2
          rw [hF.1, List.length_append]; omega
        have hm8 := M5.out _ hF.2.2
        clear hF
        have jj0 : (0 : Int) ≤ (j : Int) := by omega
        by_cases hlt2 : j < na
        · have jj1 : (j : Int) < (na : Int) := by omega
          have hjl : j < z.m.ar.length := by rw [← HNA.out]; exact hlt2
          obtain ⟨ba, oa, ea, y0⟩ := (HZ.out.rd.below HF.out.2.2) j _ (by rw [List.getElem?_map, List.getElem?_eq_getElem hjl]; rfl)
          obtain ⟨O8, HO8⟩ : ∃ x, Hid (x = O7 ++ encA (z.m.ar.take j)) := ⟨_, rfl⟩
          rw [← HO8.out] at HF
          have HE8 : Hid (O7 ++ encA (z.m.ar.take (j + 1)) = O8 ++ enc (u64n z.m.ar[j])) := by
            show _ = _; rw [HO8.out, encA_succ _ _ hjl, List.append_assoc]
          generalize z.m.ar[j] = y at *
          have HU8 := Lib.hid (HF.out.uint (by omega) (u64n y) (u64n_lt y))
          rw [u64n_cast] at HU8
          have hm9 := hm8
          rw [ea] at hm9
          clear ea hm8
          go_wp2_with fail
          refine HU8.out.mono ?_
          intro e w9 hn9
          obtain ⟨X9, d9, rfl, hE9, _⟩ := HF.out.new hn9
          rw [← HE8.out] at hE9 ⊢
          have HE9 := Lib.hid hE9
          clear hE9 hn9 y0 HU8 hm9
          generalize (O7 ++ encA (z.m.ar.take (j + 1))).length = q9 at *
          go_wp2_with fail
          go_roundw
          case rel => exact ⟨j + 1, _, _, _, by omega, by go_num, rfl, HE9.out⟩
          case measure => simp [intOf]; omega
        · have hjn : j = na := by omega
          have HF2 : Hid (EncP w (enc n ++ encMs (l.take (k + 1))) Y p d wr) := by
            have h := HF.out
            rw [hjn, HNA.out, List.take_length, HO7.out, HO6.out] at h
            show EncP _ _ _ _ _ _
            rw [HE2.out]
            unfold encM
            simpa only [List.append_assoc, HNA.out] using h
          clear hjn
          go_wp2_with fail
          go_roundw
          case rel => exact ⟨k + 1, _, _, _, by omega, by go_num, rfl, HF2.out⟩
          case measure => simp [intOf]; omega
    · have hkn : k = n := by omega
      have HF : Hid (NewB w (encL l) (.returned (.slice X q c')) wr) := by
        have h := HE.out
        rw [hkn, HNL.out, List.take_length] at h
        exact ⟨X, c', q, rfl, h.1, h.2.1, h.2.2⟩
      clear hkn
      go_wp2_with fail
      go_ret
      exact HF.out
end Mb
end Go.Proofs.Ytddoepaplbnlcaa

/- The walk of the law's awake. -/
namespace Go.Proofs.Ytddoepaplbnlcaa
open Go.RowKit Go.Shelf
namespace Mb
open Wr Wi

theorem enters_aw : ∀ (args : Array Value) (w' : World), (callFunc 33 args).run Try.prog w' = .ok (.enter 33 args) w' := enters_of Try.func33 (by kernel_rfl) rfl
theorem aw1_calls (a b : Int) (w : World) : Calls Try.prog 33 #[.int .i64 a, .int .i64 b] w fun e w' => e = .returned (.agg #[.int .i64 a, .int .i64 b]) ∧ Below w.heap.size w w' := by
  have hk := heap_alloc_new w (.cells #[.int .i64 0, .int .i64 0] 30)
  have hb := below1 w (.cells #[.int .i64 0, .int .i64 0] 30)
  go_enter Try.func33, Try.ntmps33
  go_upto_region 1 with (fail)
  generalize w.alloc _ = w2 at *
  have m0 : w2.cell? ⟨w.heap.size, 0, none⟩ = some _ := (cell_of_row _ _ 0 _ _ _ hk).trans rfl
  have m1 : w2.cell? ⟨w.heap.size, 1, none⟩ = some _ := (cell_of_row _ _ 1 _ _ _ hk).trans rfl
  have f0 : w2.frozen? ⟨w.heap.size, 0, none⟩ = false := frozen_of_row _ _ _ _ _ hk
  have f1 : w2.frozen? ⟨w.heap.size, 1, none⟩ = false := frozen_of_row _ _ _ _ _ hk
  have HB : Hid (∀ x y, Below w.heap.size w ((w2.setCell ⟨w.heap.size, 0, none⟩ x).setCell ⟨w.heap.size, 1, none⟩ y)) := Lib.hid (fun x y =>
    Below.setCell (p := ⟨w.heap.size, 1, none⟩) (Below.setCell (p := ⟨w.heap.size, 0, none⟩) hb (Nat.le_refl _) _) (Nat.le_refl _) _)
  clear hk hb
  go_wp2_with fail
  refine bodyPost_ret (v := .agg #[.int .i64 a, .int .i64 b]) ?_ rfl ⟨rfl, HB.out _ _⟩
  simp [results, Try.results33, go_sem, *]

theorem encL_pos (l : List Msg) : 0 < (encL l).length := by
  have h := enc_len l.length
  unfold encL; rw [List.length_append]; omega
def aw1 : Msg := ⟨2, 1, 1, 5, ⟨#[103, 111]⟩, [3]⟩
def aw2 : Msg := ⟨1, 9, 1, 4, ⟨#[103, 111]⟩, []⟩
theorem aw_put1 : putE [] aw1 = 0 := by decide
theorem aw_putL1 : putL [] aw1 = [aw1] := by unfold putL; rw [if_pos aw_put1]; rfl
theorem aw_put2 : putE [aw1] aw2 = 0 := by decide
theorem aw_putL2 : putL [aw1] aw2 = [aw2, aw1] := by unfold putL; rw [if_pos aw_put2]; rfl
theorem rd_alloc1 (w : World) (v : Value) (e : TypeId) : Rd (w.alloc (.cells #[v] e)) (some ⟨w.heap.size, 0, none⟩) [v] := fun i x h => by
  cases i with
  | zero =>
    simp at h; subst h
    exact ⟨w.heap.size, 0, rfl, (cell_of_row _ _ 0 _ _ _ (heap_alloc_new _ _)).trans rfl⟩
  | succ i => simp at h
theorem aw_ok1 (w : World) (e : TypeId) : (Mm.mk aw1 (some ⟨w.heap.size, 0, none⟩) 1).ok (w.alloc (.cells #[.int .i64 3] e)) [w.heap.size] :=
  ⟨by
      have h := rd_alloc1 w (.int .i64 3) e
      exact h, Nat.le_refl 1, (by unfold maxLen; decide : (1 : Nat) ≤ maxLen), fun _ b off h => by cases h; simp, (by decide : -9223372036854775808 ≤ (2 : Int) ∧ (2 : Int) ≤ 9223372036854775807), (by decide : -9223372036854775808 ≤ (1 : Int) ∧ (1 : Int) ≤ 9223372036854775807), (by decide : -9223372036854775808 ≤ (1 : Int) ∧ (1 : Int) ≤ 9223372036854775807), (by decide : -9223372036854775808 ≤ (5 : Int) ∧ (5 : Int) ≤ 9223372036854775807), (by decide : ∀ z ∈ [(3 : Int)], -9223372036854775808 ≤ z ∧ z ≤ 9223372036854775807), (by decide : (⟨#[103, 111]⟩ : ByteArray).size ≤ 9223372036854775807)⟩
theorem aw_ok2 (w : World) : (Mm.mk aw2 none 0).ok w [] :=
  ⟨fun i v h => by simp [aw2] at h, by decide, by decide, fun h => absurd h (by decide), by decide, by decide, by decide, by decide, by decide, by decide⟩
theorem aw_ch1 (w : World) {e : Ending} {w' : World} (h : ChP [aw2, aw1] 0 w e w') : Below w.heap.size w w' ∧ e = .returned (.tuple #[.agg #[.int .i64 1, .int .i64 9], .agg #[.int .i64 1, .int .i64 4], .bool true]) := h
theorem aw_ch2 (w : World) {e : Ending} {w' : World} (h : ChP [aw2, aw1] (-1) w e w') : Below w.heap.size w w' ∧ e = .returned (.tuple #[.agg #[.int .i64 2, .int .i64 1], .agg #[.int .i64 1, .int .i64 5], .bool true]) := h
set_option maxRecDepth 100000 in
set_option maxHeartbeats 4000000 in
theorem awake_calls (w : World) : Calls Try.prog 10 #[] w fun e w' => e = .returned (.bool true) ∧ Below w.heap.size w w' := by
  have HN := Lib.hid (new_calls w)
  go_enter Try.func10, Try.ntmps10
  go_wp2_with fail
  refine HN.out.mono ?_
  rintro e w1 ⟨rfl, hb1, hx1⟩
  have HB1 := Lib.hid hb1
  have HX1 := Lib.hid hx1
  have q0 : ((some (⟨w.heap.size, 0, none⟩ : Addr)) == none) = false := rfl
  clear hb1 hx1 HN
  go_upto_region 5 with (fail)
  have HA := Lib.hid aw1_calls
  clear q0
  have HPL1 := Lib.hid aw_putL1
  go_wp2_with fail
  refine (HA.out 2 1 w1).mono ?_
  rintro e w2 ⟨rfl, hb2⟩
  have HB2 := Lib.hid (HB1.out.trans (hb2.mono HB1.out.size))
  have HX2 := Lib.hid (HX1.out.below hb2)
  clear hb2 HB1 HX1
  go_wp2_with fail
  refine (HA.out 1 5 w2).mono ?_
  rintro e w3 ⟨rfl, hb3⟩
  have HB3 := Lib.hid (HB2.out.trans (hb3.mono HB2.out.size))
  have HX3 := Lib.hid (HX2.out.below hb3)
  clear hb3 HB2 HX2
  go_wp2_with fail
  have hb4 := below1 w3 (.cells #[.int .i64 3] 3)
  have HB4 := Lib.hid (HB3.out.trans (hb4.mono HB3.out.size))
  have HP1 := Lib.hid (put_calls [] w.heap.size w.heap.size [] (Mm.mk aw1 (some ⟨w3.heap.size, 0, none⟩) 1) [w3.heap.size] (w3.alloc (.cells #[.int .i64 3] 3)) (HX3.out.below hb4) HB4.out.size (aw_ok1 w3 _) (by decide : (1 : Nat) ≤ 1000000))
  generalize w3.alloc (.cells #[.int .i64 3] 3) = w4 at *
  refine HP1.out.mono ?_
  rintro e w5 ⟨rfl, hx5⟩
  rw [show putE [] (Mm.mk aw1 (some ⟨w3.heap.size, 0, none⟩) 1).m = 0 from aw_put1]
  have hbx5 := hx5.bx
  rw [show putL [] (Mm.mk aw1 (some ⟨w3.heap.size, 0, none⟩) 1).m = [aw1] from aw_putL1] at hbx5
  have HX5 := Lib.hid hbx5
  have HB5 := Lib.hid (HB4.out.trans hx5.b)
  clear hx5 hbx5 hb4 HB4 HP1 HX3
  go_wp2_with fail
  refine (HA.out 1 9 w5).mono ?_
  rintro e w6 ⟨rfl, hb6⟩
  have HB6 := Lib.hid (HB5.out.trans (hb6.mono HB5.out.size))
  have HX6 := Lib.hid (HX5.out.below hb6)
  clear hb6 HB5 HX5
  go_wp2_with fail
  refine (HA.out 1 4 w6).mono ?_
  rintro e w7 ⟨rfl, hb7⟩
  have HB7 := Lib.hid (HB6.out.trans (hb7.mono HB6.out.size))
  have HX7 := Lib.hid (HX6.out.below hb7)
  clear hb7 HB6 HX6
  go_wp2_with fail
  have HP2 := Lib.hid (put_calls [] w.heap.size w.heap.size [aw1] (Mm.mk aw2 none 0) [] w7 HX7.out HB7.out.size (aw_ok2 w7) (by decide))
  refine HP2.out.mono ?_
  rintro e w8 ⟨rfl, hx8⟩
  rw [show putE [aw1] (Mm.mk aw2 none 0).m = 0 from aw_put2]
  have hbx8 := hx8.bx
  rw [show putL [aw1] (Mm.mk aw2 none 0).m = [aw2, aw1] from aw_putL2] at hbx8
  have HX8 := Lib.hid hbx8
  have HB8 := Lib.hid (HB7.out.trans hx8.b)
  clear hx8 hbx8 HP2 HX7
  go_upto_region 7 with (fail)
  have HC1 := Lib.hid (fun w' (h : Bx [] w.heap.size w.heap.size [aw2, aw1] w') => choose_calls [] w.heap.size w.heap.size [aw2, aw1] 0 w' h (by decide) (by decide))
  have HC2 := Lib.hid (fun w' (h : Bx [] w.heap.size w.heap.size [aw2, aw1] w') => choose_calls [] w.heap.size w.heap.size [aw2, aw1] (-1) w' h (by decide) (by decide))
  go_wp2_with fail
  refine (HC1.out w8 HX8.out).mono ?_
  intro e w9 h9
  obtain ⟨hb9, rfl⟩ := aw_ch1 w8 h9
  have HB9 := Lib.hid (HB8.out.trans (hb9.mono HB8.out.size))
  have HX9 := Lib.hid (HX8.out.below hb9)
  clear hb9 h9 HB8 HX8
  go_upto_region 8 with (fail)
  have hk0 : ((w9.alloc (.cells #[.int .i64 1, .int .i64 9] 30)).alloc (.cells #[.int .i64 1, .int .i64 4] 30)).heap[w9.heap.size]? = _ := (Below.heap_alloc _ _ _ (by simp)).trans (heap_alloc_new _ _)
  have hk1 : ((w9.alloc (.cells #[.int .i64 1, .int .i64 9] 30)).alloc (.cells #[.int .i64 1, .int .i64 4] 30)).heap[w9.heap.size + 1]? = _ := heap_alloc2_new _ _ _
  have hb10 := below2 w9 (.cells #[.int .i64 1, .int .i64 9] 30) (.cells #[.int .i64 1, .int .i64 4] 30)
  generalize ((w9.alloc _).alloc _) = w10 at *
  have HB10 := Lib.hid (HB9.out.trans (hb10.mono HB9.out.size))
  have HX10 := Lib.hid (HX9.out.below hb10)
  clear hb10 HB9 HX9
  go_wp2_with fail
  refine (HC2.out w10 HX10.out).mono ?_
  intro e w11 h11
  obtain ⟨hb11, rfl⟩ := aw_ch2 w10 h11
  have HB11 := Lib.hid (HB10.out.trans (hb11.mono HB10.out.size))
  have HX11 := Lib.hid (HX10.out.below hb11)
  have hk2 := (hb11.block _ (Array.getElem?_eq_some_iff.1 hk0).1).trans hk0
  have hk3 := (hb11.block _ (Array.getElem?_eq_some_iff.1 hk1).1).trans hk1
  clear hb11 h11 HB10 HX10 hk0 hk1
  go_upto_region 9 with (fail)
  have hk5 : ((w11.alloc (.cells #[.int .i64 2, .int .i64 1] 30)).alloc (.cells #[.int .i64 1, .int .i64 5] 30)).heap[w11.heap.size + 1]? = _ := heap_alloc2_new _ _ _
  have hb12 := below2 w11 (.cells #[.int .i64 2, .int .i64 1] 30) (.cells #[.int .i64 1, .int .i64 5] 30)
  generalize ((w11.alloc _).alloc _) = w12 at *
  have HB12 := Lib.hid (HB11.out.trans (hb12.mono HB11.out.size))
  have HX12 := Lib.hid (HX11.out.below hb12)
  have hk6 := (hb12.block _ (Array.getElem?_eq_some_iff.1 hk2).1).trans hk2
  have hk7 := (hb12.block _ (Array.getElem?_eq_some_iff.1 hk3).1).trans hk3
  have hs6 := (Array.getElem?_eq_some_iff.1 hk6).1
  have hs7 := (Array.getElem?_eq_some_iff.1 hk7).1
  have hs5 := (Array.getElem?_eq_some_iff.1 hk5).1
  have c30 : ∀ w', Below w12.heap.size w12 w' → w'.cell? ⟨w9.heap.size, 0, none⟩ = some (.int .i64 1) := fun w' h => (cell_of_row _ _ 0 _ _ _ ((h.block _ hs6).trans hk6)).trans rfl
  have c31 : ∀ w', Below w12.heap.size w12 w' → w'.cell? ⟨w9.heap.size, 1, none⟩ = some (.int .i64 9) := fun w' h => (cell_of_row _ _ 1 _ _ _ ((h.block _ hs6).trans hk6)).trans rfl
  have c40 : ∀ w', Below w12.heap.size w12 w' → w'.cell? ⟨w9.heap.size + 1, 0, none⟩ = some (.int .i64 1) := fun w' h => (cell_of_row _ _ 0 _ _ _ ((h.block _ hs7).trans hk7)).trans rfl
  have c41 : ∀ w', Below w12.heap.size w12 w' → w'.cell? ⟨w9.heap.size + 1, 1, none⟩ = some (.int .i64 4) := fun w' h => (cell_of_row _ _ 1 _ _ _ ((h.block _ hs7).trans hk7)).trans rfl
  have c70 : ∀ w', Below w12.heap.size w12 w' → w'.cell? ⟨w11.heap.size + 1, 0, none⟩ = some (.int .i64 1) := fun w' h => (cell_of_row _ _ 0 _ _ _ ((h.block _ hs5).trans hk5)).trans rfl
  have c71 : ∀ w', Below w12.heap.size w12 w' → w'.cell? ⟨w11.heap.size + 1, 1, none⟩ = some (.int .i64 5) := fun w' h => (cell_of_row _ _ 1 _ _ _ ((h.block _ hs5).trans hk5)).trans rfl
  clear hb12 HB11 HX11 hk2 hk3 hk5 hk6 hk7 hs5 hs6 hs7 HC1 HC2
  have HA2 : Hid (∀ (a b : Int) w', Below w12.heap.size w12 w' → Calls Try.prog 33 #[.int .i64 a, .int .i64 b] w' fun e w'' => e = .returned (.agg #[.int .i64 a, .int .i64 b]) ∧ Below w12.heap.size w12 w'') := Lib.hid (fun a b w' h => (HA.out a b w').mono fun e w'' ⟨h1, h2⟩ => ⟨h1, h.trans (h2.mono h.size)⟩)
  have HL : Hid (∀ w', Below w12.heap.size w12 w' → Calls Try.prog 20 #[.pointer (some ⟨w.heap.size, 0, none⟩)] w' fun e w'' => e = .returned (.int .i64 2) ∧ w' = w'') := Lib.hid (fun w' h => len_calls (HX12.out.below h))
  have HE : Hid (∀ w', Below w12.heap.size w12 w' → Calls Try.prog 29 #[.pointer (some ⟨w.heap.size, 0, none⟩)] w' fun e w'' => ∃ X c k, e = .returned (.slice X k c) ∧ 0 < k ∧ Below w12.heap.size w12 w'') := Lib.hid (fun w' h => (encode_calls [] w.heap.size w.heap.size [aw2, aw1] w' (HX12.out.below h)).mono fun e w'' ⟨X, c, k, h1, h2, _, h4⟩ => ⟨X, c, k, h1, by rw [h2]; exact encL_pos _, h.trans (h4.mono h.size)⟩)
  clear HA HX12
  go_region_held3 (fun w' => Below w12.heap.size w12 w') (first | exact (Below.refl _ _).drew | assumption) (first | (go_at_call 33; refine (HA2.out _ _ _ (by assumption)).mono ?_; rintro e wb ⟨rfl, hcb⟩) | (go_at_call 20; refine (HL.out _ (by assumption)).mono ?_; rintro e wb ⟨rfl, rfl⟩) | (go_at_call 29; refine (HE.out _ (by assumption)).mono ?_; rintro e wb ⟨X, cx, kx, rfl, hkx, hcb⟩; have hkd : decide ((0 : Int) < (kx : Int)) = true := decide_eq_true (by omega)))
  go_wp2_with fail
  go_ret
  exact ⟨rfl, HB12.out.trans ((by assumption : Below w12.heap.size w12 _).mono HB12.out.size)⟩
end Mb
end Go.Proofs.Ytddoepaplbnlcaa

/- The law's operations in memory; the walk of wide. -/
namespace Go.Proofs.Ytddoepaplbnlcaa
open Go.RowKit Go.Shelf
namespace Mb

structure Ot where
  k : UInt8
  x : Mm
def Ot.cells (o : Ot) : List Value := .int .u8 (o.k.toNat : Int) :: o.x.cells
theorem Ot.len (o : Ot) : o.cells.length = 7 := rfl
def cells7 (xs : List Ot) : List Value := (xs.map Ot.cells).flatten
theorem cells7_len (xs : List Ot) : (cells7 xs).length = xs.length * 7 := flat_len Ot.len xs
/-- operations that are read: they lie in blocks of N -/
structure IsO (w : World) (N : List Nat) (A : Option Addr) (n c : Nat) (os : List Ot) : Prop where
  rd : Rd w A (cells7 os)
  hn : os.length = n
  nc : n ≤ c
  cm : c ≤ maxLen
  ok : ∀ o ∈ os, o.x.ok w N
  nl : ∀ y ∈ N, y < w.heap.size
theorem IsO.below {w w' : World} {N : List Nat} {A : Option Addr} {n c : Nat} {os : List Ot} (h : IsO w N A n c os) (hb : Below w.heap.size w w') : IsO w' N A n c os :=
  ⟨h.rd.below hb, h.hn, h.nc, h.cm, fun o ho => (h.ok o ho).same (Same.of_below h.nl hb), fun y hy => Nat.lt_of_lt_of_le (h.nl y hy) hb.size⟩
theorem rd7 {w : World} {A : Option Addr} {xs : List Ot} (h : Rd w A (cells7 xs)) (i : Nat) (hi : i < xs.length) : ∃ b off, A = some ⟨b, off, none⟩ ∧ b < w.heap.size ∧
    w.cell? ⟨b, off + i * 7, none⟩ = some (.int .u8 (xs[i].k.toNat : Int)) ∧ w.cell? ⟨b, off + i * 7 + 1, none⟩ = some (.int .i64 xs[i].x.m.a1) ∧ w.cell? ⟨b, off + i * 7 + 2, none⟩ = some (.int .i64 xs[i].x.m.a2) ∧ w.cell? ⟨b, off + i * 7 + 3, none⟩ = some (.int .i64 xs[i].x.m.i1) ∧
    w.cell? ⟨b, off + i * 7 + 4, none⟩ = some (.int .i64 xs[i].x.m.i2) ∧ w.cell? ⟨b, off + i * 7 + 5, none⟩ = some (.string xs[i].x.m.me) ∧ w.cell? ⟨b, off + i * 7 + 6, none⟩ = some (.slice xs[i].x.a xs[i].x.m.ar.length xs[i].x.c) := by
  have hpos : 0 < (cells7 xs).length := by rw [cells7_len]; omega
  obtain ⟨b, off, e, hb, hc⟩ := h.cells hpos
  have hg : ∀ j (hj : j < 7), (cells7 xs)[i * 7 + j]? = xs[i].cells[j]? := fun j hj => flat_get Ot.len xs i j hi hj
  refine ⟨b, off, e, hb, ?_, ?_, ?_, ?_, ?_, ?_, ?_⟩
  · exact hc (i * 7 + 0) _ ((hg 0 (by omega)).trans rfl)
  · rw [Nat.add_assoc]; exact hc (i * 7 + 1) _ ((hg 1 (by omega)).trans rfl)
  · rw [Nat.add_assoc]; exact hc (i * 7 + 2) _ ((hg 2 (by omega)).trans rfl)
  · rw [Nat.add_assoc]; exact hc (i * 7 + 3) _ ((hg 3 (by omega)).trans rfl)
  · rw [Nat.add_assoc]; exact hc (i * 7 + 4) _ ((hg 4 (by omega)).trans rfl)
  · rw [Nat.add_assoc]; exact hc (i * 7 + 5) _ ((hg 5 (by omega)).trans rfl)
  · rw [Nat.add_assoc]; exact hc (i * 7 + 6) _ ((hg 6 (by omega)).trans rfl)
def wideM (m : Msg) : Bool := decide (100 < m.me.size) || decide (20 < m.ar.length)
def wideB (os : List Ot) : Bool := os.any (fun o => wideM o.x.m) || decide (40 < os.length)
theorem wideB_false {os : List Ot} (h : wideB os = false) : os.length ≤ 40 ∧ ∀ o ∈ os, o.x.m.me.size ≤ 100 ∧ o.x.m.ar.length ≤ 20 := by
  unfold wideB wideM at h
  rw [Bool.or_eq_false_iff] at h
  refine ⟨by simpa using h.2, fun o ho => ?_⟩
  have := List.any_eq_false.1 h.1 o ho
  simp at this
  omega

set_option maxRecDepth 100000 in
set_option maxHeartbeats 2000000 in
theorem wide_calls (N : List Nat) (A : Option Addr) (n c : Nat) (os : List Ot) (w : World) (h : IsO w N A n c os) :
    Calls Try.prog 11 #[.slice A n c] w (BoolB (wideB os) w) := by
  have hnm : n ≤ 9223372036854775807 := by have h1 := h.nc; have h2 := h.cm; unfold maxLen at h2; omega
  have HO := Lib.hid h
  clear h
  go_enter Try.func11, Try.ntmps11
  go_wp2_with fail
  go_loopw [3] (fun i wr => ∃ k : Nat, k ≤ n ∧ i = .int .i64 k ∧ (∀ o ∈ os.take k, wideM o.x.m = false) ∧ w = wr) (fun i _ => n - (intOf i).toNat)
  case atStart => exact ⟨0, by omega, rfl, by simp, rfl⟩
  case round =>
    obtain ⟨k, hk, rfl, ht, rfl⟩ := hrel
    have HT := Lib.hid ht
    clear ht
    have j0 : (0 : Int) ≤ (k : Int) := by omega
    by_cases hlt : k < n
    · have j1 : (k : Int) < (n : Int) := by omega
      have hkx : k < os.length := by rw [HO.out.hn]; exact hlt
      obtain ⟨b, off, e, hbl, x0, x1, x2, x3, x4, x5, x6⟩ := rd7 HO.out.rd k hkx
      subst e
      have hok := HO.out.ok _ (List.getElem_mem hkx)
      have hs1 := hok.s
      have hs2 := Nat.le_trans hok.c1 hok.c2
      have HSUC : Hid (wideM os[k].x.m = false → ∀ o ∈ os.take (k + 1), wideM o.x.m = false) := fun hw o ho => by
        rw [List.take_succ_eq_append_getElem hkx] at ho
        rcases List.mem_append.1 ho with ho | ho
        · exact HT.out o ho
        · rw [List.mem_singleton.1 ho]; exact hw
      have HTRUE : Hid (wideM os[k].x.m = true → wideB os = true) := fun hw => by
        unfold wideB
        rw [List.any_eq_true.2 ⟨_, List.getElem_mem hkx, hw⟩]; rfl
      clear hok
      generalize os[k] = z at *
      unfold wideM at HSUC HTRUE
      obtain ⟨p, HP⟩ : ∃ x, Hid (x = z.x.m.me.size) := ⟨_, rfl⟩
      obtain ⟨r, HR⟩ : ∃ x, Hid (x = z.x.m.ar.length) := ⟨_, rfl⟩
      rw [← HP.out] at HSUC HTRUE hs1
      rw [← HR.out] at HSUC HTRUE x6 hs2
      unfold maxLen at hs2
      by_cases h1 : 100 < p
      · have d1 : decide ((100 : Int) < (p : Int)) = true := decide_eq_true (by omega)
        have d2 : decide ((100 : Int) < (z.x.m.me.size : Int)) = true := by rw [← HP.out]; exact d1
        have HF : Hid (BoolB true w (.returned (.bool true)) w) := ⟨rfl, Below.refl _ _⟩
        rw [show wideB os = true from HTRUE.out (by simp [h1])]
        clear h1
        go_wp2_with fail
        go_ret
        exact HF.out
      · have d1 : decide ((100 : Int) < (p : Int)) = false := decide_eq_false (by omega)
        have d2 : decide ((100 : Int) < (z.x.m.me.size : Int)) = false := by rw [← HP.out]; exact d1
        by_cases h2 : 20 < r
        · have d3 : decide ((20 : Int) < (r : Int)) = true := decide_eq_true (by omega)
          have HF : Hid (BoolB true w (.returned (.bool true)) w) := ⟨rfl, Below.refl _ _⟩
          rw [show wideB os = true from HTRUE.out (by simp [h2])]
          clear h1 h2
          go_wp2_with fail
          go_ret
          exact HF.out
        · have d3 : decide ((20 : Int) < (r : Int)) = false := decide_eq_false (by omega)
          have HS := Lib.hid (HSUC.out (by simp [h1, h2]))
          clear h1 h2
          go_wp2_with fail
          go_roundw
          case rel => exact ⟨k + 1, by omega, by go_num, HS.out, trivial⟩
          case measure => simp [intOf]; omega
    · have hkn : k = n := by omega
      have hany : os.any (fun o => wideM o.x.m) = false := by
        have h := HT.out
        rw [hkn, ← HO.out.hn, List.take_length] at h
        exact List.any_eq_false.2 (fun o ho => by rw [h o ho]; simp)
      have HW : Hid (wideB os = decide ((40 : Int) < (n : Int))) := by
        show _ = _
        unfold wideB
        rw [hany, HO.out.hn, Bool.false_or]
        exact decide_eq_decide.2 (by omega)
      clear hkn hany
      go_wp2_with fail
      go_ret
      exact ⟨by rw [HW.out]; rfl, Below.refl _ _⟩
end Mb
end Go.Proofs.Ytddoepaplbnlcaa

/- The walk of the law's step. -/
namespace Go.Proofs.Ytddoepaplbnlcaa
open Go.RowKit Go.Shelf
namespace Mb

/-- the box and the reference hold the same list; the reference's blocks are R or later -/
def Both (R B g : Nat) (l : List Msg) (v : Value) (w : World) : Prop := ∃ K M, Bx K B g l w ∧ Mo M l v w ∧ (∀ y ∈ M, y ∈ K) ∧ R ≤ B ∧ ∀ y ∈ M, R ≤ y
theorem Both.below {R B g : Nat} {l : List Msg} {v : Value} {w w' : World} (h : Both R B g l v w) (hb : Below w.heap.size w w') : Both R B g l v w' := by
  obtain ⟨K, M, h1, h2, h3⟩ := h
  exact ⟨K, M, h1.below hb, h2.below hb, h3⟩
theorem Both.inv {R B g : Nat} {l : List Msg} {v : Value} {w : World} (h : Both R B g l v w) : Inv l := by
  obtain ⟨_, _, h, _⟩ := h
  exact h.inv
def stepL (l : List Msg) (o : Ot) : List Msg :=
  if o.k.toNat ≤ 2 then putL l o.x.m else if o.k.toNat = 3 then takeL l (key o.x.m.a1 o.x.m.a2 o.x.m.i1 o.x.m.i2) else if o.k.toNat = 4 then restL l o.x.m.a1 o.x.m.a2 else l
def StepP (R B g : Nat) (l : List Msg) (w : World) (e : Ending) (w' : World) : Prop := ∃ v, e = .returned (.tuple #[v, .bool true]) ∧ Both R B g l v w' ∧ Below B w w'
/-- what the reference made stands while the box changes -/
theorem both_of {R B g : Nat} {K M : List Nat} {l0 l : List Msg} {v : Value} {w w1 : World} (h0 : Bx K B g l0 w) (hB : B ≤ w.heap.size) (hMK : (∀ y ∈ M, y ∈ K) ∧ R ≤ B ∧ ∀ y ∈ M, R ≤ y) (hn : NewM M l v w w1) :
    ∃ M', (∀ y, (w.heap.size ≤ y ∧ y < w1.heap.size) ∨ y ∈ K → y ∈ M' ) ∧ Bx M' B g l0 w1 ∧ ∀ w2, BxW M' B g l w1 w2 → Both R B g l v w2 := by
  obtain ⟨N, h1, h2, h3⟩ := hn
  refine ⟨K ++ (List.range (w1.heap.size)).filter (fun y => decide (w.heap.size ≤ y)), fun y hy => ?_, ?_, fun w2 h => ?_⟩
  · rcases hy with hy | hy
    · exact List.mem_append_right _ (List.mem_filter.2 ⟨List.mem_range.2 hy.2, by simpa using hy.1⟩)
    · exact List.mem_append_left _ hy
  · refine h0.grow h3 (fun y hy => ?_)
    rcases List.mem_append.1 hy with hy | hy
    · exact .inl hy
    · obtain ⟨h4, h5⟩ := List.mem_filter.1 hy
      exact .inr ⟨by simpa using h5, List.mem_range.1 h4⟩
  · have hN : ∀ y ∈ N, y ∈ K ++ (List.range (w1.heap.size)).filter (fun y => decide (w.heap.size ≤ y)) := fun y hy => by
      rcases h2 y hy with h4 | h4
      · exact List.mem_append_left _ (hMK.1 y h4)
      · exact List.mem_append_right _ (List.mem_filter.2 ⟨List.mem_range.2 h4.2, by simpa using h4.1⟩)
    exact ⟨_, N, h.bx, h1.same (fun y hy => h.k y (hN y hy)) h.b.size, hN, hMK.2.1, fun y hy => (h2 y hy).elim (fun h4 => hMK.2.2 y h4) (fun h4 => Nat.le_trans hMK.2.1 (Nat.le_trans hB h4.1))⟩
theorem NewM.b {M : List Nat} {l : List Msg} {v : Value} {w w' : World} (h : NewM M l v w w') : Below w.heap.size w w' := by obtain ⟨_, _, _, h⟩ := h; exact h
theorem below_app {B : Nat} {w w1 w2 : World} (h : Below B w w1) (hB : B ≤ w.heap.size) (k : Below w1.heap.size w1 w2) : Below B w w2 := h.trans (k.mono (Nat.le_trans hB h.size))
set_option maxRecDepth 100000 in
set_option maxHeartbeats 4000000 in
theorem step_calls {R : Nat} (B g : Nat) (l : List Msg) (v : Value) (o : Ot) (NX : List Nat) (w : World) (h : Both R B g l v w) (hB : B ≤ w.heap.size) (ho : o.x.ok w NX) (hal : o.x.m.ar.length ≤ 1000000) (hNX : ∀ y ∈ NX, y < w.heap.size) :
    Calls Try.prog 31 #[.pointer (some ⟨g, 0, none⟩), v, .agg o.cells.toArray] w (StepP R B g (stepL l o) w) := by
  have hi := h.inv
  obtain ⟨K, M, hx, hm, hMK⟩ := h
  obtain ⟨kk, x⟩ := o
  have hk8 := kk.toNat_lt
  have HSL : Hid (stepL l ⟨kk, x⟩ = if kk.toNat ≤ 2 then putL l x.m else if kk.toNat = 3 then takeL l (key x.m.a1 x.m.a2 x.m.i1 x.m.i2) else if kk.toNat = 4 then restL l x.m.a1 x.m.a2 else l) := rfl
  have hcl : (Ot.mk kk x).cells.toArray = #[.int .u8 (kk.toNat : Int), .int .i64 x.m.a1, .int .i64 x.m.a2, .int .i64 x.m.i1, .int .i64 x.m.i2, .string x.m.me, .slice x.a x.m.ar.length x.c] := rfl
  simp only at ho hal
  rw [hcl]
  clear hcl
  generalize stepL l ⟨kk, x⟩ = L at *
  generalize kk.toNat = k at *
  have hb1 := below1 w (.cells #[.int .u8 (k : Int), .int .i64 x.m.a1, .int .i64 x.m.a2, .int .i64 x.m.i1, .int .i64 x.m.i2, .string x.m.me, .slice x.a x.m.ar.length x.c] 41)
  have hk1 := heap_alloc_new w (.cells #[.int .u8 (k : Int), .int .i64 x.m.a1, .int .i64 x.m.a2, .int .i64 x.m.i1, .int .i64 x.m.i2, .string x.m.me, .slice x.a x.m.ar.length x.c] 41)
  obtain ⟨A, n, c, xs, rfl, hm2, hml⟩ := hm
  have hm : Mo M l (.slice A n c) w := ⟨A, n, c, xs, rfl, hm2, hml⟩
  have HNX := Lib.hid hNX
  have HB0 := Lib.hid hB
  have HINV := Lib.hid hi
  clear hm2 hml hi hNX
  go_enter Try.func31, Try.ntmps31
  go_upto_region 1 with (fail)
  generalize w.alloc _ = w1 at *
  have HX := Lib.hid (hx.below hb1)
  have HM := Lib.hid (hm.below hb1)
  have HO := Lib.hid (ho.same (Same.of_below HNX.out hb1))
  have HNX1 := Lib.hid (fun y hy => Nat.lt_of_lt_of_le (HNX.out y hy) hb1.size)
  have HMK := Lib.hid hMK
  have HB1 := Lib.hid (hb1.mono hB)
  have hBs : B ≤ w1.heap.size := Nat.le_trans hB hb1.size
  have HBS := Lib.hid hBs
  have hs1 := (Array.getElem?_eq_some_iff.1 hk1).1
  have c0 : ∀ w', Below w1.heap.size w1 w' → w'.cell? ⟨w.heap.size, 0, none⟩ = some (.int .u8 (k : Int)) := fun w' h => (cell_of_row _ _ 0 _ _ _ ((h.block _ hs1).trans hk1)).trans rfl
  have c1 : ∀ w', Below w1.heap.size w1 w' → w'.cell? ⟨w.heap.size, 1, none⟩ = some (.int .i64 x.m.a1) := fun w' h => (cell_of_row _ _ 1 _ _ _ ((h.block _ hs1).trans hk1)).trans rfl
  have c2 : ∀ w', Below w1.heap.size w1 w' → w'.cell? ⟨w.heap.size, 2, none⟩ = some (.int .i64 x.m.a2) := fun w' h => (cell_of_row _ _ 2 _ _ _ ((h.block _ hs1).trans hk1)).trans rfl
  have c3 : ∀ w', Below w1.heap.size w1 w' → w'.cell? ⟨w.heap.size, 3, none⟩ = some (.int .i64 x.m.i1) := fun w' h => (cell_of_row _ _ 3 _ _ _ ((h.block _ hs1).trans hk1)).trans rfl
  have c4 : ∀ w', Below w1.heap.size w1 w' → w'.cell? ⟨w.heap.size, 4, none⟩ = some (.int .i64 x.m.i2) := fun w' h => (cell_of_row _ _ 4 _ _ _ ((h.block _ hs1).trans hk1)).trans rfl
  have c5 : ∀ w', Below w1.heap.size w1 w' → w'.cell? ⟨w.heap.size, 5, none⟩ = some (.string x.m.me) := fun w' h => (cell_of_row _ _ 5 _ _ _ ((h.block _ hs1).trans hk1)).trans rfl
  have c6 : ∀ w', Below w1.heap.size w1 w' → w'.cell? ⟨w.heap.size, 6, none⟩ = some (.slice x.a x.m.ar.length x.c) := fun w' h => (cell_of_row _ _ 6 _ _ _ ((h.block _ hs1).trans hk1)).trans rfl
  have C0 := Lib.hid (And.intro c0 (And.intro c1 (And.intro c2 (And.intro c3 (And.intro c4 (And.intro c5 c6))))))
  have d0 := c0 _ (Below.refl _ _)
  have d1 := c1 _ (Below.refl _ _)
  have d2 := c2 _ (Below.refl _ _)
  have d3 := c3 _ (Below.refl _ _)
  have d4 := c4 _ (Below.refl _ _)
  have d5 := c5 _ (Below.refl _ _)
  have d6 := c6 _ (Below.refl _ _)
  clear c0 c1 c2 c3 c4 c5 c6 hb1 hk1 hs1 hx hm ho hMK hBs hB
  rcases (by omega : k ≤ 2 ∨ k = 3 ∨ k = 4 ∨ 5 ≤ k) with hk | hk | hk | hk
  · have HL2 : Hid (L = putL l x.m) := by show _ = _; rw [HSL.out, if_pos hk]
    have HRP := Lib.hid (rput_calls M l _ x NX w1 HM.out HO.out hal HINV.out)
    unfold mval Mm.cells at HRP
    rcases (by omega : k = 0 ∨ k = 1 ∨ k = 2) with e | e | e
    all_goals
      subst e
      clear hk HSL
      go_upto_region 6 with (fail)
      refine HRP.out.mono ?_
      rintro e w2 ⟨A2, n2, c2, rfl, hn2⟩
      have hb2 := hn2.b
      obtain ⟨M', hm1, hm2, hm3⟩ := both_of HX.out HBS.out HMK.out hn2
      have HP := Lib.hid (put_calls M' B g l x NX w2 hm2 (Nat.le_trans HBS.out hb2.size) (HO.out.same (Same.of_below HNX1.out hb2)) hal)
      have e1 := C0.out.2.1 w2 hb2
      have e2 := C0.out.2.2.1 w2 hb2
      have e3 := C0.out.2.2.2.1 w2 hb2
      have e4 := C0.out.2.2.2.2.1 w2 hb2
      have e5 := C0.out.2.2.2.2.2.1 w2 hb2
      have e6 := C0.out.2.2.2.2.2.2 w2 hb2
      have HB2 := Lib.hid (HB1.out.trans (hb2.mono HBS.out))
      have HM3 := Lib.hid hm3
      unfold PutP at HP
      clear hb2 hm1 hm2 hm3 hn2 d0 d1 d2 d3 d4 d5 d6
      generalize putE l x.m = E at *
      go_wp2_with fail
      refine HP.out.mono ?_
      rintro e w3 ⟨rfl, hx3⟩
      have HF : Hid (StepP R B g L w (.returned (.tuple #[.slice A2 n2 c2, .bool true])) w3) := ⟨_, rfl, by rw [HL2.out]; exact HM3.out _ hx3, HB2.out.trans hx3.b⟩
      clear hx3 e1 e2 e3 e4 e5 e6
      go_wp2_with fail
      go_ret2
      exact HF.out
  · subst hk
    have HL2 : Hid (L = takeL l (key x.m.a1 x.m.a2 x.m.i1 x.m.i2)) := HSL.out
    have HRT := Lib.hid (rtake_calls M l _ x.m.a1 x.m.a2 x.m.i1 x.m.i2 w1 HM.out HINV.out)
    have HT : Hid (∀ M' w2, Bx M' B g l w2 → B ≤ w2.heap.size → Calls Try.prog 21 #[.pointer (some ⟨g, 0, none⟩), .agg #[.int .i64 x.m.a1, .int .i64 x.m.a2], .agg #[.int .i64 x.m.i1, .int .i64 x.m.i2]] w2 (TakeP M' B g l (key x.m.a1 x.m.a2 x.m.i1 x.m.i2) w2)) := fun M' w2 h1 h2 => take_calls M' B g l x.m.a1 x.m.a2 x.m.i1 x.m.i2 w2 h1 h2
    generalize key x.m.a1 x.m.a2 x.m.i1 x.m.i2 = kq at *
    unfold TakeP at HT
    unfold RTakeP at HRT
    clear HSL
    cases hf : find l kq with
    | none =>
      simp only [hf] at HRT HT
      clear hf
      go_upto_region 9 with (fail)
      refine HRT.out.mono ?_
      rintro e w2 ⟨A2, n2, c2, hn2, rfl⟩
      have hb2 := hn2.b
      obtain ⟨M', hm1, hm2, hm3⟩ := both_of HX.out HBS.out HMK.out hn2
      have HP := Lib.hid (HT.out M' w2 hm2 (Nat.le_trans HBS.out hb2.size))
      have e1 := C0.out.2.1 w2 hb2
      have e2 := C0.out.2.2.1 w2 hb2
      have e3 := C0.out.2.2.2.1 w2 hb2
      have e4 := C0.out.2.2.2.2.1 w2 hb2
      have HB2 := Lib.hid (HB1.out.trans (hb2.mono HBS.out))
      have HM3 := Lib.hid hm3
      clear hb2 hm1 hm2 hm3 hn2 d0 d1 d2 d3 d4 d5 d6
      go_wp2_with fail
      refine HP.out.mono ?_
      rintro e w3 ⟨hx3, rfl, _⟩
      have HI := Lib.hid (ints_calls none none 0 0 0 0 [] [] w3 rfl rfl (fun i v h => by simp at h) (fun i v h => by simp at h) (by omega) (by omega))
      have HF : Hid (∀ w4, Below w3.heap.size w3 w4 → StepP R B g L w (.returned (.tuple #[.slice A2 n2 c2, .bool true])) w4) := Lib.hid (fun w4 h4 => ⟨_, rfl, by rw [HL2.out]; exact (HM3.out _ hx3).below h4, below_app (HB2.out.trans hx3.b) HB0.out h4⟩)
      clear hx3 e1 e2 e3 e4
      go_wp2_with fail
      refine HI.out.mono ?_
      rintro e w4 ⟨rfl, hb4⟩
      have HF4 := Lib.hid (HF.out w4 hb4)
      clear hb4
      go_wp2_with fail
      go_ret2
      exact HF4.out
    | some i =>
      simp only [hf] at HRT HT
      clear hf
      go_upto_region 9 with (fail)
      refine HRT.out.mono ?_
      rintro e w2 ⟨A2, n2, c2, hn2, hil, X, cx, rfl, hr, hXM⟩
      have hb2 := hn2.b
      obtain ⟨M', hm1, hm2, hm3⟩ := both_of HX.out HBS.out HMK.out hn2
      have HP := Lib.hid (HT.out M' w2 hm2 (Nat.le_trans HBS.out hb2.size))
      have e1 := C0.out.2.1 w2 hb2
      have e2 := C0.out.2.2.1 w2 hb2
      have e3 := C0.out.2.2.2.1 w2 hb2
      have e4 := C0.out.2.2.2.2.1 w2 hb2
      have HB2 := Lib.hid (HB1.out.trans (hb2.mono HBS.out))
      have HM3 := Lib.hid hm3
      have HR := Lib.hid hr
      have HXM := Lib.hid (fun hp b off e => hm1 b (.inr (HMK.out.1 b (hXM hp b off e))))
      have hal9 := (valid_sizes (HINV.out.v _ (List.getElem_mem hil))).2
      clear hb2 hm1 hm2 hm3 hn2 hr hXM d0 d1 d2 d3 d4 d5 d6
      go_wp2_with fail
      refine HP.out.mono ?_
      rintro e w3 ⟨hx3, _, X3, c3, rfl, hr3⟩
      have hr3' := hx3.k.rd HR.out (fun hp => HXM.out (by rw [List.length_map] at hp; exact hp))
      have HI := Lib.hid (ints_calls X3 X _ _ c3 cx l[i].ar l[i].ar w3 rfl rfl hr3 hr3' (by omega) (by omega))
      rw [decide_eq_true rfl] at HI
      clear hr3 hr3' HR HXM HRT HT HP
      generalize l[i].ar.length = na at *
      have HF : Hid (∀ w4, Below w3.heap.size w3 w4 → StepP R B g L w (.returned (.tuple #[.slice A2 n2 c2, .bool true])) w4) := Lib.hid (fun w4 h4 => ⟨_, rfl, by rw [HL2.out]; exact (HM3.out _ hx3).below h4, below_app (HB2.out.trans hx3.b) HB0.out h4⟩)
      clear hx3 e1 e2 e3 e4
      go_wp2_with fail
      refine HI.out.mono ?_
      rintro e w4 ⟨rfl, hb4⟩
      have HF4 := Lib.hid (HF.out w4 hb4)
      clear hb4
      go_wp2_with fail
      go_ret2
      exact HF4.out
  · subst hk
    have HL2 : Hid (L = restL l x.m.a1 x.m.a2) := HSL.out
    have HRO := Lib.hid (rof_calls M l _ x.m.a1 x.m.a2 w1 HM.out HINV.out.n)
    clear HSL
    go_upto_region 13 with (fail)
    refine HRO.out.mono ?_
    rintro e w2 ⟨X, cx, A2, n2, c2, rfl, hr, hn2, hXN⟩
    have hb2 := hn2.b
    obtain ⟨M', hm1, hm2, hm3⟩ := both_of HX.out HBS.out HMK.out hn2
    have HP := Lib.hid (takeAll_calls M' B g l x.m.a1 x.m.a2 w2 hm2 (Nat.le_trans HBS.out hb2.size))
    have e1 := C0.out.2.1 w2 hb2
    have e2 := C0.out.2.2.1 w2 hb2
    have HB2 := Lib.hid (HB1.out.trans (hb2.mono HBS.out))
    have HM3 := Lib.hid hm3
    have HR := Lib.hid hr
    have hlen := ofL_len l x.m.a1 x.m.a2
    have hl24 := HINV.out.n
    have HXM : Hid (0 < (cells2 (ofL l x.m.a1 x.m.a2)).length → ∀ b off, X = some ⟨b, off, none⟩ → b ∈ M') := Lib.hid (fun hp b off e => by
      obtain ⟨b', off', e', hbl, _⟩ := hr.cells hp
      rw [e] at e'
      cases e'
      exact hm1 b (.inl ⟨hXN b off e, hbl⟩))
    clear hb2 hm1 hm2 hm3 hn2 hr hXN d0 d1 d2 d3 d4 d5 d6
    go_wp2_with fail
    refine HP.out.mono ?_
    rintro e w3 ⟨X3, c3, rfl, hr3, hx3⟩
    have hr3' := hx3.k.rd HR.out HXM.out
    have HI := Lib.hid (sameI_calls X3 X _ _ c3 cx (ofL l x.m.a1 x.m.a2) (ofL l x.m.a1 x.m.a2) w3 rfl rfl hr3 hr3' (by omega) (by omega))
    rw [decide_eq_true rfl] at HI
    clear hr3 hr3' HR HXM HRO HP
    generalize (ofL l x.m.a1 x.m.a2).length = na at *
    have HF : Hid (∀ w4, Below w3.heap.size w3 w4 → StepP R B g L w (.returned (.tuple #[.slice A2 n2 c2, .bool true])) w4) := Lib.hid (fun w4 h4 => ⟨_, rfl, by rw [HL2.out]; exact (HM3.out _ hx3).below h4, below_app (HB2.out.trans hx3.b) HB0.out h4⟩)
    clear hx3 e1 e2
    go_wp2_with fail
    refine HI.out.mono ?_
    rintro e w4 ⟨rfl, hb4⟩
    have HF4 := Lib.hid (HF.out w4 hb4)
    clear hb4
    go_wp2_with fail
    go_ret2
    exact HF4.out
  · have HL2 : Hid (L = l) := by show _ = _; rw [HSL.out, if_neg (by omega), if_neg (by omega), if_neg (by omega)]
    have q0 : ((k : Int) == 0) = false := by rw [beq_eq_false_iff_ne]; omega
    have q1 : ((k : Int) == 1) = false := by rw [beq_eq_false_iff_ne]; omega
    have q2 : ((k : Int) == 2) = false := by rw [beq_eq_false_iff_ne]; omega
    have q3 : ((k : Int) == 3) = false := by rw [beq_eq_false_iff_ne]; omega
    have q4 : ((k : Int) == 4) = false := by rw [beq_eq_false_iff_ne]; omega
    have HF : Hid (StepP R B g L w (.returned (.tuple #[.slice A n c, .bool true])) w1) := ⟨_, rfl, by rw [HL2.out]; exact ⟨K, M, HX.out, HM.out, HMK.out⟩, HB1.out⟩
    clear hk HSL
    go_wp2_with fail
    go_ret2
    exact HF.out
end Mb
end Go.Proofs.Ytddoepaplbnlcaa

/- The walk of the law's run. -/
namespace Go.Proofs.Ytddoepaplbnlcaa
open Go.RowKit Go.Shelf
namespace Mb

def runL (os : List Ot) : List Msg := os.foldl stepL []
theorem runL_succ (os : List Ot) (k : Nat) (hk : k < os.length) : runL (os.take (k + 1)) = stepL (runL (os.take k)) os[k] := by
  unfold runL; rw [List.take_succ_eq_append_getElem hk, List.foldl_append]; rfl
def RunP (os : List Ot) (w : World) (e : Ending) (w' : World) : Prop := ∃ A n c, e = .returned (.tuple #[.pointer (some ⟨w.heap.size, 0, none⟩), .slice A n c, .bool true]) ∧ Both w.heap.size w.heap.size w.heap.size (runL os) (.slice A n c) w' ∧ Below w.heap.size w w'
theorem Both.slice {R B g : Nat} {l : List Msg} {v : Value} {w : World} (h : Both R B g l v w) : ∃ A n c, v = .slice A n c := by
  obtain ⟨_, _, _, ⟨A, n, c, _, h, _⟩, _⟩ := h
  exact ⟨A, n, c, h⟩
set_option maxRecDepth 100000 in
set_option maxHeartbeats 2000000 in
theorem run_calls (N : List Nat) (A : Option Addr) (n c : Nat) (os : List Ot) (w : World) (h : IsO w N A n c os) (hw : ∀ o ∈ os, o.x.m.ar.length ≤ 20) :
    Calls Try.prog 12 #[.slice A n c] w (RunP os w) := by
  have hnm : n ≤ 9223372036854775807 := by have h1 := h.nc; have h2 := h.cm; unfold maxLen at h2; omega
  have HO := Lib.hid h
  have HW := Lib.hid hw
  have HN := Lib.hid (new_calls w)
  have q0 : ((some (⟨w.heap.size, 0, none⟩ : Addr)) == none) = false := rfl
  clear h hw
  go_enter Try.func12, Try.ntmps12
  go_wp2_with fail
  refine HN.out.mono ?_
  rintro e w1 ⟨rfl, hb1, hx1⟩
  have hb2 := below1 w1 (.cells #[] 36)
  have hbo : Both w.heap.size w.heap.size w.heap.size (runL (os.take 0)) (.slice (some ⟨w1.heap.size, 0, none⟩) 0 0) (w1.alloc (.cells #[] 36)) :=
    ⟨[], [], hx1.below hb2, ⟨_, 0, 0, [], rfl, ⟨Rd.nil, fun h => absurd h (by omega), rfl, Nat.le_refl _, Nat.zero_le _, by simp, by simp⟩, rfl⟩, by simp, Nat.le_refl _, by simp⟩
  have HBO := Lib.hid hbo
  have HB2 := Lib.hid (hb1.trans (hb2.mono hb1.size))
  clear hb1 hx1 hb2 hbo HN
  go_upto_region 6 with (fail)
  generalize w1.alloc _ = w2 at *
  clear q0
  go_wp2_with fail
  go_loopw [6, 7, 8] (fun v b i wr => ∃ k : Nat, ∃ A n' c', k ≤ n ∧ i = .int .i64 k ∧ v = .slice A n' c' ∧ b = .bool true ∧ Both w.heap.size w.heap.size w.heap.size (runL (os.take k)) (.slice A n' c') wr ∧ Below w.heap.size w wr) (fun _ _ i _ => n - (intOf i).toNat)
  case atStart => exact ⟨0, _, _, _, by omega, rfl, rfl, rfl, HBO.out, HB2.out⟩
  case round =>
    obtain ⟨k, A1, n1, c1, hk, rfl, rfl, rfl, hbo, hbw⟩ := hrel
    have HBT := Lib.hid hbo
    have HBW := Lib.hid hbw
    clear hbo hbw
    have j0 : (0 : Int) ≤ (k : Int) := by omega
    by_cases hlt : k < n
    · have j1 : (k : Int) < (n : Int) := by omega
      have hkx : k < os.length := by rw [HO.out.hn]; exact hlt
      have HO2 := Lib.hid (HO.out.below HBW.out)
      obtain ⟨b, off, e, hbl, x0, x1, x2, x3, x4, x5, x6⟩ := rd7 HO2.out.rd k hkx
      subst e
      have HS := Lib.hid (step_calls w.heap.size w.heap.size (runL (os.take k)) _ os[k] N wr HBT.out HBW.out.size (HO2.out.ok _ (List.getElem_mem hkx)) (Nat.le_trans (HW.out _ (List.getElem_mem hkx)) (by omega)) HO2.out.nl)
      rw [← runL_succ os k hkx] at HS
      rw [show (os[k].cells).toArray = #[.int .u8 (os[k].k.toNat : Int), .int .i64 os[k].x.m.a1, .int .i64 os[k].x.m.a2, .int .i64 os[k].x.m.i1, .int .i64 os[k].x.m.i2, .string os[k].x.m.me, .slice os[k].x.a os[k].x.m.ar.length os[k].x.c] from rfl] at HS
      generalize os[k] = z at *
      go_wp2_with fail
      refine HS.out.mono ?_
      rintro e w3 ⟨v3, rfl, hbo3, hb3⟩
      obtain ⟨A3, n3, c3, rfl⟩ := hbo3.slice
      have HBO3 := Lib.hid hbo3
      have HB3 := Lib.hid (HBW.out.trans hb3)
      clear hbo3 hb3 x0 x1 x2 x3 x4 x5 x6 HS
      go_wp2_with fail
      go_roundw
      case rel => exact ⟨k + 1, _, _, _, by omega, by go_num, rfl, rfl, HBO3.out, HB3.out⟩
      case measure => simp [intOf]; omega
    · have hkn : k = n := by omega
      have HF : Hid (RunP os w (.returned (.tuple #[.pointer (some ⟨w.heap.size, 0, none⟩), .slice A1 n1 c1, .bool true])) wr) := by
        have h := HBT.out
        rw [hkn, ← HO.out.hn, List.take_length] at h
        exact ⟨A1, n1, c1, rfl, h, HBW.out⟩
      clear hkn
      go_wp2_with fail
      first | go_ret3 | go_ret2 | go_ret
      exact HF.out
end Mb
end Go.Proofs.Ytddoepaplbnlcaa

/- The walk of the law's same. -/
namespace Go.Proofs.Ytddoepaplbnlcaa
open Go.RowKit Go.Shelf
namespace Mb

theorem find_at {l : List Msg} (hi : Inv l) (k : Nat) (hk : k < l.length) : find l (key l[k].a1 l[k].a2 l[k].i1 l[k].i2) = some k := by
  cases hf : find l (key l[k].a1 l[k].a2 l[k].i1 l[k].i2) with
  | none => exact absurd (show Eq4 l[k] (key l[k].a1 l[k].a2 l[k].i1 l[k].i2) from ⟨rfl, rfl, rfl, rfl⟩) (find_none hf _ (List.getElem_mem hk))
  | some i =>
    obtain ⟨hil, h1, h2, h3, h4⟩ := find_some hf
    have hu := List.pairwise_iff_getElem.1 hi.u
    rcases Nat.lt_trichotomy i k with h | h | h
    · exact absurd ⟨h3, h4⟩ (hu i k hil hk h)
    · rw [h]
    · exact absurd ⟨h3.symm, h4.symm⟩ (hu k i hk hil h)
theorem rd_of_own {w : World} {B n sz : Nat} {e : TypeId} {X : Option Addr} {m c : Nat} {xs : List Value} (h : w.ownsRow B e sz (.slice X m c) n xs) : Rd w X xs ∧ n ≤ 9223372036854775807 := by
  obtain ⟨_, _, e0, h1, h2, _, hr⟩ := own_formS h
  cases e0
  unfold maxLen at h2
  exact ⟨hr, by omega⟩
set_option maxRecDepth 100000 in
set_option maxHeartbeats 4000000 in
theorem same_calls {R : Nat} (B g : Nat) (l : List Msg) (A : Option Addr) (n c : Nat) (w : World) (h : Both R B g l (.slice A n c) w) :
    Calls Try.prog 16 #[.pointer (some ⟨g, 0, none⟩), .slice A n c] w (BoolB true w) := by
  have hi := h.inv
  obtain ⟨K, M, hx, ⟨A', n', c', xs, e0, hm2, hml⟩, hMK⟩ := h
  cases e0
  have hm : Mo M l (.slice A n c) w := ⟨A, n, c, xs, rfl, hm2, hml⟩
  have hnl : n = l.length := by rw [← hml, List.length_map]; exact hm2.hn.symm
  have hn1 : n ≤ 1024 := by rw [hnl]; exact hi.n
  have HX := Lib.hid hx
  have HM := Lib.hid hm
  have HM2 := Lib.hid hm2
  have HL := Lib.hid hml
  have HI := Lib.hid hi
  have HNL := Lib.hid hnl
  have HLN := Lib.hid (len_calls hx)
  rw [← hnl] at HLN
  have HA := Lib.hid (actors_calls K B g l w hx)
  clear hx hm hm2 hml hi hnl
  go_enter Try.func16, Try.ntmps16
  go_wp2_with fail
  refine HLN.out.mono ?_
  rintro e wz ⟨rfl, rfl⟩
  go_wp2_with fail
  refine HA.out.mono ?_
  rintro e w1 ⟨X1, c1, rfl, ho1, hb1⟩
  have HO1 := Lib.hid ho1
  have HB1 := Lib.hid hb1
  have HRA := Lib.hid (ractors_calls M l _ w1 (HM.out.below hb1) HI.out.n)
  clear ho1 hb1 HA HLN
  go_wp2_with fail
  refine HRA.out.mono ?_
  rintro e w2 ⟨X2, c2, rfl, ho2, hb2⟩
  obtain ⟨r1, z1⟩ := rd_of_own HO1.out
  obtain ⟨r2, _⟩ := rd_of_own ho2
  have HS1 := Lib.hid (sameI_calls X1 X2 _ _ c1 c2 (actorsL l) (actorsL l) w2 rfl rfl (r1.below hb2) r2 z1 z1)
  rw [decide_eq_true rfl] at HS1
  have HB2 := Lib.hid (HB1.out.trans (hb2.mono HB1.out.size))
  clear ho2 hb2 r1 z1 r2 HRA HO1
  generalize (actorsL l).length = na at *
  go_wp2_with fail
  refine HS1.out.mono ?_
  rintro e w3 ⟨rfl, hb3⟩
  have HB3 := Lib.hid (HB2.out.trans (hb3.mono HB2.out.size))
  clear hb3 HS1
  go_wp2_with fail
  go_loopw [5] (fun i wr => ∃ k : Nat, k ≤ n ∧ i = .int .i64 k ∧ Below w.heap.size w wr) (fun i _ => n - (intOf i).toNat)
  case atStart => exact ⟨0, by omega, rfl, HB3.out⟩
  case round =>
    obtain ⟨k, hk, rfl, hbw⟩ := hrel
    have HBW := Lib.hid hbw
    clear hbw
    have j0 : (0 : Int) ≤ (k : Int) := by omega
    by_cases hlt : k < n
    · have j1 : (k : Int) < (n : Int) := by omega
      have hkx : k < xs.length := by rw [HM2.out.hn]; exact hlt
      have hkl : k < l.length := by rw [← HNL.out]; exact hlt
      have HMR := Lib.hid (HM2.out.below HBW.out)
      have HMO := Lib.hid (HM.out.below HBW.out)
      obtain ⟨b, off, e, hbl, x0, x1, x2, x3, x4, x5⟩ := rd6 HMR.out.rd k hkx
      subst e
      have hml : l[k] = xs[k].m := by simp only [← HL.out, List.getElem_map]
      have HFA := Lib.hid (find_at HI.out k hkl)
      have hval := (valid_sizes (HI.out.v _ (List.getElem_mem hkl))).2
      have HOK := Lib.hid (HMR.out.ok _ (List.getElem_mem hkx))
      have HFC : Hid (∀ w', Below wr.heap.size wr w' → Calls Try.prog 18 #[.pointer (some ⟨g, 0, none⟩), .agg #[.int .i64 l[k].a1, .int .i64 l[k].a2], .agg #[.int .i64 l[k].i1, .int .i64 l[k].i2]] w' fun e w'' => ∃ X c, e = .returned (.tuple #[.string l[k].me, .slice X l[k].ar.length c, .bool true]) ∧ Rd w'' X (l[k].ar.map (Value.int .i64)) ∧ Below wr.heap.size wr w'') := Lib.hid (fun w' hb => by
        refine (find_calls K B g l l[k].a1 l[k].a2 l[k].i1 l[k].i2 w' ((HX.out.below HBW.out).below hb)).mono ?_
        rintro e w'' ⟨hb2, h2⟩
        rw [HFA.out] at h2
        obtain ⟨_, X, c, h3, h4⟩ := h2
        exact ⟨X, c, h3, h4, hb.trans (hb2.mono hb.size)⟩)
      have HOF := Lib.hid (fun w' (hb : Below wr.heap.size wr w') => rof_calls M l (.slice (some ⟨b, off, none⟩) n c) l[k].a1 l[k].a2 w' (HMO.out.below hb) HI.out.n)
      have HBO := Lib.hid (fun w' (hb : Below wr.heap.size wr w') => of_calls K B g l l[k].a1 l[k].a2 w' ((HX.out.below HBW.out).below hb))
      simp only [hml] at HFC HOF HBO hval
      generalize xs[k] = z at *
      have m0 : ∀ w', Below wr.heap.size wr w' → w'.cell? ⟨b, off + k * 6, none⟩ = some (.int .i64 z.m.a1) := fun w' h => (h.cell (p := ⟨b, off + k * 6, none⟩) hbl).trans x0
      have m1 : ∀ w', Below wr.heap.size wr w' → w'.cell? ⟨b, off + k * 6 + 1, none⟩ = some (.int .i64 z.m.a2) := fun w' h => (h.cell (p := ⟨b, off + k * 6 + 1, none⟩) hbl).trans x1
      have m2 : ∀ w', Below wr.heap.size wr w' → w'.cell? ⟨b, off + k * 6 + 2, none⟩ = some (.int .i64 z.m.i1) := fun w' h => (h.cell (p := ⟨b, off + k * 6 + 2, none⟩) hbl).trans x2
      have m3 : ∀ w', Below wr.heap.size wr w' → w'.cell? ⟨b, off + k * 6 + 3, none⟩ = some (.int .i64 z.m.i2) := fun w' h => (h.cell (p := ⟨b, off + k * 6 + 3, none⟩) hbl).trans x3
      have M4 : Hid (∀ w', Below wr.heap.size wr w' → w'.cell? ⟨b, off + k * 6 + 4, none⟩ = some (.string z.m.me)) := fun w' h => (h.cell (p := ⟨b, off + k * 6 + 4, none⟩) hbl).trans x4
      have M5 : Hid (∀ w', Below wr.heap.size wr w' → w'.cell? ⟨b, off + k * 6 + 5, none⟩ = some (.slice z.a z.m.ar.length z.c)) := fun w' h => (h.cell (p := ⟨b, off + k * 6 + 5, none⟩) hbl).trans x5
      clear x0 x1 x2 x3 x4 x5 hml HFA
      go_upto_region 6 with (fail)
      go_region_held3 (fun w' => Below wr.heap.size wr w') (first | exact (Below.refl _ _).drew | assumption) (first | (go_at_call 18; refine (HFC.out _ (by assumption)).mono ?_; rintro e w4 ⟨X4, c4, rfl, hr4, hc4⟩; have HR4 := Lib.hid hr4; clear hr4))
      have HC4 := Lib.hid hc4
      have y0 := m0 w4 hc4
      have y1 := m1 w4 hc4
      clear m0 m1 m2 m3 HFC
      go_wp2_with fail
      refine (HOF.out w4 HC4.out).mono ?_
      rintro e w5 ⟨X5, c5, A5, n5, d5, rfl, hr5, hn5, _⟩
      have hb5 := hn5.b
      have HR5 := Lib.hid hr5
      have hc5 := HC4.out.trans (hb5.mono HC4.out.size)
      have HC5 := Lib.hid hc5
      have y4 := M4.out w5 hc5
      have y5 := M5.out w5 hc5
      have y0' := (hb5.cell (p := ⟨b, off + k * 6, none⟩) (Nat.lt_of_lt_of_le hbl HC4.out.size)).trans y0
      have y1' := (hb5.cell (p := ⟨b, off + k * 6 + 1, none⟩) (Nat.lt_of_lt_of_le hbl HC4.out.size)).trans y1
      have Y01 := Lib.hid (And.intro y0' y1')
      have HI5 := Lib.hid (ints_calls X4 z.a _ _ c4 z.c z.m.ar z.m.ar w5 rfl rfl (HR4.out.below hb5) (HOK.out.rd.below hc5) (by omega) (by omega))
      rw [decide_eq_true rfl] at HI5
      clear hr5 hn5 hb5 hc5 hc4 y0 y1 HOF
      obtain ⟨na, HNA⟩ : ∃ x, Hid (x = z.m.ar.length) := ⟨_, rfl⟩
      rw [← HNA.out] at HI5 y5 ⊢
      obtain ⟨nf, HNF⟩ : ∃ x, Hid (x = (ofL l z.m.a1 z.m.a2).length) := ⟨_, rfl⟩
      rw [← HNF.out]
      clear y0' y1'
      go_wp2_with fail
      refine HI5.out.mono ?_
      rintro e w6 ⟨rfl, hb6⟩
      have hc6 := HC5.out.trans (hb6.mono HC5.out.size)
      have HC6 := Lib.hid hc6
      have s0 := (hb6.cell (p := ⟨b, off + k * 6, none⟩) (Nat.lt_of_lt_of_le hbl HC5.out.size)).trans Y01.out.1
      have s1 := (hb6.cell (p := ⟨b, off + k * 6 + 1, none⟩) (Nat.lt_of_lt_of_le hbl HC5.out.size)).trans Y01.out.2
      have HR6 := Lib.hid (HR5.out.below hb6)
      have HO6 := Lib.hid (HBO.out w6 hc6)
      clear hb6 hc6 y4 y5 HI5
      go_wp2_with fail
      refine HO6.out.mono ?_
      rintro e w7 ⟨X7, c7, rfl, ho7, hb7⟩
      obtain ⟨r7, z7⟩ := rd_of_own ho7
      have HI7 := Lib.hid (sameI_calls X7 X5 _ _ c7 c5 (ofL l z.m.a1 z.m.a2) (ofL l z.m.a1 z.m.a2) w7 rfl rfl r7 (HR6.out.below hb7) z7 z7)
      rw [decide_eq_true rfl] at HI7
      have HC7 := Lib.hid (HC6.out.trans (hb7.mono HC6.out.size))
      clear ho7 hb7 r7 z7 s0 s1 HO6
      rw [← HNF.out] at HI7 ⊢
      go_wp2_with fail
      refine HI7.out.mono ?_
      rintro e w8 ⟨rfl, hb8⟩
      have HB8 := Lib.hid (HBW.out.trans ((HC7.out.trans (hb8.mono HC7.out.size)).mono HBW.out.size))
      clear hb8 HI7
      go_wp2_with fail
      go_roundw
      case rel => exact ⟨k + 1, by omega, by go_num, HB8.out⟩
      case measure => simp [intOf]; omega
    · go_wp2_with fail
      go_ret
      exact ⟨rfl, HBW.out⟩
end Mb
end Go.Proofs.Ytddoepaplbnlcaa

/- The walk of MailboxOperations. -/
namespace Go.Proofs.Ytddoepaplbnlcaa
open Go.RowKit Go.Shelf
namespace Mb

set_option maxRecDepth 100000 in
set_option maxHeartbeats 2000000 in
theorem operations_calls (N : List Nat) (A : Option Addr) (n c : Nat) (os : List Ot) (w : World) (h : IsO w N A n c os) :
    Calls Try.prog 4 #[.slice A n c] w fun e w' => e = .returned (.bool true) ∧ Below w.heap.size w w' := by
  have HO := Lib.hid h
  have HA := Lib.hid (awake_calls w)
  clear h
  go_enter Try.func4, Try.ntmps4
  go_wp2_with fail
  refine HA.out.mono ?_
  rintro e w1 ⟨rfl, hb1⟩
  have HB1 := Lib.hid hb1
  have HWI := Lib.hid (wide_calls N A n c os w1 (HO.out.below hb1))
  clear hb1 HA
  go_wp2_with fail
  refine HWI.out.mono ?_
  rintro e w2 ⟨rfl, hb2⟩
  have hb2' := HB1.out.trans (hb2.mono HB1.out.size)
  have HO2 := Lib.hid (HO.out.below hb2')
  have HB2 := Lib.hid hb2'
  clear hb2 hb2' HWI
  cases hwd : wideB os with
  | true =>
    clear hwd
    go_wp2_with fail
    go_ret
    exact ⟨rfl, HB2.out⟩
  | false =>
    have HR := Lib.hid (run_calls N A n c os w2 HO2.out (fun o ho => ((wideB_false hwd).2 o ho).2))
    clear hwd
    go_wp2_with fail
    refine HR.out.mono ?_
    rintro e w3 ⟨A3, n3, c3, rfl, hbo, hb3⟩
    have HS := Lib.hid (same_calls w2.heap.size w2.heap.size (runL os) A3 n3 c3 w3 hbo)
    have HB3 := Lib.hid (HB2.out.trans (hb3.mono HB2.out.size))
    clear hbo hb3 HR
    go_wp2_with fail
    refine HS.out.mono ?_
    rintro e w4 ⟨rfl, hb4⟩
    have HB4 := Lib.hid (HB3.out.trans (hb4.mono HB3.out.size))
    clear hb4
    go_wp2_with fail
    go_ret
    exact ⟨rfl, HB4.out⟩
end Mb
end Go.Proofs.Ytddoepaplbnlcaa

/- Arguments of type []Op, opened; the law MailboxOperations in the order of its arguments. -/
namespace Go.Proofs.Ytddoepaplbnlcaa
open Go.ChangeShapes Go.WideShapes Go.ChangeAt Go.RowKit Go.Deep
section
variable {H : Type} {enc : TypeId × Value → H} {P : Program} {W : World} {b : Nat} {sp : Nat → Bool} {hd : Bool}
/-- a slice of integers as an element -/
theorem open_ints_cell {k : IntKind} {t e : TypeId} {fuel : Nat} {u : Value} {x : DataW H × List MemPlace} (ht : P.underlying t = some (.slice e)) (he : P.underlying e = some (.int k)) (hc : P.cellsOf e = 1)
    (hf : DataW.trod enc P W b sp hd fuel t [u] = some x) : ∃ (A : Option Addr) (cap : Nat) (zs : List Int), u = .slice A zs.length cap ∧ zs.length ≤ cap ∧ cap ≤ maxLen ∧ Rd W A (zs.map (Value.int k)) ∧ ∀ z ∈ zs, (Lit.int k z).wf = true := by
  rcases open_ints ht he hc hf with ⟨hcs, _⟩ | ⟨a, n, cap, zs, hcs, _, hl, hm, hz, _, hcell, hwz⟩
  · simp at hcs
    subst hcs
    exact ⟨none, 0, [], rfl, Nat.le_refl _, by simp [maxLen], Rd.nil, by simp⟩
  · simp at hcs
    subst hcs
    have hzl : n ≤ zs.length := by rw [hz]; split <;> omega
    have hll : (zs.take n).length = n := by simp; omega
    refine ⟨some a, cap, zs.take n, by rw [hll], by rw [hll]; exact hl, hm, ?_, fun z hz => hwz z (List.mem_of_mem_take hz)⟩
    intro i u hu
    have hi : i < n := by have := (List.getElem?_eq_some_iff.1 hu).1; simp at this; omega
    have hi' : i < zs.length := by omega
    have hc0 := hcell i hi'
    have hu' : u = .int k (zs.getD i 0) := by
      rw [List.getElem?_map, List.getElem?_take, if_pos hi, List.getElem?_eq_getElem hi'] at hu
      simp only [Option.map_some, Option.some.injEq] at hu
      rw [← hu, List.getD_eq_getElem?_getD, List.getElem?_eq_getElem hi']; rfl
    obtain ⟨blk, off, spot⟩ := a
    have hsp : spot = none := by
      have h0 := hcell 0 (by omega)
      simpa [Addr.add] using World.cell?_spot h0
    subst hsp
    exact ⟨blk, off, rfl, by rw [← addr_add, hc0, hu']⟩

theorem trod_fields {k : Nat} {t : TypeId} {cs : List Value} {x : DataW H × List MemPlace} {fs : List Field} (ht : P.underlying t = some (.struct fs.toArray)) (h : DataW.trod enc P W b sp hd k t cs = some x) :
    ∀ f ∈ fs, ∃ n y, DataW.trod enc P W b sp hd n f.type ((cs.drop f.offset).take (P.cellsOf f.type)) = some y := by
  intro f hf
  obtain ⟨xs, n, _, _, _, hl, hg⟩ := DataW.trod_struct ht h
  obtain ⟨i, hi, rfl⟩ := List.getElem_of_mem hf
  have h1 := hg i fs[i] (by simp)
  have hl' : xs.length = fs.length := by simpa using hl
  rw [List.getElem?_eq_getElem (by omega)] at h1
  exact ⟨n, _, h1⟩
end
namespace Mb
section
variable {H : Type} {enc : TypeId × Value → H} {W : World} {b : Nat} {sp : Nat → Bool} {hd : Bool}
theorem open_idc {k : Nat} {u0 u1 : Value} {y : DataW H × List MemPlace} (h : DataW.trod enc Try.prog W b sp hd k 30 [u0, u1] = some y) :
    ∃ a c : Int, u0 = .int .i64 a ∧ u1 = .int .i64 c ∧ (-9223372036854775808 ≤ a ∧ a ≤ 9223372036854775807) ∧ (-9223372036854775808 ≤ c ∧ c ≤ 9223372036854775807) := by
  have c7 : Try.prog.cellsOf 3 = 1 := by kernel_rfl
  have hg := trod_fields Try.underlying30 h
  obtain ⟨_, _, s0⟩ := hg _ (.head _)
  obtain ⟨_, _, s1⟩ := hg _ (.tail _ (.head _))
  clear hg
  simp only [c7, List.drop_zero, List.take_succ_cons, List.take_zero, List.drop_succ_cons] at s0 s1
  obtain ⟨m0, f0, _, w0⟩ := DataW.trod_int Try.underlying3 s0
  obtain ⟨m1, f1, _, w1⟩ := DataW.trod_int Try.underlying3 s1
  cases f0; cases f1
  exact ⟨m0, m1, rfl, rfl, bounds_i64 w0, bounds_i64 w1⟩
theorem open_msgc {k : Nat} {u0 u1 u2 u3 u4 u5 : Value} {y : DataW H × List MemPlace} (h : DataW.trod enc Try.prog W b sp hd k 36 [u0, u1, u2, u3, u4, u5] = some y) :
    ∃ x : Mm, [u0, u1, u2, u3, u4, u5] = x.cells ∧ x.ok W (List.range W.heap.size) := by
  have c4 : Try.prog.cellsOf 9 = 1 := by kernel_rfl
  have c5 : Try.prog.cellsOf 30 = 2 := by kernel_rfl
  have c6 : Try.prog.cellsOf 34 = 1 := by kernel_rfl
  have hf := trod_fields Try.underlying36 h
  obtain ⟨_, _, t0⟩ := hf _ (.head _)
  obtain ⟨_, _, t1⟩ := hf _ (.tail _ (.head _))
  obtain ⟨_, _, t2⟩ := hf _ (.tail _ (.tail _ (.head _)))
  obtain ⟨_, _, t3⟩ := hf _ (.tail _ (.tail _ (.tail _ (.head _))))
  clear hf
  simp only [c4, c5, c6, List.drop_zero, List.take_succ_cons, List.take_zero, List.drop_succ_cons] at t0 t1 t2 t3
  obtain ⟨a1, a2, rfl, rfl, b1, b2⟩ := open_idc t0
  obtain ⟨i1, i2, rfl, rfl, b3, b4⟩ := open_idc t1
  obtain ⟨s, e2, _, ws⟩ := DataW.trod_string Try.underlying9 t2
  obtain ⟨A, c, zs, e3, hl, hm, hr, hw⟩ := open_ints_cell Try.underlying34 Try.underlying3 (by kernel_rfl) t3
  cases e2; cases e3
  refine ⟨⟨⟨a1, a2, i1, i2, s, zs⟩, A, c⟩, rfl, ⟨hr, hl, hm, fun hp bl off e => ?_, b1, b2, b3, b4, fun z hz => bounds_i64 (hw z hz), ?_⟩⟩
  · obtain ⟨b', off', e', hbl, _⟩ := hr.cells (by rw [List.length_map]; exact hp)
    have e2 : A = some ⟨bl, off, none⟩ := e
    rw [e2] at e'
    cases e'
    exact List.mem_range.2 hbl
  · unfold maxLen at ws
    show s.size ≤ _
    omega
set_option maxRecDepth 100000 in
theorem open_ops {r : Reach} {b0 : Nat} {v : Value} {d : DataW H} {p : List MemPlace}
    (hv : Value.okWide Try.prog W r b0 22 v) (h : DataW.Trod enc Try.prog W b sp hd 22 v d p) :
    ∃ (A : Option Addr) (n cap : Nat) (os : List Ot), v = .slice A n cap ∧ IsO W (List.range W.heap.size) A n cap os := by
  obtain ⟨A, n, cap, rows, rfl, h1, h2, h3, h4, h5⟩ := open_elems Try.underlying22 7 (by kernel_rfl) (by decide) hv h
  have c1 : Try.prog.cellsOf 5 = 1 := by kernel_rfl
  have c2 : Try.prog.cellsOf 36 = 6 := by kernel_rfl
  obtain ⟨os, rfl, hos⟩ := rows_of (g := Ot.cells) (Q := fun o => o.x.ok W (List.range W.heap.size)) rows (fun r hr => by
    obtain ⟨hl, k, y, ht⟩ := h5 r hr
    have hf := trod_fields Try.underlying41 ht
    match r, hl with
    | [u0, u1, u2, u3, u4, u5, u6], _ =>
      obtain ⟨_, _, t0⟩ := hf _ (.head _)
      obtain ⟨_, _, t1⟩ := hf _ (.tail _ (.head _))
      clear hf
      simp only [c1, c2, List.drop_zero, List.take_succ_cons, List.take_zero, List.drop_succ_cons] at t0 t1
      obtain ⟨n0, e0, _, w0⟩ := DataW.trod_int Try.underlying5 t0
      obtain ⟨x, ex, hx⟩ := open_msgc t1
      cases e0
      obtain ⟨x0, rfl⟩ := wf_u8 w0
      exact ⟨⟨x0, x⟩, by rw [ex]; rfl, hx⟩)
  exact ⟨A, n, cap, os, rfl, ⟨h4, by simpa using h3, h1, h2, hos, fun y hy => List.mem_range.1 hy⟩⟩
end
theorem operations_row (W : World) (A : Option Addr) (n c : Nat) (os : List Ot) (h : IsO W (List.range W.heap.size) A n c os) :
    Calls Try.prog 4 #[.slice A n c] W fun e w' => e = .returned (.bool true) ∧ Below W.heap.size W w' := operations_calls _ A n c os W h
end Mb
end Go.Proofs.Ytddoepaplbnlcaa
