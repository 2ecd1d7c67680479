/- The walk of refmeshref19.Write. -/
import Derived.Test.YtoallpinpeolfaaDkQ
import Derived.Deep.DeepCutAuto
import Derived.Deep.CutRange
import Derived.Deep.DeepMust
namespace Go.Proofs.Ytoallpinpeolfaa
open Go.RowKit
namespace Dk

theorem IsK'.push {w wf : World} {N : List Nat} {D : St} {A X X' Y : Option Addr} {ca cx cx' cy s B : Nat} {P : List Pm} {l : List UInt8} (h : IsK' w N D A ca X cx P) (hb : Below w.heap.size w wf) (hq : Pc.ok D.n ⟨s, l⟩)
    (hB : w.heap.size ≤ B) (hown : wf.ownsRow B 47 2 (.slice X' (P.length + 1) cx') (P.length + 1) (pcells P ++ [.int .i64 (s : Int), .slice Y l.length cy]))
    (hY : wf.ownsRow B 5 1 (.slice Y l.length cy) l.length (l.map vb)) :
    ∃ N', IsK' wf N' { D with p := D.p ++ [⟨s, l⟩] } A ca X' cx' (P ++ [⟨⟨s, l⟩, Y, cy⟩]) ∧ ∀ x ∈ N', x ∈ N ∨ w.heap.size ≤ x := by
  obtain ⟨_, _, e1, hx1, hx2, _, hrx⟩ := own_formS hown
  cases e1
  obtain ⟨_, _, e1, hy1, hy2, _, hry⟩ := own_form hY
  cases e1
  have hb' := h.below hb
  have hpl : (P ++ [(⟨⟨s, l⟩, Y, cy⟩ : Pm)]).length = P.length + 1 := by simp
  refine ⟨N ++ ((Value.slice X' (P.length + 1) cx').ownBlock.toList ++ (Value.slice Y l.length cy).ownBlock.toList), ⟨hb'.du, ?_, ?_, ?_, ?_, h.c1, h.c2, ?_, hx2, ?_, ?_, ?_, ?_⟩, ?_⟩
  · rw [pcells_snoc]; exact hrx
  · show D.p ++ [⟨s, l⟩] = _
    rw [h.pd]; simp
  · intro m hm
    rcases List.mem_append.1 hm with hm | hm
    · exact hb'.pr m hm
    · simp only [List.mem_singleton] at hm
      subst hm
      exact ⟨hry, hy1, hy2⟩
  · refine ⟨h.ok.n1, h.ok.n2, h.ok.b, fun q hq' => ?_, h.ok.f1, h.ok.f2⟩
    rcases List.mem_append.1 hq' with hq' | hq'
    · exact h.ok.p q hq'
    · simp only [List.mem_singleton] at hq'; subst hq'; exact hq
  · rw [hpl]; exact hx1
  · exact fun b off e => List.mem_append_left _ (h.na b off e)
  · intro _ b off e
    refine List.mem_append_right _ (List.mem_append_left _ ?_)
    rw [e]; simp [Value.ownBlock]
  · intro m hm hp b off e
    rcases List.mem_append.1 hm with hm | hm
    · exact List.mem_append_left _ (h.nm m hm hp b off e)
    · simp only [List.mem_singleton] at hm
      subst hm
      simp only at e
      refine List.mem_append_right _ (List.mem_append_right _ ?_)
      rw [e]; simp [Value.ownBlock]
  · intro x hx
    rcases List.mem_append.1 hx with hx | hx
    · exact hb'.nl x hx
    · rcases List.mem_append.1 hx with hx | hx
      · exact (hown.lt x (by simpa using hx)).2
      · exact (hY.lt x (by simpa using hx)).2
  · intro x hx
    rcases List.mem_append.1 hx with hx | hx
    · exact .inl hx
    · rcases List.mem_append.1 hx with hx | hx
      · exact .inr (Nat.le_trans hB (hown.lt x (by simpa using hx)).1)
      · exact .inr (Nat.le_trans hB (hY.lt x (by simpa using hx)).1)

set_option maxRecDepth 100000 in
set_option maxHeartbeats 4000000 in
theorem rwrite_calls (v : Value) (N0 : List Nat) (D : St) (s : Int) (B : Option Addr) (n c : Nat) (l : List UInt8) (w : World) (h : IsK w N0 v D) (hn : l.length = n) (hr : RB w B l) (hnm : n ≤ 9223372036854775807) (hs : -9223372036854775808 ≤ s) (hs2 : s ≤ 9223372036854775807) (hp : D.p.length ≤ 10000) :
    Calls Try.prog 12 #[v, .int .i64 s, .slice B n c] w (KP w N0 (writeD D s l) fun v' => .tuple #[v', .int .i64 (writeE D s l)]) := by
  have HK := Lib.hid h
  obtain ⟨A, ca, X, cx, P, rfl, h⟩ := h
  have HI := Lib.hid h
  have HN := Lib.hid hn
  have HR := Lib.hid hr
  have i0 : (0 : Int) ≤ (n : Int) := by omega
  have hq64 : (n : Int) / 64 = ((n / 64 : Nat) : Int) := by omega
  obtain ⟨nk, HNK⟩ : ∃ x, Hid (n / 64 = x) := ⟨_, rfl⟩
  rw [HNK.out] at hq64
  have hok := h.ok
  have HSAME : Hid (∀ er w', writeD D s l = D → writeE D s l = er → Below w.heap.size w w' → KP w N0 (writeD D s l) (fun v' => .tuple #[v', .int .i64 (writeE D s l)]) (.returned (.tuple #[.agg #[.slice A (64 * D.n) ca, .slice X P.length cx, .bool D.x, .int .i64 D.f], .int .i64 er])) w') := by
    intro er w' h1 h2 hb
    rw [h1, h2]
    exact ⟨kval D A ca X cx P, N0, rfl, HK.out.below hb, hb, fun x hx => .inl hx⟩
  have HIN := fun w' (hb : Below w.heap.size w w') => Lib.hid (rinside_calls _ N0 D s ((n / 64 : Nat) : Int) w' (HK.out.below hb) hs hs2)
  rw [HNK.out] at HIN
  have HBU := fun w' (hb : Below w.heap.size w w') => Lib.hid (rburn_calls _ N0 D w' (HK.out.below hb))
  unfold kval at HIN HBU ⊢
  obtain ⟨pl, HPL⟩ : ∃ x, Hid (P.length = x) := ⟨_, rfl⟩
  obtain ⟨N, HNN⟩ : ∃ x, Hid (64 * D.n = x) := ⟨_, rfl⟩
  rw [HPL.out, HNN.out] at HSAME
  rw [HPL.out, HNN.out] at HIN HBU ⊢
  have HB2 := Lib.hid (below2 w (.cells #[.slice A N ca, .slice X pl cx, .bool D.x, .int .i64 D.f] 33) (.cells #[.slice none 0 0, .slice none 0 0, .bool false, .int .i64 0] 33))
  have hk1 : ((w.alloc (.cells #[.slice A N ca, .slice X pl cx, .bool D.x, .int .i64 D.f] 33)).alloc (.cells #[.slice none 0 0, .slice none 0 0, .bool false, .int .i64 0] 33)).heap[w.heap.size]? = some (.cells #[.slice A N ca, .slice X pl cx, .bool D.x, .int .i64 D.f] 33) := (Below.heap_alloc _ _ _ (by simp)).trans (heap_alloc_new _ _)
  have hk2 : ((w.alloc (.cells #[.slice A N ca, .slice X pl cx, .bool D.x, .int .i64 D.f] 33)).alloc (.cells #[.slice none 0 0, .slice none 0 0, .bool false, .int .i64 0] 33)).heap[w.heap.size + 1]? = some (.cells #[.slice none 0 0, .slice none 0 0, .bool false, .int .i64 0] 33) := heap_alloc2_new _ _ _
  have HK1 := Lib.hid hk1
  have HK2 := Lib.hid hk2
  clear h hn hr hk1 hk2
  cases hx : D.x with
  | true =>
    obtain ⟨e1, e2⟩ := write_x s l hx
    have HF := Lib.hid (fun w' => HSAME.out 10 w' e1 e2)
    rw [hx] at HF HB2
    clear e1 e2 hx hok HIN HBU HSAME HK1 HK2
    go_enter Try.func12, Try.ntmps12
    go_wp2_with fail
    refine bodyPost_ret (results_cell_tmp rfl _ _ (w.heap.size + 1) 33 _ (0, 0) _ rfl (heap_alloc2_new _ _ _) Try.underlying33 rfl size_dk) rfl ?_
    exact HF.out _ (below2 _ _ _)
  | false =>
    rw [hx] at HB2 HK1 HK2 HSAME HIN HBU
    by_cases hm : n % 64 = 0
    · have q1 : ((n : Int) % 64 != 0) = false := by rw [bne_eq_false_iff_eq]; omega
      have hl0 : l.length % 64 = 0 := by rw [HN.out]; exact hm
      cases hi : inB D.n s (nk : Int) with
      | false =>
        have hi' : inB D.n s ((l.length / 64 : Nat) : Int) = false := by rw [HN.out, HNK.out]; exact hi
        obtain ⟨e1, e2⟩ := write_in s l hx hl0 hi'
        have HF := Lib.hid (fun w' => HSAME.out 2 w' e1 e2)
        rw [hi] at HIN
        clear e1 e2 hx hok HBU HSAME hl0 hi hi' hm
        go_enter Try.func12, Try.ntmps12
        go_wp2_with fail
        generalize (w.alloc (.cells #[.slice A N ca, .slice X pl cx, .bool false, .int .i64 D.f] 33)).alloc (.cells #[.slice none 0 0, .slice none 0 0, .bool false, .int .i64 0] 33) = w2 at *
        refine (HIN w2 HB2.out).out.mono ?_
        rintro e w3 ⟨rfl, hb3⟩
        have HK13 := Lib.hid ((hb3.block _ (Array.getElem?_eq_some_iff.1 HK1.out).1).trans HK1.out)
        have HK23 := Lib.hid ((hb3.block _ (Array.getElem?_eq_some_iff.1 HK2.out).1).trans HK2.out)
        have HB3 := Lib.hid (HB2.out.trans (hb3.mono HB2.out.size))
        have rc0 : w3.cell? ⟨w.heap.size, 0, none⟩ = some _ := (cell_of_row _ _ 0 _ _ _ HK13.out).trans rfl; have rf0 : w3.frozen? ⟨w.heap.size, 0, none⟩ = false := frozen_of_row _ _ _ _ _ HK13.out; have rc1 : w3.cell? ⟨w.heap.size, 1, none⟩ = some _ := (cell_of_row _ _ 1 _ _ _ HK13.out).trans rfl; have rf1 : w3.frozen? ⟨w.heap.size, 1, none⟩ = false := frozen_of_row _ _ _ _ _ HK13.out; have rc2 : w3.cell? ⟨w.heap.size, 2, none⟩ = some _ := (cell_of_row _ _ 2 _ _ _ HK13.out).trans rfl; have rf2 : w3.frozen? ⟨w.heap.size, 2, none⟩ = false := frozen_of_row _ _ _ _ _ HK13.out; have rc3 : w3.cell? ⟨w.heap.size, 3, none⟩ = some _ := (cell_of_row _ _ 3 _ _ _ HK13.out).trans rfl; have rf3 : w3.frozen? ⟨w.heap.size, 3, none⟩ = false := frozen_of_row _ _ _ _ _ HK13.out
        have zc0 : w3.cell? ⟨w.heap.size + 1, 0, none⟩ = some _ := (cell_of_row _ _ 0 _ _ _ HK23.out).trans rfl; have zf0 : w3.frozen? ⟨w.heap.size + 1, 0, none⟩ = false := frozen_of_row _ _ _ _ _ HK23.out; have zc1 : w3.cell? ⟨w.heap.size + 1, 1, none⟩ = some _ := (cell_of_row _ _ 1 _ _ _ HK23.out).trans rfl; have zf1 : w3.frozen? ⟨w.heap.size + 1, 1, none⟩ = false := frozen_of_row _ _ _ _ _ HK23.out; have zc2 : w3.cell? ⟨w.heap.size + 1, 2, none⟩ = some _ := (cell_of_row _ _ 2 _ _ _ HK23.out).trans rfl; have zf2 : w3.frozen? ⟨w.heap.size + 1, 2, none⟩ = false := frozen_of_row _ _ _ _ _ HK23.out; have zc3 : w3.cell? ⟨w.heap.size + 1, 3, none⟩ = some _ := (cell_of_row _ _ 3 _ _ _ HK23.out).trans rfl; have zf3 : w3.frozen? ⟨w.heap.size + 1, 3, none⟩ = false := frozen_of_row _ _ _ _ _ HK23.out
        clear hb3 HIN
        go_wp2_with fail
        have hz := heap_set4 HK23.out (.slice A N ca) (.slice X pl cx) (.bool false) (.int .i64 D.f)
        refine bodyPost_ret (results_cell_tmp rfl _ _ (w.heap.size + 1) 33 _ (0, 0) _ rfl hz Try.underlying33 rfl size_dk) rfl ?_
        exact HF.out _ (HB3.out.trans ((chg_set4 w3 (w.heap.size + 1) _ _ _ _).below HB3.out.size (by simp)))
      | true =>
        have hi' : inB D.n s ((l.length / 64 : Nat) : Int) = true := by rw [HN.out, HNK.out]; exact hi
        rw [hi] at HIN
        by_cases h0 : D.f = 0
        · obtain ⟨e1, e2⟩ := write_0 s l hx hl0 hi' h0
          have hbd : burnD D = { D with x := true } := by unfold burnD; rw [if_pos h0]
          have HF : Hid (∀ v' N' w', IsK w' N' v' (burnD D) → Below w.heap.size w w' → (∀ x ∈ N', x ∈ N0 ∨ w.heap.size ≤ x) → KP w N0 (writeD D s l) (fun v' => .tuple #[v', .int .i64 (writeE D s l)]) (.returned (.tuple #[v', .int .i64 10])) w') := by
            intro v' N' w' h1 h2 h3
            rw [e1, e2, ← hbd]
            exact ⟨v', N', rfl, h1, h2, h3⟩
          rw [decide_eq_true h0] at HBU
          clear e1 e2 hbd hx hok HSAME hl0 hi hi' hm h0
          generalize burnD D = D1 at *
          go_enter Try.func12, Try.ntmps12
          go_wp2_with fail
          generalize (w.alloc (.cells #[.slice A N ca, .slice X pl cx, .bool false, .int .i64 D.f] 33)).alloc (.cells #[.slice none 0 0, .slice none 0 0, .bool false, .int .i64 0] 33) = w2 at *
          refine (HIN w2 HB2.out).out.mono ?_
          rintro e w3 ⟨rfl, hb3⟩
          have HK13 := Lib.hid ((hb3.block _ (Array.getElem?_eq_some_iff.1 HK1.out).1).trans HK1.out)
          have HK23 := Lib.hid ((hb3.block _ (Array.getElem?_eq_some_iff.1 HK2.out).1).trans HK2.out)
          have HB3 := Lib.hid (HB2.out.trans (hb3.mono HB2.out.size))
          have rc0 : w3.cell? ⟨w.heap.size, 0, none⟩ = some _ := (cell_of_row _ _ 0 _ _ _ HK13.out).trans rfl; have rf0 : w3.frozen? ⟨w.heap.size, 0, none⟩ = false := frozen_of_row _ _ _ _ _ HK13.out; have rc1 : w3.cell? ⟨w.heap.size, 1, none⟩ = some _ := (cell_of_row _ _ 1 _ _ _ HK13.out).trans rfl; have rf1 : w3.frozen? ⟨w.heap.size, 1, none⟩ = false := frozen_of_row _ _ _ _ _ HK13.out; have rc2 : w3.cell? ⟨w.heap.size, 2, none⟩ = some _ := (cell_of_row _ _ 2 _ _ _ HK13.out).trans rfl; have rf2 : w3.frozen? ⟨w.heap.size, 2, none⟩ = false := frozen_of_row _ _ _ _ _ HK13.out; have rc3 : w3.cell? ⟨w.heap.size, 3, none⟩ = some _ := (cell_of_row _ _ 3 _ _ _ HK13.out).trans rfl; have rf3 : w3.frozen? ⟨w.heap.size, 3, none⟩ = false := frozen_of_row _ _ _ _ _ HK13.out
          clear hb3 HIN
          go_wp2_with fail
          refine (HBU w3 HB3.out).out.mono ?_
          rintro e w4 ⟨v4, N4, rfl, ⟨A4, ca4, X4, cx4, P4, rfl, h4⟩, hb4, hn4⟩
          have HI4 := Lib.hid h4
          have HN4 := Lib.hid (fun x hx => (hn4 x hx).imp id fun h => Nat.le_trans HB3.out.size h)
          have HK14 := Lib.hid ((hb4.block _ (Array.getElem?_eq_some_iff.1 HK13.out).1).trans HK13.out)
          have HK24 := Lib.hid ((hb4.block _ (Array.getElem?_eq_some_iff.1 HK23.out).1).trans HK23.out)
          have HB4 := Lib.hid (HB3.out.trans (hb4.mono HB3.out.size))
          unfold kval
          obtain ⟨pl4, HPL4⟩ : ∃ x, Hid (P4.length = x) := ⟨_, rfl⟩
          obtain ⟨N4', HNN4⟩ : ∃ x, Hid (64 * D1.n = x) := ⟨_, rfl⟩
          have HFI : Hid (∀ w', Chg [w.heap.size, w.heap.size + 1] w4 w' → KP w N0 (writeD D s l) (fun v' => .tuple #[v', .int .i64 (writeE D s l)]) (.returned (.tuple #[.agg #[.slice A4 N4' ca4, .slice X4 pl4 cx4, .bool D1.x, .int .i64 D1.f], .int .i64 10])) w') := by
            intro w' hc
            have hb := HB4.out.trans (hc.below HB4.out.size (by simp))
            have hk : Kept N4 w4 w' := fun x hx => hc.block x (HI4.out.nl x hx) (by
              rcases HN4.out x hx with h | h
              · have := HI.out.nl x h; simp; omega
              · have := hn4 x hx
                have h2 := (Array.getElem?_eq_some_iff.1 HK13.out).1
                have h3 := (Array.getElem?_eq_some_iff.1 HK23.out).1
                rcases this with h4 | h4
                · have := HI.out.nl x h4; simp; omega
                · simp; omega)
            have := HF.out (kval D1 A4 ca4 X4 cx4 P4) N4 w' ⟨A4, ca4, X4, cx4, P4, rfl, HI4.out.kept hk hc.size⟩ hb HN4.out
            unfold kval at this
            rw [HPL4.out, HNN4.out] at this
            exact this
          rw [HPL4.out, HNN4.out]
          clear h4 hb4 hn4 HBU
          clear rc0 rf0 rc1 rf1 rc2 rf2 rc3 rf3
          have rc0 : w4.cell? ⟨w.heap.size, 0, none⟩ = some _ := (cell_of_row _ _ 0 _ _ _ HK14.out).trans rfl; have rf0 : w4.frozen? ⟨w.heap.size, 0, none⟩ = false := frozen_of_row _ _ _ _ _ HK14.out; have rc1 : w4.cell? ⟨w.heap.size, 1, none⟩ = some _ := (cell_of_row _ _ 1 _ _ _ HK14.out).trans rfl; have rf1 : w4.frozen? ⟨w.heap.size, 1, none⟩ = false := frozen_of_row _ _ _ _ _ HK14.out; have rc2 : w4.cell? ⟨w.heap.size, 2, none⟩ = some _ := (cell_of_row _ _ 2 _ _ _ HK14.out).trans rfl; have rf2 : w4.frozen? ⟨w.heap.size, 2, none⟩ = false := frozen_of_row _ _ _ _ _ HK14.out; have rc3 : w4.cell? ⟨w.heap.size, 3, none⟩ = some _ := (cell_of_row _ _ 3 _ _ _ HK14.out).trans rfl; have rf3 : w4.frozen? ⟨w.heap.size, 3, none⟩ = false := frozen_of_row _ _ _ _ _ HK14.out
          have zc0 : w4.cell? ⟨w.heap.size + 1, 0, none⟩ = some _ := (cell_of_row _ _ 0 _ _ _ HK24.out).trans rfl; have zf0 : w4.frozen? ⟨w.heap.size + 1, 0, none⟩ = false := frozen_of_row _ _ _ _ _ HK24.out; have zc1 : w4.cell? ⟨w.heap.size + 1, 1, none⟩ = some _ := (cell_of_row _ _ 1 _ _ _ HK24.out).trans rfl; have zf1 : w4.frozen? ⟨w.heap.size + 1, 1, none⟩ = false := frozen_of_row _ _ _ _ _ HK24.out; have zc2 : w4.cell? ⟨w.heap.size + 1, 2, none⟩ = some _ := (cell_of_row _ _ 2 _ _ _ HK24.out).trans rfl; have zf2 : w4.frozen? ⟨w.heap.size + 1, 2, none⟩ = false := frozen_of_row _ _ _ _ _ HK24.out; have zc3 : w4.cell? ⟨w.heap.size + 1, 3, none⟩ = some _ := (cell_of_row _ _ 3 _ _ _ HK24.out).trans rfl; have zf3 : w4.frozen? ⟨w.heap.size + 1, 3, none⟩ = false := frozen_of_row _ _ _ _ _ HK24.out
          go_wp2_with fail
          have hz1 := heap_set4 HK14.out (.slice A4 N4' ca4) (.slice X4 pl4 cx4) (.bool D1.x) (.int .i64 D1.f)
          have hc1 := chg_set4 w4 w.heap.size (.slice A4 N4' ca4) (.slice X4 pl4 cx4) (.bool D1.x) (.int .i64 D1.f)
          have hz2 := heap_set4 (hc1.blk HK24.out (by simp)) (.slice A4 N4' ca4) (.slice X4 pl4 cx4) (.bool D1.x) (.int .i64 D1.f)
          have hc2 := chg_set4 ((((w4.setCell ⟨w.heap.size, 0, none⟩ (.slice A4 N4' ca4)).setCell ⟨w.heap.size, 1, none⟩ (.slice X4 pl4 cx4)).setCell ⟨w.heap.size, 2, none⟩ (.bool D1.x)).setCell ⟨w.heap.size, 3, none⟩ (.int .i64 D1.f)) (w.heap.size + 1) (.slice A4 N4' ca4) (.slice X4 pl4 cx4) (.bool D1.x) (.int .i64 D1.f)
          refine bodyPost_ret (results_cell_tmp rfl _ _ (w.heap.size + 1) 33 _ (0, 0) _ rfl hz2 Try.underlying33 rfl size_dk) rfl ?_
          exact HFI.out _ ((hc1.mono (by simp)).trans' (hc2.mono (by simp)))
        · obtain ⟨b1, b2, b3, b4⟩ := inB_of hi
          obtain ⟨si, rfl⟩ : ∃ si : Nat, s = si := ⟨s.toNat, by omega⟩
          obtain ⟨e1, e2⟩ := write_ok (si : Int) l hx hl0 hi' h0
          have hbd : burnD D = { D with f := burnF D.f } := by unfold burnD; rw [if_neg h0]
          have hn2 := hok.n2
          have hqo : Pc.ok D.n ⟨si, l⟩ := by
            refine ⟨?_, ?_⟩
            · show l.length = 64 * (l.length / 64); have := HN.out; omega
            · show si + l.length / 64 ≤ D.n; have := HN.out; have := HNK.out; omega
          have HQO : Hid (Pc.ok (burnD D).n ⟨si, l⟩) := by rw [hbd]; exact hqo
          have HF : Hid (∀ v' N' w', IsK w' N' v' { burnD D with p := (burnD D).p ++ [⟨si, l⟩] } → Below w.heap.size w w' → (∀ x ∈ N', x ∈ N0 ∨ w.heap.size ≤ x) → KP w N0 (writeD D si l) (fun v' => .tuple #[v', .int .i64 (writeE D si l)]) (.returned (.tuple #[v', .int .i64 0])) w') := by
            intro v' N' w' h1 h2 h3
            have : writeD D si l = { burnD D with p := (burnD D).p ++ [⟨si, l⟩] } := by rw [e1, hbd]; rfl
            rw [this, e2]
            exact ⟨v', N', rfl, h1, h2, h3⟩
          have HPB : Hid ((burnD D).p.length ≤ 10000) := by rw [hbd]; exact hp
          have hnm2 : n ≤ 4194304 := by have := HNK.out; omega
          rw [decide_eq_false h0] at HBU
          clear e1 e2 hbd hx hok HSAME hl0 hi hi' hm h0 hqo hp
          generalize burnD D = D1 at *
          go_enter Try.func12, Try.ntmps12
          go_wp2_with fail
          generalize (w.alloc (.cells #[.slice A N ca, .slice X pl cx, .bool false, .int .i64 D.f] 33)).alloc (.cells #[.slice none 0 0, .slice none 0 0, .bool false, .int .i64 0] 33) = w2 at *
          refine (HIN w2 HB2.out).out.mono ?_
          rintro e w3 ⟨rfl, hb3⟩
          have HK13 := Lib.hid ((hb3.block _ (Array.getElem?_eq_some_iff.1 HK1.out).1).trans HK1.out)
          have HK23 := Lib.hid ((hb3.block _ (Array.getElem?_eq_some_iff.1 HK2.out).1).trans HK2.out)
          have HB3 := Lib.hid (HB2.out.trans (hb3.mono HB2.out.size))
          have rc0 : w3.cell? ⟨w.heap.size, 0, none⟩ = some _ := (cell_of_row _ _ 0 _ _ _ HK13.out).trans rfl; have rf0 : w3.frozen? ⟨w.heap.size, 0, none⟩ = false := frozen_of_row _ _ _ _ _ HK13.out; have rc1 : w3.cell? ⟨w.heap.size, 1, none⟩ = some _ := (cell_of_row _ _ 1 _ _ _ HK13.out).trans rfl; have rf1 : w3.frozen? ⟨w.heap.size, 1, none⟩ = false := frozen_of_row _ _ _ _ _ HK13.out; have rc2 : w3.cell? ⟨w.heap.size, 2, none⟩ = some _ := (cell_of_row _ _ 2 _ _ _ HK13.out).trans rfl; have rf2 : w3.frozen? ⟨w.heap.size, 2, none⟩ = false := frozen_of_row _ _ _ _ _ HK13.out; have rc3 : w3.cell? ⟨w.heap.size, 3, none⟩ = some _ := (cell_of_row _ _ 3 _ _ _ HK13.out).trans rfl; have rf3 : w3.frozen? ⟨w.heap.size, 3, none⟩ = false := frozen_of_row _ _ _ _ _ HK13.out
          clear hb3 HIN
          go_wp2_with fail
          refine (HBU w3 HB3.out).out.mono ?_
          rintro e w4 ⟨v4, N4, rfl, ⟨A4, ca4, X4, cx4, P4, rfl, h4⟩, hb4, hn4⟩
          have HI4 := Lib.hid h4
          have HN4 := Lib.hid hn4
          have HK14 := Lib.hid ((hb4.block _ (Array.getElem?_eq_some_iff.1 HK13.out).1).trans HK13.out)
          have HK24 := Lib.hid ((hb4.block _ (Array.getElem?_eq_some_iff.1 HK23.out).1).trans HK23.out)
          have HB4 := Lib.hid (HB3.out.trans (hb4.mono HB3.out.size))
          unfold kval
          have hP4 : P4.length ≤ 10000 := by have h1 := h4.pd; have h2 := HPB.out; rw [h1] at h2; simpa using h2
          obtain ⟨pl4, HPL4⟩ : ∃ x, Hid (P4.length = x) := ⟨_, rfl⟩
          obtain ⟨N4', HNN4⟩ : ∃ x, Hid (64 * D1.n = x) := ⟨_, rfl⟩
          rw [HPL4.out] at hP4
          rw [HPL4.out, HNN4.out]
          clear h4 hb4 hn4 HBU
          clear rc0 rf0 rc1 rf1 rc2 rf2 rc3 rf3
          have rc0 : w4.cell? ⟨w.heap.size, 0, none⟩ = some _ := (cell_of_row _ _ 0 _ _ _ HK14.out).trans rfl; have rf0 : w4.frozen? ⟨w.heap.size, 0, none⟩ = false := frozen_of_row _ _ _ _ _ HK14.out; have rc1 : w4.cell? ⟨w.heap.size, 1, none⟩ = some _ := (cell_of_row _ _ 1 _ _ _ HK14.out).trans rfl; have rf1 : w4.frozen? ⟨w.heap.size, 1, none⟩ = false := frozen_of_row _ _ _ _ _ HK14.out; have rc2 : w4.cell? ⟨w.heap.size, 2, none⟩ = some _ := (cell_of_row _ _ 2 _ _ _ HK14.out).trans rfl; have rf2 : w4.frozen? ⟨w.heap.size, 2, none⟩ = false := frozen_of_row _ _ _ _ _ HK14.out; have rc3 : w4.cell? ⟨w.heap.size, 3, none⟩ = some _ := (cell_of_row _ _ 3 _ _ _ HK14.out).trans rfl; have rf3 : w4.frozen? ⟨w.heap.size, 3, none⟩ = false := frozen_of_row _ _ _ _ _ HK14.out
          have zc0 : w4.cell? ⟨w.heap.size + 1, 0, none⟩ = some _ := (cell_of_row _ _ 0 _ _ _ HK24.out).trans rfl; have zf0 : w4.frozen? ⟨w.heap.size + 1, 0, none⟩ = false := frozen_of_row _ _ _ _ _ HK24.out; have zc1 : w4.cell? ⟨w.heap.size + 1, 1, none⟩ = some _ := (cell_of_row _ _ 1 _ _ _ HK24.out).trans rfl; have zf1 : w4.frozen? ⟨w.heap.size + 1, 1, none⟩ = false := frozen_of_row _ _ _ _ _ HK24.out; have zc2 : w4.cell? ⟨w.heap.size + 1, 2, none⟩ = some _ := (cell_of_row _ _ 2 _ _ _ HK24.out).trans rfl; have zf2 : w4.frozen? ⟨w.heap.size + 1, 2, none⟩ = false := frozen_of_row _ _ _ _ _ HK24.out; have zc3 : w4.cell? ⟨w.heap.size + 1, 3, none⟩ = some _ := (cell_of_row _ _ 3 _ _ _ HK24.out).trans rfl; have zf3 : w4.frozen? ⟨w.heap.size + 1, 3, none⟩ = false := frozen_of_row _ _ _ _ _ HK24.out
          go_upto_region 10 with (fail)
          have hz1 := heap_set4 HK14.out (.slice A4 N4' ca4) (.slice X4 pl4 cx4) (.bool D1.x) (.int .i64 D1.f)
          have hc1 := chg_set4 w4 w.heap.size (.slice A4 N4' ca4) (.slice X4 pl4 cx4) (.bool D1.x) (.int .i64 D1.f)
          generalize (((w4.setCell ⟨w.heap.size, 0, none⟩ (.slice A4 N4' ca4)).setCell ⟨w.heap.size, 1, none⟩ (.slice X4 pl4 cx4)).setCell ⟨w.heap.size, 2, none⟩ (.bool D1.x)).setCell ⟨w.heap.size, 3, none⟩ (.int .i64 D1.f) = w5 at *
          have HK15 := Lib.hid hz1
          have HK25 := Lib.hid (hc1.blk HK24.out (by simp))
          have HB5 := Lib.hid (HB4.out.trans (hc1.below HB4.out.size (by simp)))
          have hs3 : w.heap.size + 2 ≤ w3.heap.size := (Array.getElem?_eq_some_iff.1 HK23.out).1
          have HNR : Hid (∀ x ∈ N4, x ≠ w.heap.size ∧ x ≠ w.heap.size + 1) := by
            intro x hx
            rcases HN4.out x hx with h | h
            · have := HI.out.nl x h; omega
            · omega
          have HI5 : Hid (IsK' w5 N4 D1 A4 ca4 X4 cx4 P4) := HI4.out.kept (fun x hx => hc1.block x (HI4.out.nl x hx) (by simp; exact (HNR.out x hx).1)) hc1.size
          have HR5 : Hid (RB w5 B l) := by
            by_cases hl : l = []
            · subst hl; exact RB.nil
            · refine hc1.rd (RB.below HR.out HB4.out) fun b off e hx => ?_
              obtain ⟨b', off', e', hb', _⟩ := RB.cells HR.out (List.length_pos_iff.2 hl)
              rw [e] at e'; cases e'
              simp only [List.mem_singleton] at hx; omega
          have hs5 : w.heap.size + 2 ≤ w5.heap.size := (Array.getElem?_eq_some_iff.1 HK25.out).1
          clear hz1 hc1
          clear rc0 rf0 rc1 rf1 rc2 rf2 rc3 rf3
          clear zc0 zf0 zc1 zf1 zc2 zf2 zc3 zf3
          have rc0 : w5.cell? ⟨w.heap.size, 0, none⟩ = some _ := (cell_of_row _ _ 0 _ _ _ HK15.out).trans rfl; have rf0 : w5.frozen? ⟨w.heap.size, 0, none⟩ = false := frozen_of_row _ _ _ _ _ HK15.out; have rc1 : w5.cell? ⟨w.heap.size, 1, none⟩ = some _ := (cell_of_row _ _ 1 _ _ _ HK15.out).trans rfl; have rf1 : w5.frozen? ⟨w.heap.size, 1, none⟩ = false := frozen_of_row _ _ _ _ _ HK15.out; have rc2 : w5.cell? ⟨w.heap.size, 2, none⟩ = some _ := (cell_of_row _ _ 2 _ _ _ HK15.out).trans rfl; have rf2 : w5.frozen? ⟨w.heap.size, 2, none⟩ = false := frozen_of_row _ _ _ _ _ HK15.out; have rc3 : w5.cell? ⟨w.heap.size, 3, none⟩ = some _ := (cell_of_row _ _ 3 _ _ _ HK15.out).trans rfl; have rf3 : w5.frozen? ⟨w.heap.size, 3, none⟩ = false := frozen_of_row _ _ _ _ _ HK15.out
          have HPE : Hid (Rd w5 X4 (pcells P4)) := HI5.out.pe
          have HPL2 : Hid ((pcells P4).length = pl4 * 2) := by show _ = _; rw [pcells_len, HPL4.out]
          have ra : ∀ o : Obj, (w5.alloc o).cell? ⟨w.heap.size, 1, none⟩ = some (.slice X4 pl4 cx4) := fun o => (World.cell?_alloc_lt w5 o ⟨w.heap.size, 1, none⟩ (block_lt_of_cell rc1)).trans rc1
          go_wp2_with (first | (at_builtin; refine wpList_appS _ rfl (.tmp 33) (.tmp 35) 31 rfl w5.heap.size 47 (.agg #[.int .i64 0, .slice none 0 0]) 2 32 Try.underlying31 info_pc rfl (by omega) (.slice (some ⟨w5.heap.size, 0, none⟩) 0 0) 0 [] rfl (World.ownsRow_made _ _ 0 (Nat.le_refl _) (by simp [maxLen]) rfl) X4 pl4 cx4 (pcells P4) rfl HPL2.out (Rd.alloc HPE.out _) (pcells_one _) (by simp only [maxLen]; omega) (by omega) (by simp) ?_; intro X6 cx6 w6 ho6 ha6; (rw [Nat.zero_add, List.nil_append] at ho6); have HO6 := Lib.hid ho6; have hb6 : Below w5.heap.size w5 w6 := (below1 w5 _).trans (ha6.belowS (World.ownsRow_made (size := 2) _ _ 0 (Nat.le_refl _) (by simp [maxLen]) rfl) (by simp)); have HB6 := Lib.hid hb6; clear ho6 ha6 hb6) | (at_builtin; refine wpList_apps _ rfl (.tmp 38) (.tmp 39) 30 rfl w6.heap.size 5 (.int .u8 0) 1 Try.underlying30 info_u8 rfl (.slice (some ⟨w6.heap.size, 0, none⟩) 0 0) 0 [] rfl (own_empty _ _ _ _ rfl (Nat.le_refl _)) B n c (l.map vb) rfl (by simp; exact HN.out) (Rd.alloc (RB.below HR5.out HB6.out) _) (vb_one _) (by simp only [maxLen]; omega) (by omega) (by simp) ?_; intro Y7 cy7 w7 ho7 ha7; (rw [Nat.zero_add, List.nil_append] at ho7); have HO7 := Lib.hid ho7; have hb7 : Below w6.heap.size w6 w7 := (below1 w6 _).trans (ha7.below (own_empty w6.heap.size _ _ _ rfl (Nat.le_refl _)) (by simp)); have HB7 := Lib.hid hb7; clear ho7 ha7 hb7) | (at_builtin; refine wpList_appS _ rfl (.tmp 36) (.tmp 42) 31 rfl w5.heap.size 47 (.agg #[.int .i64 0, .slice none 0 0]) 2 32 Try.underlying31 info_pc rfl (by omega) (.slice X6 pl4 cx6) pl4 (pcells P4) rfl (own_belowS HO6.out (HB7.out.trans ((below1 w7 _).mono HB7.out.size))) (some ⟨w7.heap.size, 0, none⟩) 1 1 [.int .i64 (si : Int), .slice Y7 n cy7] rfl rfl (Rd.new w7 [.int .i64 (si : Int), .slice Y7 n cy7] _ _) (by simp [Value.oneCell']) (by simp only [maxLen]; omega) (by omega) (Nat.le_trans HB6.out.size (Nat.le_trans HB7.out.size (by simp))) ?_; intro X8 cx8 w8 ho8 ha8; have HO8 := Lib.hid ho8; have HA8 := Lib.hid ha8; have hb58 := (HB6.out.trans (HB7.out.mono HB6.out.size)).trans ((below1 w7 (.cells #[.int .i64 (si : Int), .slice Y7 n cy7] 47)).mono (Nat.le_trans HB6.out.size HB7.out.size)); have hne : ∀ R, R < w5.heap.size → (Value.slice X6 pl4 cx6).ownBlock ≠ some R := fun R hR he => absurd (HO6.out.lt R he).1 (by omega); have HK18 := Lib.hid (ha8.old ((hb58.block _ (by omega)).trans HK15.out) (hne _ (by omega))); have HK28 := Lib.hid (ha8.old ((hb58.block _ (by omega)).trans HK25.out) (hne _ (by omega))); have HB58 := Lib.hid hb58; clear ho8 ha8 hb58 hne; have tc0 : w8.cell? ⟨w.heap.size, 0, none⟩ = some _ := (cell_of_row _ _ 0 _ _ _ HK18.out).trans rfl; have tf0 : w8.frozen? ⟨w.heap.size, 0, none⟩ = false := frozen_of_row _ _ _ _ _ HK18.out; have tc1 : w8.cell? ⟨w.heap.size, 1, none⟩ = some _ := (cell_of_row _ _ 1 _ _ _ HK18.out).trans rfl; have tf1 : w8.frozen? ⟨w.heap.size, 1, none⟩ = false := frozen_of_row _ _ _ _ _ HK18.out; have tc2 : w8.cell? ⟨w.heap.size, 2, none⟩ = some _ := (cell_of_row _ _ 2 _ _ _ HK18.out).trans rfl; have tf2 : w8.frozen? ⟨w.heap.size, 2, none⟩ = false := frozen_of_row _ _ _ _ _ HK18.out; have tc3 : w8.cell? ⟨w.heap.size, 3, none⟩ = some _ := (cell_of_row _ _ 3 _ _ _ HK18.out).trans rfl; have tf3 : w8.frozen? ⟨w.heap.size, 3, none⟩ = false := frozen_of_row _ _ _ _ _ HK18.out; have uc0 : w8.cell? ⟨w.heap.size + 1, 0, none⟩ = some _ := (cell_of_row _ _ 0 _ _ _ HK28.out).trans rfl; have uf0 : w8.frozen? ⟨w.heap.size + 1, 0, none⟩ = false := frozen_of_row _ _ _ _ _ HK28.out; have uc1 : w8.cell? ⟨w.heap.size + 1, 1, none⟩ = some _ := (cell_of_row _ _ 1 _ _ _ HK28.out).trans rfl; have uf1 : w8.frozen? ⟨w.heap.size + 1, 1, none⟩ = false := frozen_of_row _ _ _ _ _ HK28.out; have uc2 : w8.cell? ⟨w.heap.size + 1, 2, none⟩ = some _ := (cell_of_row _ _ 2 _ _ _ HK28.out).trans rfl; have uf2 : w8.frozen? ⟨w.heap.size + 1, 2, none⟩ = false := frozen_of_row _ _ _ _ _ HK28.out; have uc3 : w8.cell? ⟨w.heap.size + 1, 3, none⟩ = some _ := (cell_of_row _ _ 3 _ _ _ HK28.out).trans rfl; have uf3 : w8.frozen? ⟨w.heap.size + 1, 3, none⟩ = false := frozen_of_row _ _ _ _ _ HK28.out))
          have hcR : Chg [w.heap.size] w8 (w8.setCell ⟨w.heap.size, 1, none⟩ (.slice X8 (pl4 + 1) cx8)) := (Chg.refl [w.heap.size] w8).setCell (p := ⟨w.heap.size, 1, none⟩) (.inl (by simp)) _
          have hz2 := heap_set4 (hcR.blk HK28.out (by simp)) (.slice A4 N4' ca4) (.slice X8 (pl4 + 1) cx8) (.bool D1.x) (.int .i64 D1.f)
          have hc2 := chg_set4 (w8.setCell ⟨w.heap.size, 1, none⟩ (.slice X8 (pl4 + 1) cx8)) (w.heap.size + 1) (.slice A4 N4' ca4) (.slice X8 (pl4 + 1) cx8) (.bool D1.x) (.int .i64 D1.f)
          have hcf : Chg [w.heap.size, w.heap.size + 1] w8 _ := (hcR.mono (by simp)).trans' (hc2.mono (by simp))
          refine bodyPost_ret (results_cell_tmp rfl _ _ (w.heap.size + 1) 33 _ (0, 0) _ rfl hz2 Try.underlying33 rfl size_dk) rfl ?_
          have h1 := HPL4.out
          have h2 := HNN4.out
          have h3 := HN.out
          subst h1
          subst h2
          subst h3
          have hnx : ∀ b, (Value.slice Y7 l.length cy7).ownBlock = some b → ∀ x, (Value.slice X6 P4.length cx6).ownBlock = some x → b ≠ x := fun b hb x hx => by
            have e1 := (HO7.out.lt b hb).1
            have e2 := (HO6.out.lt x hx).2
            omega
          have hc78 : Chg (Value.slice X6 P4.length cx6).ownBlock.toList (w7.alloc (.cells #[.int .i64 (si : Int), .slice Y7 l.length cy7] 47)) w8 := HA8.out.chg (fun b hb => by simpa using hb)
          have hY8 : w8.ownsRow w5.heap.size 5 1 (.slice Y7 l.length cy7) l.length (l.map vb) :=
            hc78.own (own_below (own_base HO7.out HB6.out.size) (below1 w7 _)) (fun b hb hx => hnx b hb b (by simpa using hx) rfl)
          have hb8 : Below w5.heap.size w5 w8 := HB58.out.trans (hc78.below HB58.out.size (fun x hx => (HO6.out.lt x (by simpa using hx)).1))
          obtain ⟨N', hIK, hN'⟩ := HI5.out.push hb8 HQO.out (Nat.le_refl _) HO8.out hY8
          have hbf := hb8.size
          have hkept : Kept N' w8 _ := fun x hx => hcf.block x (hIK.nl x hx) (by
            rcases hN' x hx with h | h
            · have := HNR.out x h; simp; omega
            · simp; omega)
          have hN2 : ∀ x ∈ N', x ∈ N0 ∨ w.heap.size ≤ x := by
            intro x hx
            rcases hN' x hx with h | h
            · exact (HN4.out x h).imp id fun h => by have := HB3.out.size; omega
            · exact .inr (by omega)
          have h := HF.out (kval { D1 with p := D1.p ++ [⟨si, l⟩] } A4 ca4 X8 cx8 (P4 ++ [⟨⟨si, l⟩, Y7, cy7⟩])) N' _ ⟨_, _, _, _, _, rfl, hIK.kept hkept hcf.size⟩ ((HB5.out.trans (hb8.mono HB5.out.size)).trans (hcf.below (Nat.le_trans HB5.out.size hb8.size) (by simp))) hN2
          unfold kval at h
          rw [show (P4 ++ [(⟨⟨si, l⟩, Y7, cy7⟩ : Pm)]).length = P4.length + 1 by simp] at h
          exact h
    · obtain ⟨e1, e2⟩ := write_len s l hx (by rw [HN.out]; exact hm)
      have q1 : ((n : Int) % 64 != 0) = true := by rw [bne_iff_ne]; omega
      have HF := Lib.hid (fun w' => HSAME.out 1 w' e1 e2)
      clear e1 e2 hx hok HIN HBU HSAME HK1 HK2 hm
      go_enter Try.func12, Try.ntmps12
      go_wp2_with fail
      refine bodyPost_ret (results_cell_tmp rfl _ _ (w.heap.size + 1) 33 _ (0, 0) _ rfl (heap_alloc2_new _ _ _) Try.underlying33 rfl size_dk) rfl ?_
      exact HF.out _ (below2 _ _ _)
end Dk
end Go.Proofs.Ytoallpinpeolfaa
