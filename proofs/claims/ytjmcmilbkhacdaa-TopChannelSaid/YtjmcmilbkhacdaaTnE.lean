/- The walks of netsim.New, Len, with, Deliver, Drop. -/
import Derived.Test.YtjmcmilbkhacdaaTnD
namespace Go.Proofs.Ytjmcmilbkhacdaa
open Go.RowKit Go.Shelf
namespace Tc

def chI (k : Int) (n : Nat) : Nat := (k % n).toNat
theorem chI_lt (k : Int) {n : Nat} (h : 0 < n) : chI k n < n := by
  unfold chI
  have h1 := Int.emod_lt_of_pos k (by omega : (0 : Int) < (n : Int))
  have h2 := Int.emod_nonneg k (by omega : (n : Int) ≠ 0)
  omega
theorem tm_bounds (k : Int) {n : Nat} (h : 0 < n) : -(n : Int) < k.tmod n ∧ k.tmod n < n := by
  refine ⟨?_, ?_⟩
  · have := Int.lt_tmod_of_pos k (by omega : (0 : Int) < (n : Int)); omega
  · exact Int.tmod_lt_of_pos k (by omega)
theorem ch_eq (k : Int) {n : Nat} (h : 0 < n) : (if k.tmod (n : Int) < 0 then k.tmod (n : Int) + n else k.tmod n) = (chI k n : Int) := by
  have hne : ¬ (n : Int) = 0 := by omega
  have htb := tm_bounds k h
  unfold chI
  have h2 := Int.emod_nonneg k hne
  rw [Int.toNat_of_nonneg h2, Int.tmod_eq_emod]
  have h3 := Int.emod_lt_of_pos k (by omega : (0 : Int) < (n : Int))
  split <;> split <;> omega
theorem netNew_calls (w : World) : Calls Try.prog 4 #[] w fun e w' => e = .returned (.pointer (some ⟨w.heap.size, 0, none⟩)) ∧ IsNet w.heap.size w' w.heap.size none 0 0 0 [] ∧ Below w.heap.size w w' := by
  have HP : Hid (IsNet w.heap.size (w.alloc (.cells #[.int .i64 0, .slice none 0 0] 42)) w.heap.size none 0 0 0 [] ∧ Below w.heap.size w (w.alloc (.cells #[.int .i64 0, .slice none 0 0] 42))) :=
    Lib.hid ⟨⟨heap_alloc_new _ _, Nat.le_refl _, ⟨rfl, .inl ⟨rfl, rfl⟩⟩, rfl, by simp, by simp⟩, below1 _ _⟩
  go_enter Try.func4, Try.ntmps4
  go_wp2_with fail
  go_ret
  exact ⟨rfl, HP.out.1, HP.out.2⟩
theorem netLen_calls {B g n c : Nat} {A : Option Addr} {last : Int} {ps : List Pk} {w : World} (h : IsNet B w g A n c last ps) : Calls Try.prog 8 #[.pointer (some ⟨g, 0, none⟩)] w fun e w' => e = .returned (.int .i64 (ps.length : Int)) ∧ w = w' := by
  have HL : Hid (ps.length = n) := Lib.hid h.hn
  have c1 : w.cell? ⟨g, 1, none⟩ = some (.slice A n c) := (cell_of_row _ _ 1 _ _ _ h.hd).trans rfl
  clear h
  go_enter Try.func8, Try.ntmps8
  go_wp2_with fail
  go_ret
  exact ⟨by rw [HL.out]; rfl, rfl⟩
set_option maxRecDepth 100000 in
set_option maxHeartbeats 2000000 in
theorem with_calls (F : Nat) (caps : Array Value) (hcf : ∀ (args : Array Value) (w' : World), (callFunc F args).run Try.prog w' = .ok (.enter F args) w') (g n c : Nat) (A : Option Addr) (last i : Int) (w : World) (hg : w.heap[g]? = some (Obj.cells #[.int .i64 last, .slice A n c] 42 (0, 0))) (hn : n ≤ 100000)
    (P : World → Prop) (H : 0 < n → Calls Try.prog F (#[.int .i64 (chI i n : Nat)] ++ caps) w fun e w' => e = .returned (.tuple #[]) ∧ P w') :
    Calls Try.prog 24 #[.pointer (some ⟨g, 0, none⟩), .int .i64 i, .func (.func F) #[] caps] w fun e w' => (n = 0 ∧ e = .returned (.bool false) ∧ w = w') ∨ (0 < n ∧ e = .returned (.bool true) ∧ P w') := by
  have c1 : w.cell? ⟨g, 1, none⟩ = some (.slice A n c) := (cell_of_row _ _ 1 _ _ _ hg).trans rfl
  clear hg
  by_cases hz : n = 0
  · subst hz
    clear H
    go_enter Try.func24, Try.ntmps24
    go_wp2_with fail
    go_ret
    exact .inl ⟨by simp, rfl, rfl⟩
  · have q0 : ((n : Int) == 0) = false := by rw [beq_eq_false_iff_ne]; omega
    have hne : ¬ (n : Int) = 0 := by omega
    have hpos : 0 < n := by omega
    have HPOS := Lib.hid hpos
    have HC := Lib.hid (H hpos)
    have hce := ch_eq i hpos
    have htb := tm_bounds i hpos
    have hclt := chI_lt i hpos
    obtain ⟨p, HPP⟩ : ∃ y, Hid (chI i n = y) := ⟨_, rfl⟩
    rw [HPP.out] at HC hce hclt
    obtain ⟨t, ht⟩ : ∃ t, i.tmod (n : Int) = t := ⟨_, rfl⟩
    rw [ht] at hce htb
    have hw1 : IntKind.i64.wrap t = t := IntWalk.i64_in _ (by omega)
    clear H hz
    by_cases hneg : t < 0
    · rw [if_pos hneg] at hce
      have hw2 : IntKind.i64.wrap (t + (n : Int)) = (p : Int) := by rw [hce]; exact IntWalk.i64_in _ (by omega)
      have d1 : decide (t < 0) = true := decide_eq_true hneg
      go_enter Try.func24, Try.ntmps24
      go_upto_region 6 with (fail)
      clear hw1 hw2 hce htb hne d1 hneg q0 ht
      go_wp2_with fail
      refine HC.out.mono ?_
      rintro e w1 ⟨rfl, hp⟩
      have HPW := Lib.hid hp
      clear hp
      go_wp2_with fail
      go_ret
      exact .inr ⟨HPOS.out, rfl, HPW.out⟩
    · rw [if_neg hneg] at hce
      have d1 : decide (t < 0) = false := decide_eq_false hneg
      subst hce
      go_enter Try.func24, Try.ntmps24
      go_upto_region 6 with (fail)
      clear hw1 htb hne d1 hneg q0 ht
      go_wp2_with fail
      refine HC.out.mono ?_
      rintro e w1 ⟨rfl, hp⟩
      have HPW := Lib.hid hp
      clear hp
      go_wp2_with fail
      go_ret
      exact .inr ⟨HPOS.out, rfl, HPW.out⟩
theorem enters_del : ∀ (args : Array Value) (w' : World), (callFunc 26 args).run Try.prog w' = .ok (.enter 26 args) w' := enters_of Try.func26 (by kernel_rfl) rfl
/-- a packet was taken out -/
theorem net_pull {B g n c : Nat} {A A' : Option Addr} {c' : Nat} {last : Int} {ps : List Pk} {w w1 w2 : World} {S : List Nat} (h : IsNet B w g A n c last ps) (hB : B ≤ w.heap.size) (hc1 : Chg S w w1) (hS : ∀ x ∈ S, w.heap.size ≤ x) (qs : List Pk) (hqs : ∀ p ∈ qs, p ∈ ps)
    (ho : w2.ownsRow B 50 4 (.slice A' qs.length c') qs.length (cells4 qs)) (ha : App w1 (.slice A n c) w2 (.slice A' qs.length c')) : NetW B g A qs w1.heap.size w (w2.setCell ⟨g, 1, none⟩ (.slice A' qs.length c')) := by
  have hrow : ∀ x, (Value.slice A n c).ownBlock = some x → x ∈ netS g A := fun x hx => by
    rw [ownBlock_any A n c 0 0] at hx; simp [netS, hx]
  have hcw : Chg (netS g A) w w1 := ⟨hc1.os, hc1.tape, hc1.output, hc1.size, fun k hk _ => hc1.block k hk (fun hm => by have := hS k hm; omega)⟩
  have hk1 := hcw.block g h.lt
  have hg1 : w1.heap[g]? = some (Obj.cells #[.int .i64 last, .slice A n c] 42 (0, 0)) := (hc1.block g h.lt (fun hm => by have := hS g hm; have := h.lt; omega)).trans h.hd
  have hg2 := ha.old hg1 (own_tyne h.ow h.hd (by decide))
  have hca : Chg (netS g A) w1 w2 := Chg.of_grown ha.1 hrow
  have hcs : Chg (netS g A) w2 (w2.setCell ⟨g, 1, none⟩ (.slice A' qs.length c')) := (Chg.refl _ w2).setCell (p := ⟨g, 1, none⟩) (.inl (by simp [netS])) _
  have hcx := (hcw.trans' hca).trans' hcs
  have hfx := h.fz hB hcx
  refine ⟨⟨A', qs.length, c', last, ⟨heap_setCell_same _ _ _ _ _ _ hg2, h.gB, ?_, rfl, fun p hp => (h.ok p (hqs p hp)).st hfx, fun p hp => h.dl p (hqs p hp)⟩, ?_⟩, hcx⟩
  · exact ((Chg.refl [g] w2).setCell (p := ⟨g, 1, none⟩) (.inl (by simp)) (.slice A' qs.length c')).ownS ho (fun b hb hm => own_tyne ho hg2 (by decide) (by rw [hb, List.mem_singleton.1 hm]))
  · rcases ha.2 with h1 | ⟨b, h1, h2⟩
    · rw [ownBlock_any A' 0 0 qs.length c', h1, ownBlock_any A n c 0 0]; exact .inl rfl
    · exact .inr ⟨b, by rw [ownBlock_any A' 0 0 qs.length c']; exact h1, h2⟩
set_option maxRecDepth 100000 in
set_option maxHeartbeats 4000000 in
theorem del1_calls (B g n c q0 q1 i : Nat) (A : Option Addr) (last : Int) (ps : List Pk) (w0 w : World) (h0 : IsNet B w0 g A n c last ps) (hB : B ≤ w0.heap.size) (hb : Below w0.heap.size w0 w) (hq0 : w.heap[q0]? = some (Obj.cells #[.pointer (some ⟨g, 0, none⟩)] 24 (0, 0))) (hq1 : w.heap[q1]? = some (Obj.cells #[.int .i64 0, .int .i64 0, .int .i64 0, .slice none 0 0] 50 (0, 0))) (h1 : w0.heap.size ≤ q1) (hn : n ≤ 100000) (hi : i < n) (hip : i < ps.length) :
    Calls Try.prog 26 #[.int .i64 (i : Nat), .pointer (some ⟨q0, 0, none⟩), .pointer (some ⟨q1, 0, none⟩)] w fun e w' => e = .returned (.tuple #[]) ∧ NetW B g A (ps.take i ++ ps.drop (i + 1)) w.heap.size w0 w' ∧ w'.heap[q1]? = some (Obj.cells ps[i].cells.toArray 50 (0, 0)) := by
  have h := h0.below hB hb
  have H0 := Lib.hid h0
  have HB := Lib.hid hb
  obtain ⟨gr, cap, hA, _, hnc, hcm, hgr⟩ := own_some h.ow (by omega)
  cases hA
  obtain ⟨_, _, e0, _, _, _, hrr⟩ := own_formS h.ow
  cases e0
  obtain ⟨b, off, e, hbl, x0, x1, x2, x3⟩ := rd4 hrr i hip
  cases e
  have hgw : gr < w0.heap.size := (h0.ow.lt gr rfl).2
  have hgl := h0.lt
  have hglw := h.lt
  have g1 : w.cell? ⟨g, 1, none⟩ = some (.slice (some ⟨gr, 0, none⟩) n c) := (cell_of_row _ _ 1 _ _ _ h.hd).trans rfl
  have b0 : w.cell? ⟨q0, 0, none⟩ = some (.pointer (some ⟨g, 0, none⟩)) := (cell_of_row _ _ 0 _ _ _ hq0).trans rfl
  have hq01 : q0 ≠ q1 := fun e => by
    subst e; rw [hq0] at hq1
    injection hq1 with hq1
    injection hq1 with _ hq1
    exact absurd hq1 (by decide)
  have y0 : w.cell? ⟨q1, 0, none⟩ = some (.int .i64 0) := (cell_of_row _ _ 0 _ _ _ hq1).trans rfl
  have y1 : w.cell? ⟨q1, 1, none⟩ = some (.int .i64 0) := (cell_of_row _ _ 1 _ _ _ hq1).trans rfl
  have y2 : w.cell? ⟨q1, 2, none⟩ = some (.int .i64 0) := (cell_of_row _ _ 2 _ _ _ hq1).trans rfl
  have y3 : w.cell? ⟨q1, 3, none⟩ = some (.slice none 0 0) := (cell_of_row _ _ 3 _ _ _ hq1).trans rfl
  have f0 := frozen_of_row _ _ 0 _ _ hq1
  have f1 := frozen_of_row _ _ 1 _ _ hq1
  have f2 := frozen_of_row _ _ 2 _ _ hq1
  have f3 := frozen_of_row _ _ 3 _ _ hq1
  have hst : ∀ v0 v1 v2 v3, Chg [q1] w0 ((((w.setCell ⟨q1, 0, none⟩ v0).setCell ⟨q1, 1, none⟩ v1).setCell ⟨q1, 2, none⟩ v2).setCell ⟨q1, 3, none⟩ v3) := fun v0 v1 v2 v3 => (Chg.of_below hb _).trans' (chgset4 q1 v0 v1 v2 v3)
  have HPS : Hid (ps.length = n) := Lib.hid h0.hn
  have hsq : ∀ p ∈ ps.take i ++ ps.drop (i + 1), p ∈ ps := fun p hp => (List.mem_append.1 hp).elim List.mem_of_mem_take List.mem_of_mem_drop
  have HSQ := Lib.hid hsq
  obtain ⟨qs, HQS⟩ : ∃ y, Hid (ps.take i ++ ps.drop (i + 1) = y) := ⟨ps.take i ++ ps.drop (i + 1), Lib.hid rfl⟩
  have hd1 : Chg [q1] w ((((w.setCell ⟨q1, 0, none⟩ (.int .i64 ps[i].num)).setCell ⟨q1, 1, none⟩ (.int .i64 ps[i].f)).setCell ⟨q1, 2, none⟩ (.int .i64 ps[i].t)).setCell ⟨q1, 3, none⟩ (.slice ps[i].a ps[i].d.length ps[i].c)) := chgset4 q1 _ _ _ _
  have hk1 : ((((w.setCell ⟨q1, 0, none⟩ (.int .i64 ps[i].num)).setCell ⟨q1, 1, none⟩ (.int .i64 ps[i].f)).setCell ⟨q1, 2, none⟩ (.int .i64 ps[i].t)).setCell ⟨q1, 3, none⟩ (.slice ps[i].a ps[i].d.length ps[i].c)).heap[q1]? = some (Obj.cells ps[i].cells.toArray 50 (0, 0)) := st4 hq1 _ _ _ _
  have HD1 := Lib.hid hd1
  have HC1 := Lib.hid (hst (.int .i64 ps[i].num) (.int .i64 ps[i].f) (.int .i64 ps[i].t) (.slice ps[i].a ps[i].d.length ps[i].c))
  have HK1 := Lib.hid hk1
  have hd3 := hd1.blk hq0 (by simp; exact hq01)
  have hg3 := hd1.blk h.hd (by simp; omega)
  have ho1 := hd1.ownS h.ow (fun b hb2 hm => by
    have : gr = b := by simpa [Value.ownBlock] using hb2
    have := List.mem_singleton.1 hm
    omega)
  have HQ0 := Lib.hid hd3
  have HG1 := Lib.hid hg3
  have HO1 := Lib.hid ho1
  obtain ⟨z, HZ⟩ : ∃ y, Hid (ps[i] = y) := ⟨ps[i], Lib.hid rfl⟩
  have hi1 : IntKind.i64.wrap ((i : Int) + 1) = (i : Int) + 1 := IntWalk.i64_in _ (by omega)
  have j0 : (0 : Int) ≤ (i : Int) := by omega
  have j1 : (i : Int) < (n : Int) := by omega
  rw [HZ.out] at x0 x1 x2 x3 HD1 HC1 HK1 HQ0 HG1 HO1 ⊢
  rw [HQS.out] at HSQ ⊢
  simp only [Nat.zero_add] at x0 x1 x2 x3
  clear h0 h hb hrr hq0 hq1 hst hsq hd1 hk1 hd3 hg3 ho1
  go_enter Try.func26, Try.ntmps26
  go_upto_region 1 with (fail)
  clear y0 y1 y2 y3 f0 f1 f2 f3 x0 x1 x2 x3 g1 b0
  generalize (((w.setCell _ _).setCell _ _).setCell _ _).setCell _ _ = w1 at *
  have b0 : w1.cell? ⟨q0, 0, none⟩ = some (.pointer (some ⟨g, 0, none⟩)) := (cell_of_row _ _ 0 _ _ _ HQ0.out).trans rfl
  have g1 : w1.cell? ⟨g, 1, none⟩ = some (.slice (some ⟨gr, 0, none⟩) n c) := (cell_of_row _ _ 1 _ _ _ HG1.out).trans rfl
  have HDC := Lib.hid (delete_calls B n c gr i ps w1.drew HO1.out (by omega) HPS.out hi)
  rw [HQS.out] at HDC
  unfold InsP at HDC
  go_region_law (go_simp; go_at_call 27; (with_reducible refine HDC.out.mono ?_); rintro e w2 ⟨A2, c2, rfl, ho2, ha2⟩; have HO2 := Lib.hid ho2; have HA2 := Lib.hid ha2; have hgx := ha2.old HG1.out (own_tyne HO1.out HG1.out (by decide)); have hqx := ha2.old HQ0.out (own_tyne HO1.out HQ0.out (by decide)); have gc : w2.cell? ⟨g, 1, none⟩ = some (.slice (some ⟨gr, 0, none⟩) n c) := (cell_of_row _ _ 1 _ _ _ hgx).trans rfl; have gf : w2.frozen? ⟨g, 1, none⟩ = false := frozen_of_row _ _ 1 _ _ hgx; have bc : w2.cell? ⟨q0, 0, none⟩ = some (.pointer (some ⟨g, 0, none⟩)) := (cell_of_row _ _ 0 _ _ _ hqx).trans rfl; have HGX := Lib.hid hgx; clear ho2 ha2 hgx hqx)
  all_goals
    have HN2 := Lib.hid (net_pull H0.out hB HC1.out.drew (by simp only [List.mem_singleton]; rintro x rfl; exact h1) qs HSQ.out HO2.out HA2.out |>.mono HD1.out.size)
    have hqq := HA2.out.old (k := q1) HK1.out (by simp [Value.ownBlock]; omega)
    have HQQ := Lib.hid (((Chg.refl [g] w2).setCell (p := ⟨g, 1, none⟩) (.inl (by simp)) (.slice A2 qs.length c2)).blk hqq (by simp; omega))
    clear b0 g1 gc gf bc hqq
    go_wp2_with fail
    go_end0
    exact ⟨rfl, HN2.out, HQQ.out⟩
/-- a delivery: nothing, or packet i, which is taken out -/
def DelP (B g : Nat) (A : Option Addr) (n : Nat) (ps : List Pk) (k : Int) (w : World) (e : Ending) (w' : World) : Prop :=
  (n = 0 ∧ e = .returned (.tuple #[.agg #[.int .i64 0, .int .i64 0, .int .i64 0, .slice none 0 0], .bool false]) ∧ Below w.heap.size w w') ∨
  ∃ hi : chI k n < ps.length, e = .returned (.tuple #[pval ps[chI k n], .bool true]) ∧ NetW B g A (ps.take (chI k n) ++ ps.drop (chI k n + 1)) w.heap.size w w'
set_option maxRecDepth 100000 in
set_option maxHeartbeats 4000000 in
theorem deliver_calls (B g n c : Nat) (A : Option Addr) (last : Int) (ps : List Pk) (k : Int) (w : World) (h : IsNet B w g A n c last ps) (hB : B ≤ w.heap.size) (hn : n ≤ 100000) :
    Calls Try.prog 18 #[.pointer (some ⟨g, 0, none⟩), .int .i64 k] w (DelP B g A n ps k w) := by
  have hb2 := below2 w (.cells #[.pointer (some ⟨g, 0, none⟩)] 24) (.cells #[.int .i64 0, .int .i64 0, .int .i64 0, .slice none 0 0] 50)
  have k0 : ((w.alloc (.cells #[.pointer (some ⟨g, 0, none⟩)] 24)).alloc (.cells #[.int .i64 0, .int .i64 0, .int .i64 0, .slice none 0 0] 50)).heap[w.heap.size]? = _ := (Below.heap_alloc _ _ _ (by simp)).trans (heap_alloc_new _ _)
  have k1 : ((w.alloc (.cells #[.pointer (some ⟨g, 0, none⟩)] 24)).alloc (.cells #[.int .i64 0, .int .i64 0, .int .i64 0, .slice none 0 0] 50)).heap[w.heap.size + 1]? = _ := heap_alloc2_new _ _ _
  have HI := Lib.hid h
  have HPS : Hid (ps.length = n) := Lib.hid h.hn
  clear h
  go_enter Try.func18, Try.ntmps18
  go_upto_region 1 with (fail)
  generalize ((w.alloc _).alloc _) = w2 at *
  have HB2 := Lib.hid hb2
  have h2 := HI.out.below hB hb2
  have HW := Lib.hid (with_calls 26 #[.pointer (some ⟨w.heap.size, 0, none⟩), .pointer (some ⟨w.heap.size + 1, 0, none⟩)] enters_del g n c A last k w2 h2.hd hn
    (fun w' => ∃ hi : chI k n < ps.length, NetW B g A (ps.take (chI k n) ++ ps.drop (chI k n + 1)) w2.heap.size w w' ∧ w'.heap[w.heap.size + 1]? = some (Obj.cells ps[chI k n].cells.toArray 50 (0, 0)))
    (fun hp => by
      have hlt : chI k n < n := chI_lt k hp
      have hip : chI k n < ps.length := by rw [HPS.out]; exact hlt
      refine (del1_calls B g n c w.heap.size (w.heap.size + 1) (chI k n) A last ps w w2 HI.out hB hb2 k0 k1 (by omega) hn hlt hip).mono ?_
      rintro e w' ⟨h1, h3, h4⟩
      exact ⟨h1, hip, h3, h4⟩))
  have b0 : w2.cell? ⟨w.heap.size, 0, none⟩ = some (.pointer (some ⟨g, 0, none⟩)) := (cell_of_row _ _ 0 _ _ _ k0).trans rfl
  have HK1 := Lib.hid k1
  have HQ1 : Hid (w.heap.size + 1 < w2.heap.size) := Lib.hid (Array.getElem?_eq_some_iff.1 k1).1
  clear h2 hb2 k0 k1
  go_wp2_with fail
  refine HW.out.mono ?_
  rintro e w3 (⟨hz, rfl, rfl⟩ | ⟨_, rfl, hi, hnw, hq⟩)
  · have HZ := Lib.hid hz
    have e0 : w2.cell? ⟨w.heap.size + 1, 0, none⟩ = some (.int .i64 0) := (cell_of_row _ _ 0 _ _ _ HK1.out).trans rfl
    have e1 : w2.cell? ⟨w.heap.size + 1, 1, none⟩ = some (.int .i64 0) := (cell_of_row _ _ 1 _ _ _ HK1.out).trans rfl
    have e2 : w2.cell? ⟨w.heap.size + 1, 2, none⟩ = some (.int .i64 0) := (cell_of_row _ _ 2 _ _ _ HK1.out).trans rfl
    have e3 : w2.cell? ⟨w.heap.size + 1, 3, none⟩ = some (.slice none 0 0) := (cell_of_row _ _ 3 _ _ _ HK1.out).trans rfl
    have f0 := frozen_of_row _ _ 0 _ _ HK1.out
    have f1 := frozen_of_row _ _ 1 _ _ HK1.out
    have f2 := frozen_of_row _ _ 2 _ _ HK1.out
    have f3 := frozen_of_row _ _ 3 _ _ HK1.out
    have HX := Lib.hid (st4 HK1.out (.int .i64 0) (.int .i64 0) (.int .i64 0) (.slice none 0 0))
    have HCX := Lib.hid (chgset4 (w := w2) (w.heap.size + 1) (.int .i64 0) (.int .i64 0) (.int .i64 0) (.slice none 0 0))
    clear hz HW b0
    go_wp2_with fail
    generalize (((w2.setCell _ _).setCell _ _).setCell _ _).setCell _ _ = wx at *
    refine bodyPost_ret (results_cell_tmp rfl _ _ (w.heap.size + 1) 50 #[.int .i64 0, .int .i64 0, .int .i64 0, .slice none 0 0] (0, 0) _ rfl HX.out Try.underlying50 rfl size_p) rfl (.inl ⟨HZ.out, rfl, HB2.out.trans (HCX.out.below HB2.out.size (by simp))⟩)
  · obtain ⟨z, HZ⟩ : ∃ y, Hid (ps[chI k n] = y) := ⟨ps[chI k n], Lib.hid rfl⟩
    rw [HZ.out] at hq
    have HK3 : Hid (w3.heap[w.heap.size + 1]? = some (Obj.cells #[.int .i64 z.num, .int .i64 z.f, .int .i64 z.t, .slice z.a z.d.length z.c] 50 (0, 0))) := Lib.hid hq
    have HNW := Lib.hid hnw
    have e0 : w3.cell? ⟨w.heap.size + 1, 0, none⟩ = some (.int .i64 z.num) := (cell_of_row _ _ 0 _ _ _ HK3.out).trans rfl
    have e1 : w3.cell? ⟨w.heap.size + 1, 1, none⟩ = some (.int .i64 z.f) := (cell_of_row _ _ 1 _ _ _ HK3.out).trans rfl
    have e2 : w3.cell? ⟨w.heap.size + 1, 2, none⟩ = some (.int .i64 z.t) := (cell_of_row _ _ 2 _ _ _ HK3.out).trans rfl
    have e3 : w3.cell? ⟨w.heap.size + 1, 3, none⟩ = some (.slice z.a z.d.length z.c) := (cell_of_row _ _ 3 _ _ _ HK3.out).trans rfl
    have f0 := frozen_of_row _ _ 0 _ _ HK3.out
    have f1 := frozen_of_row _ _ 1 _ _ HK3.out
    have f2 := frozen_of_row _ _ 2 _ _ HK3.out
    have f3 := frozen_of_row _ _ 3 _ _ HK3.out
    have HX := Lib.hid (st4 HK3.out (.int .i64 z.num) (.int .i64 z.f) (.int .i64 z.t) (.slice z.a z.d.length z.c))
    have HCX := Lib.hid (chgset4 (w := w3) (w.heap.size + 1) (.int .i64 z.num) (.int .i64 z.f) (.int .i64 z.t) (.slice z.a z.d.length z.c))
    clear hq hnw HW b0
    go_wp2_with fail
    generalize (((w3.setCell _ _).setCell _ _).setCell _ _).setCell _ _ = wx at *
    refine bodyPost_ret (results_cell_tmp rfl _ _ (w.heap.size + 1) 50 #[.int .i64 z.num, .int .i64 z.f, .int .i64 z.t, .slice z.a z.d.length z.c] (0, 0) _ rfl HX.out Try.underlying50 rfl size_p) rfl (.inr ⟨hi, by rw [HZ.out]; rfl, ?_⟩)
    refine (HNW.out.new hB HCX.out (by omega) HQ1.out (fun cs fr he => ?_) HI.out.lt (fun b hb => ?_)).mono HB2.out.size
    · rw [HK3.out] at he
      injection he with he
      injection he with _ he
      exact absurd he (by decide)
    · rw [ownBlock_any A 0 0 n c] at hb
      exact (HI.out.ow.lt b hb).2
end Tc
end Go.Proofs.Ytjmcmilbkhacdaa
