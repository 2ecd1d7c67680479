/- Merged: JnR. -/
import Derived.Test.YtmdpmpfjldgalaaMI
/- The walk of the reference's Append. -/
namespace Go.Proofs.Ytmdpmpfjldgalaa
open Go.RowKit
namespace Jn
open Dk Wi Wr

section
variable {ops : Array Oper} {rest : List Oper} {o : Oper} {a : Act} {Q : Exit → Act → World → Prop}
/-- 'append([][]byte{}, l...)' -/
theorem appR0 (w : World) (hgd : o.guard = none) (s x : Operand) (ho : o.op = .call { callee := .builtin .append, args := #[s, x], argTypes := #[44, 44] })
    (ms : List Rm) (hs : a.eval s = .slice (some ⟨w.heap.size, 0, none⟩) 0 0) (A : Option Addr) (m c : Nat) (hx : a.eval x = .slice A m c) (hm : ms.length = m) (hr : Rd w A (ms.map rval)) (hlen : m ≤ 1000)
    (h : ∀ X cap w', Hid (w'.ownsRow w.heap.size 29 1 (.slice X m cap) m (ms.map rval)) → Hid (Below w.heap.size w w') → w.heap.size ≤ w'.heap.size → wpList Try.prog ops Q rest (a.put o.dst (.slice X m cap)) w') :
    wpList Try.prog ops Q (o :: rest) a (w.alloc (.cells #[] 29)) := by
  have hown := own_empty w.heap.size 29 w w.heap.size rfl (Nat.le_refl _)
  refine wpList_apps _ hgd s x 44 ho w.heap.size 29 (.slice none 0 0) 24 Try.underlying44 info_sl rfl _ 0 [] hs hown A m c (ms.map rval) hx (by simpa using hm) (hr.alloc _) (rval_one ms) (by unfold maxLen; omega) (by omega) (by simp) ?_
  intro X cap w' h2 h3
  have hb := (below1 w (.cells #[] 29)).trans (h3.below hown (by simp))
  rw [Nat.zero_add, List.nil_append] at h2
  rw [Nat.zero_add]
  exact h X cap w' h2 hb hb.size
theorem appR1 (w : World) (hgd : o.guard = none) (s x : Operand) (ho : o.op = .call { callee := .builtin .append, args := #[s, x], argTypes := #[44, 44] })
    (B : Nat) (v : Value) (n : Nat) (xs : List Value) (hs : a.eval s = v) (hown : w.ownsRow B 29 1 v n xs) (u : Value) (hx : a.eval x = .slice (some ⟨w.heap.size, 0, none⟩) 1 1) (hu : u.oneCell' = true) (hlen : n ≤ 1000) (hB : B ≤ w.heap.size)
    (h : ∀ X cap w', Hid (w'.ownsRow B 29 1 (.slice X (n + 1) cap) (n + 1) (xs ++ [u])) → Hid (App w v w' (.slice X (n + 1) cap)) → Hid (Below B w w') → w.heap.size ≤ w'.heap.size → wpList Try.prog ops Q rest (a.put o.dst (.slice X (n + 1) cap)) w') :
    wpList Try.prog ops Q (o :: rest) a (w.alloc (.cells #[u] 29)) := by
  have hown' := own_below hown (below1 w (.cells #[u] 29))
  refine wpList_apps _ hgd s x 44 ho B 29 (.slice none 0 0) 24 Try.underlying44 info_sl rfl v n xs hs hown' _ 1 1 [u] hx rfl (Rd.one w u _) (by simpa using hu) (by unfold maxLen; omega) (by omega) (Nat.le_trans hB (by simp)) ?_
  intro X cap w' h2 h3
  have h3' := h3.alloc_left
  exact h X cap w' h2 h3' (h3'.below hown hB) h3'.size
end

theorem InR.sub' {w w' : World} {R R' : List Nat} {m : Rm} (h : InR w R m) (hb : Kept R w w') (hs : ∀ x ∈ R, x ∈ R') : InR w' R' m := (h.kept hb).sub hs
theorem RsR.sub' {w w' : World} {R R' : List Nat} {A : Option Addr} {c : Nat} {ms : List Rm} (h : RsR w R A c ms) (hb : Kept R w w') (hs : ∀ x ∈ R, x ∈ R') : RsR w' R' A c ms := (h.kept hb).sub hs
/-- a record more -/
theorem RsR.push {w w7 w8 w9 w10 w11 : World} {N0 N1 : List Nat} {ra X8 X9 X10 : Option Addr} {rc c8 c9 c10 ml b0 : Nat} {ms : List Rm} {d : List UInt8} (h : RsR w N0 ra rc ms) (hnl : ∀ x ∈ N0, x < w.heap.size) (h7 : Below w.heap.size w w7) (hml : ms.length = ml)
    (_ho8 : w8.ownsRow w7.heap.size 29 1 (.slice X8 ml c8) ml (ms.map rval)) (h8 : Below w7.heap.size w7 w8) (ho9 : OB w9 w8.heap.size (.slice X9 d.length c9) d) (_h9 : Below w8.heap.size w8 w9)
    (ho10 : w10.ownsRow w7.heap.size 29 1 (.slice X10 (ml + 1) c10) (ml + 1) (ms.map rval ++ [rval ⟨X9, c9, d⟩])) (ha : App w9 (.slice X8 ml c8) w10 (.slice X10 (ml + 1) c10)) (h10 : Below w7.heap.size w7 w10) (hc : Chg [b0] w10 w11) (hb0 : b0 < w7.heap.size) (hb0w : w.heap.size ≤ b0)
    (hN : ∀ x ∈ bl X10 ++ (bl X9 ++ N0), x ∈ N1) : RsR w11 N1 X10 c10 (ms ++ [⟨X9, c9, d⟩]) ∧ (∀ x ∈ bl X10 ++ bl X9, w7.heap.size ≤ x ∧ x < w11.heap.size) := by
  have hX9 : ∀ x ∈ bl X9, w8.heap.size ≤ x ∧ x < w9.heap.size := fun x hx => by
    obtain ⟨off, rfl⟩ := mem_bl hx
    exact own_cut (k := 0) (c' := c9) ho9 (by rw [cutA_zero])
  have hX10 : ∀ x ∈ bl X10, w7.heap.size ≤ x ∧ x < w10.heap.size := fun x hx => by
    obtain ⟨off, rfl⟩ := mem_bl hx
    exact own_cut (k := 0) (c' := c10) ho10 (by rw [cutA_zero])
  have hc9 : Chg (Value.slice X8 ml c8).ownBlock.toList w9 w10 := ha.chg (fun b hb => Option.mem_toList.2 hb)
  have hold : ∀ b ∈ (Value.slice X8 ml c8).ownBlock.toList, b < w8.heap.size := fun b hb => (_ho8.lt b (Option.mem_toList.1 hb)).2
  obtain ⟨_, _, e0, hk1, hk2, _, hrd⟩ := own_form ho10
  cases e0
  have hr9 := ho9.rb
  have hsz := h7.size
  have hs10 := hc9.size
  have hs11 := hc.size
  refine ⟨⟨?_, by simp [hml]; exact hk1, hk2, fun _ b off e => hN b (by rw [e]; simp [bl]), fun m hm => ?_⟩, fun x hx => ?_⟩
  · rw [List.map_append]
    refine hc.rd hrd (fun b off e hm => ?_)
    simp only [List.mem_singleton] at hm
    have := hX10 b (by rw [e]; simp [bl])
    omega
  · rcases List.mem_append.1 hm with hm | hm
    · have hk : Kept N0 w w11 := (Kept.of_below hnl (h7.trans (h10.mono hsz))).trans (fun x hx => hc.block x (by have := hnl x hx; have := h10.size; omega) (fun hm => by simp only [List.mem_singleton] at hm; subst hm; have := hnl _ hx; omega))
      exact (h.el m hm).sub' hk (fun x hx => hN x (by simp [hx]))
    · simp only [List.mem_singleton] at hm
      subst hm
      have h1 : InR w9 (bl X9) ⟨X9, c9, d⟩ := ⟨hr9.1, hr9.2.2.1, hr9.2.2.2, fun _ b off e => by rw [show X9 = _ from e]; simp [bl]⟩
      refine ((h1.chg hc9 (fun x hx hm => ?_)).chg hc (fun x hx hm => ?_)).sub (fun x hx => hN x (by simp [hx]))
      · have := hold x hx; have := hX9 x hm; omega
      · simp only [List.mem_singleton] at hx
        subst hx
        have := hX9 _ hm; have := h8.size; omega
  · rcases List.mem_append.1 hx with hx | hx
    · have := hX10 x hx; omega
    · have := hX9 x hx; have := h8.size; omega

def RCallP (w : World) (N0 : List Nat) (D' : St) (j' : Jr) (er : Int) (e : Ending) (w' : World) : Prop :=
  ∃ v N, e = .returned (.tuple #[v, .int .i64 er]) ∧ IsV w' N v D' j' ∧ Below w.heap.size w w' ∧ ∀ x ∈ N, x ∈ N0 ∨ w.heap.size ≤ x
theorem IsV.chg {w w' : World} {N S : List Nat} {v : Value} {D : St} {j : Jr} (h : IsV w N v D j) (hc : Chg S w w') (hS : ∀ x ∈ N, x ∉ S) : IsV w' N v D j := h.kept (fun x hx => hc.block x (h.nl x hx) (hS x hx))
/-- the journal with another disk -/
theorem IsV'.disk {w w' : World} {N N1 N2 : List Nat} {D D1 : St} {j : Jr} {A A1 X X1 sa ra : Option Addr} {ca cx ca1 cx1 sc rc : Nat} {P P1 : List Pm} {ms : List Rm}
    (h : IsV' w N D j A ca X cx P sa sc ra rc ms) (hk : Kept N w w') (h1 : IsK' w' N1 D1 A1 ca1 X1 cx1 P1) (hn : D1.n = D.n) (hs : ∀ x ∈ N, x ∈ N2) (hs1 : ∀ x ∈ N1, x ∈ N2) (hl : ∀ x ∈ N2, x < w'.heap.size) : IsV' w' N2 D1 j A1 ca1 X1 cx1 P1 sa sc ra rc ms :=
  ⟨h1.sub hs1 hl, h.st.sub' hk hs, h.rr.sub' hk hs, h.rs, by rw [(fst_n hn 0).2]; exact h.ok⟩

theorem heap_set49 {w : World} {R : Nat} {a b c d e f g h i : Value} {t : TypeId} (k : w.heap[R]? = some (.cells #[a, b, c, d, e, f, g, h, i] t (0, 0))) (a' b' c' d' : Value) :
    ((((w.setCell ⟨R, 0, none⟩ a').setCell ⟨R, 1, none⟩ b').setCell ⟨R, 2, none⟩ c').setCell ⟨R, 3, none⟩ d').heap[R]? = some (.cells #[a', b', c', d', e, f, g, h, i] t (0, 0)) := by
  have k1 : (w.setCell ⟨R, 0, none⟩ a').heap[R]? = some (.cells #[a', b, c, d, e, f, g, h, i] t (0, 0)) := heap_setCell_same _ _ _ _ _ _ k
  have k2 : ((w.setCell ⟨R, 0, none⟩ a').setCell ⟨R, 1, none⟩ b').heap[R]? = some (.cells #[a', b', c, d, e, f, g, h, i] t (0, 0)) := heap_setCell_same _ _ _ _ _ _ k1
  have k3 : (((w.setCell ⟨R, 0, none⟩ a').setCell ⟨R, 1, none⟩ b').setCell ⟨R, 2, none⟩ c').heap[R]? = some (.cells #[a', b', c', d, e, f, g, h, i] t (0, 0)) := heap_setCell_same _ _ _ _ _ _ k2
  have k4 : ((((w.setCell ⟨R, 0, none⟩ a').setCell ⟨R, 1, none⟩ b').setCell ⟨R, 2, none⟩ c').setCell ⟨R, 3, none⟩ d').heap[R]? = some (.cells #[a', b', c', d', e, f, g, h, i] t (0, 0)) := heap_setCell_same _ _ _ _ _ _ k3
  exact k4
theorem IsV'.brk {w : World} {N : List Nat} {D : St} {j : Jr} {A X sa ra : Option Addr} {ca cx sc rc : Nat} {P : List Pm} {ms : List Rm} (h : IsV' w N D j A ca X cx P sa sc ra rc ms) : IsV' w N D { j with x := true } A ca X cx P sa sc ra rc ms :=
  ⟨h.k, h.st, h.rr, h.rs, ⟨h.ok.t1, h.ok.t2, h.ok.e, h.ok.r, h.ok.s, h.ok.d⟩⟩
theorem wrJ_apn (D : St) (j : Jr) (r : List UInt8) : (apW D j r).1.n = D.n := by unfold apW; exact wrJ_n _ _ _ _

set_option maxRecDepth 100000 in
set_option maxHeartbeats 4000000 in
theorem rappend_calls (v : Value) (N0 : List Nat) (D : St) (j : Jr) (A0 : Option Addr) (n c : Nat) (d : List UInt8) (w : World) (h : IsV w N0 v D j) (hn : d.length = n) (hm : n ≤ 500000) (hr : RB w A0 d) (hD : D.n ≤ 100) (hc : Calm D) :
    Calls Try.prog 29 #[v, .slice A0 n c] w (RCallP w N0 (appD D j d) (appJ D j d) (appE D j d)) := by
  have HV := Lib.hid h
  obtain ⟨A, ca, X, cx, P, sa, sc, ra, rc, ms, rfl, h⟩ := h
  have HV' := Lib.hid h
  have HN := Lib.hid hn
  have HRD := Lib.hid hr
  have HC := Lib.hid hc
  have hq50 : half D ≤ 50 := by unfold half; omega
  have ht2 := h.ok.t2
  have hje := h.ok.e
  have hml : ms.length ≤ 50 := by have := h.ok.r; rw [h.rs, List.length_map] at this; omega
  have HMS : Hid (j.rs.length = ms.length) := by show _ = _; rw [h.rs]; simp
  have HNL : Hid (∀ x ∈ N0, x < w.heap.size) := h.k.nl
  have HHF : ∀ w', Below w.heap.size w w' → Hid (Calls Try.prog 54 #[kval D A ca X cx P] w' fun e w'' => e = .returned (.int .i64 (half D : Int)) ∧ Below w'.heap.size w' w'') := fun w' hb => rhalf_calls _ N0 D w' ⟨_, _, _, _, _, rfl, h.k.below hb⟩
  have HWR : ∀ w' B m c', Below w.heap.size w w' → RB w' B (apB j d) → (apB j d).length = m → m ≤ 600000 → apFull D j d = false → Hid (Calls Try.prog 55 #[kval D A ca X cx P, .int .i64 (j.t : Int), .int .i64 (j.e : Int), .slice B m c'] w' (KP w' N0 (apW D j d).1 fun v' => .tuple #[v', .int .i64 (if (apW D j d).2 = true then 0 else 10)])) := fun w' B m c' hb hr hl hm6 hf => by
    have hbl := blockL_len j.t (j.rs.length + 1) d
    have hf' := of_decide_eq_false (show decide (half D < j.e + (apB j d).length / 64) = false from hf)
    have := rwr_calls _ N0 D j.t j.e B m c' (apB j d) w' ⟨_, _, _, _, _, rfl, h.k.below hb⟩ hl hr (by rw [← hl]; exact hbl.1) hm6 (by rw [← hl]; omega) hD (by have := HC.out.l; omega)
    exact this
  have HRET : Hid (∀ N c0 c1 c2 c3 c4 c5 c6 c7 c8 w' er, appE D j d = er → IsV w' N (.agg #[c0, c1, c2, c3, c4, c5, c6, c7, c8]) (appD D j d) (appJ D j d) → Below w.heap.size w w' → (∀ x ∈ N, x ∈ N0 ∨ w.heap.size + 1 < x) →
      RCallP w N0 (appD D j d) (appJ D j d) (appE D j d) (.returned (.tuple #[.agg #[c0, c1, c2, c3, c4, c5, c6, c7, c8], .int .i64 er])) ((((((((((w'.setCell ⟨w.heap.size + 1, 0, none⟩ c0).setCell ⟨w.heap.size + 1, 1, none⟩ c1).setCell ⟨w.heap.size + 1, 2, none⟩ c2).setCell ⟨w.heap.size + 1, 3, none⟩ c3).setCell ⟨w.heap.size + 1, 4, none⟩ c4).setCell ⟨w.heap.size + 1, 5, none⟩ c5).setCell ⟨w.heap.size + 1, 6, none⟩ c6).setCell ⟨w.heap.size + 1, 7, none⟩ c7).setCell ⟨w.heap.size + 1, 8, none⟩ c8))) := by
    intro N c0 c1 c2 c3 c4 c5 c6 c7 c8 w' er he hw hb hn
    have hcs := chg_set9 w' (w.heap.size + 1) c0 c1 c2 c3 c4 c5 c6 c7 c8
    refine ⟨_, N, by rw [he], hw.chg hcs (fun x hx hm => ?_), hb.trans (hcs.below hb.size (by simp)), fun x hx => (hn x hx).imp id fun h => by omega⟩
    simp only [List.mem_singleton] at hm
    subst hm
    rcases hn _ hx with h | h
    · have := HNL.out _ h; omega
    · omega
  unfold jval at HV ⊢
  unfold kval at HHF HWR
  obtain ⟨N, HNN⟩ : ∃ x, Hid (64 * D.n = x) := ⟨_, rfl⟩
  obtain ⟨pl, HPL⟩ : ∃ x, Hid (P.length = x) := ⟨_, rfl⟩
  obtain ⟨ml, HML⟩ : ∃ x, Hid (ms.length = x) := ⟨_, rfl⟩
  obtain ⟨sl, HSL⟩ : ∃ x, Hid (j.s.length = x) := ⟨_, rfl⟩
  rw [HNN.out, HPL.out, HML.out, HSL.out] at HV ⊢
  rw [HNN.out, HPL.out] at HHF HWR
  rw [HML.out] at hml HMS
  have hb2 := below2 w (.cells #[.slice A N ca, .slice X pl cx, .bool D.x, .int .i64 D.f, .int .i64 (j.t : Int), .slice sa sl sc, .slice ra ml rc, .int .i64 (j.e : Int), .bool j.x] 46) (.cells #[.slice none 0 0, .slice none 0 0, .bool false, .int .i64 0, .int .i64 0, .slice none 0 0, .slice none 0 0, .int .i64 0, .bool false] 46)
  have hk0 : ((w.alloc (.cells #[.slice A N ca, .slice X pl cx, .bool D.x, .int .i64 D.f, .int .i64 (j.t : Int), .slice sa sl sc, .slice ra ml rc, .int .i64 (j.e : Int), .bool j.x] 46)).alloc (.cells #[.slice none 0 0, .slice none 0 0, .bool false, .int .i64 0, .int .i64 0, .slice none 0 0, .slice none 0 0, .int .i64 0, .bool false] 46)).heap[w.heap.size]? = _ := (Below.heap_alloc _ _ _ (by simp)).trans (heap_alloc_new _ _)
  have hk1 : ((w.alloc (.cells #[.slice A N ca, .slice X pl cx, .bool D.x, .int .i64 D.f, .int .i64 (j.t : Int), .slice sa sl sc, .slice ra ml rc, .int .i64 (j.e : Int), .bool j.x] 46)).alloc (.cells #[.slice none 0 0, .slice none 0 0, .bool false, .int .i64 0, .int .i64 0, .slice none 0 0, .slice none 0 0, .int .i64 0, .bool false] 46)).heap[w.heap.size + 1]? = _ := heap_alloc2_new _ _ _
  obtain ⟨w2, HW2⟩ : ∃ x, Hid ((w.alloc (.cells #[.slice A N ca, .slice X pl cx, .bool D.x, .int .i64 D.f, .int .i64 (j.t : Int), .slice sa sl sc, .slice ra ml rc, .int .i64 (j.e : Int), .bool j.x] 46)).alloc (.cells #[.slice none 0 0, .slice none 0 0, .bool false, .int .i64 0, .int .i64 0, .slice none 0 0, .slice none 0 0, .int .i64 0, .bool false] 46) = x) := ⟨_, rfl⟩
  rw [HW2.out] at hb2 hk0 hk1
  have HB2 := Lib.hid hb2
  have HK0 := Lib.hid hk0
  have HK1 := Lib.hid hk1
  have hs2 : w.heap.size + 1 < w2.heap.size := (Array.getElem?_eq_some_iff.1 hk1).1
  clear h hn hr hc hb2 hk0 hk1
  obtain ⟨q, HQ⟩ : ∃ x, Hid (half D = x) := ⟨_, rfl⟩
  rw [HQ.out] at hq50 hje HHF
  cases hx : j.x with
  | true =>
    have HF : Hid (RCallP w N0 (appD D j d) (appJ D j d) (appE D j d) (.returned (.tuple #[.agg #[.slice A N ca, .slice X pl cx, .bool D.x, .int .i64 D.f, .int .i64 (j.t : Int), .slice sa sl sc, .slice ra ml rc, .int .i64 (j.e : Int), .bool j.x], .int .i64 9])) _) :=
      HRET.out N0 _ _ _ _ _ _ _ _ _ w2 9 (by unfold appE; rw [if_pos hx]) (by unfold appD appJ; rw [if_pos hx, if_pos hx]; exact HV.out.below HB2.out) HB2.out (fun x hx => .inl hx)
    rw [hx] at HW2 HK0 HF
    clear hx HWR HHF
    have rc0 : w2.cell? ⟨w.heap.size, 0, none⟩ = some _ := (cell_of_row _ _ 0 _ _ _ HK0.out).trans rfl; have rf0 : w2.frozen? ⟨w.heap.size, 0, none⟩ = false := frozen_of_row _ _ _ _ _ HK0.out; have rc1 : w2.cell? ⟨w.heap.size, 1, none⟩ = some _ := (cell_of_row _ _ 1 _ _ _ HK0.out).trans rfl; have rf1 : w2.frozen? ⟨w.heap.size, 1, none⟩ = false := frozen_of_row _ _ _ _ _ HK0.out; have rc2 : w2.cell? ⟨w.heap.size, 2, none⟩ = some _ := (cell_of_row _ _ 2 _ _ _ HK0.out).trans rfl; have rf2 : w2.frozen? ⟨w.heap.size, 2, none⟩ = false := frozen_of_row _ _ _ _ _ HK0.out; have rc3 : w2.cell? ⟨w.heap.size, 3, none⟩ = some _ := (cell_of_row _ _ 3 _ _ _ HK0.out).trans rfl; have rf3 : w2.frozen? ⟨w.heap.size, 3, none⟩ = false := frozen_of_row _ _ _ _ _ HK0.out; have rc4 : w2.cell? ⟨w.heap.size, 4, none⟩ = some _ := (cell_of_row _ _ 4 _ _ _ HK0.out).trans rfl; have rf4 : w2.frozen? ⟨w.heap.size, 4, none⟩ = false := frozen_of_row _ _ _ _ _ HK0.out; have rc5 : w2.cell? ⟨w.heap.size, 5, none⟩ = some _ := (cell_of_row _ _ 5 _ _ _ HK0.out).trans rfl; have rf5 : w2.frozen? ⟨w.heap.size, 5, none⟩ = false := frozen_of_row _ _ _ _ _ HK0.out; have rc6 : w2.cell? ⟨w.heap.size, 6, none⟩ = some _ := (cell_of_row _ _ 6 _ _ _ HK0.out).trans rfl; have rf6 : w2.frozen? ⟨w.heap.size, 6, none⟩ = false := frozen_of_row _ _ _ _ _ HK0.out; have rc7 : w2.cell? ⟨w.heap.size, 7, none⟩ = some _ := (cell_of_row _ _ 7 _ _ _ HK0.out).trans rfl; have rf7 : w2.frozen? ⟨w.heap.size, 7, none⟩ = false := frozen_of_row _ _ _ _ _ HK0.out; have rc8 : w2.cell? ⟨w.heap.size, 8, none⟩ = some _ := (cell_of_row _ _ 8 _ _ _ HK0.out).trans rfl; have rf8 : w2.frozen? ⟨w.heap.size, 8, none⟩ = false := frozen_of_row _ _ _ _ _ HK0.out
    have zc0 : w2.cell? ⟨w.heap.size + 1, 0, none⟩ = some _ := (cell_of_row _ _ 0 _ _ _ HK1.out).trans rfl; have zf0 : w2.frozen? ⟨w.heap.size + 1, 0, none⟩ = false := frozen_of_row _ _ _ _ _ HK1.out; have zc1 : w2.cell? ⟨w.heap.size + 1, 1, none⟩ = some _ := (cell_of_row _ _ 1 _ _ _ HK1.out).trans rfl; have zf1 : w2.frozen? ⟨w.heap.size + 1, 1, none⟩ = false := frozen_of_row _ _ _ _ _ HK1.out; have zc2 : w2.cell? ⟨w.heap.size + 1, 2, none⟩ = some _ := (cell_of_row _ _ 2 _ _ _ HK1.out).trans rfl; have zf2 : w2.frozen? ⟨w.heap.size + 1, 2, none⟩ = false := frozen_of_row _ _ _ _ _ HK1.out; have zc3 : w2.cell? ⟨w.heap.size + 1, 3, none⟩ = some _ := (cell_of_row _ _ 3 _ _ _ HK1.out).trans rfl; have zf3 : w2.frozen? ⟨w.heap.size + 1, 3, none⟩ = false := frozen_of_row _ _ _ _ _ HK1.out; have zc4 : w2.cell? ⟨w.heap.size + 1, 4, none⟩ = some _ := (cell_of_row _ _ 4 _ _ _ HK1.out).trans rfl; have zf4 : w2.frozen? ⟨w.heap.size + 1, 4, none⟩ = false := frozen_of_row _ _ _ _ _ HK1.out; have zc5 : w2.cell? ⟨w.heap.size + 1, 5, none⟩ = some _ := (cell_of_row _ _ 5 _ _ _ HK1.out).trans rfl; have zf5 : w2.frozen? ⟨w.heap.size + 1, 5, none⟩ = false := frozen_of_row _ _ _ _ _ HK1.out; have zc6 : w2.cell? ⟨w.heap.size + 1, 6, none⟩ = some _ := (cell_of_row _ _ 6 _ _ _ HK1.out).trans rfl; have zf6 : w2.frozen? ⟨w.heap.size + 1, 6, none⟩ = false := frozen_of_row _ _ _ _ _ HK1.out; have zc7 : w2.cell? ⟨w.heap.size + 1, 7, none⟩ = some _ := (cell_of_row _ _ 7 _ _ _ HK1.out).trans rfl; have zf7 : w2.frozen? ⟨w.heap.size + 1, 7, none⟩ = false := frozen_of_row _ _ _ _ _ HK1.out; have zc8 : w2.cell? ⟨w.heap.size + 1, 8, none⟩ = some _ := (cell_of_row _ _ 8 _ _ _ HK1.out).trans rfl; have zf8 : w2.frozen? ⟨w.heap.size + 1, 8, none⟩ = false := frozen_of_row _ _ _ _ _ HK1.out
    generalize j.t = jt at *
    generalize j.e = je at *
    go_enter Try.func29, Try.ntmps29
    go_upto_region 1 with (fail)
    rw [HW2.out]
    go_wp2_with fail
    have hz := heap_set9 HK1.out (.slice A N ca) (.slice X pl cx) (.bool D.x) (.int .i64 D.f) (.int .i64 (jt : Int)) (.slice sa sl sc) (.slice ra ml rc) (.int .i64 (je : Int)) (.bool true)
    refine bodyPost_ret (results_cell_tmp rfl _ _ (w.heap.size + 1) 46 _ (0, 0) _ rfl hz Try.underlying46 rfl size_jr) rfl ?_
    exact HF.out
  | false =>
    have hxn : ¬ j.x = true := by rw [hx]; simp
    have HX := Lib.hid hxn
    obtain ⟨m1, HM1⟩ : ∃ x, Hid (ml + 1 = x) := ⟨_, rfl⟩
    have em : (ml : Int) + 1 = (m1 : Int) := by have := HM1.out; omega
    have HBL : Hid (Calls Try.prog 34 #[.int .i64 (j.t : Int), .int .i64 (m1 : Int), .slice A0 n c] w2 (NewB w2 (apB j d))) := by
      have := rblock_calls j.t (ml + 1) A0 n c d w2 HN.out (RB.below HRD.out HB2.out) hm (by omega) (by omega)
      rw [← HMS.out] at this
      rw [← HM1.out, ← HMS.out]
      exact this
    have hbl := blockL_len j.t (j.rs.length + 1) d
    obtain ⟨BL, HBLK⟩ : ∃ x, Hid (apB j d = x) := ⟨_, rfl⟩
    have hbl1 : BL.length % 64 = 0 := by rw [← HBLK.out]; exact hbl.1
    have hbl2 : BL.length < n + 99 := by rw [← HBLK.out, ← HN.out]; exact hbl.2.2
    rw [HBLK.out] at HBL HWR
    rw [hx] at HW2 HK0
    clear hx hxn hbl
    obtain ⟨je, HJE⟩ : ∃ x, Hid (j.e = x) := ⟨_, rfl⟩
    obtain ⟨jt, HJT⟩ : ∃ x, Hid (j.t = x) := ⟨_, rfl⟩
    rw [HJT.out, HJE.out] at HW2 HK0 HV ⊢
    rw [HJT.out, HJE.out] at HWR
    rw [HJT.out] at HBL
    rw [HJE.out] at hje
    have rc0 : w2.cell? ⟨w.heap.size, 0, none⟩ = some _ := (cell_of_row _ _ 0 _ _ _ HK0.out).trans rfl; have rc1 : w2.cell? ⟨w.heap.size, 1, none⟩ = some _ := (cell_of_row _ _ 1 _ _ _ HK0.out).trans rfl; have rc2 : w2.cell? ⟨w.heap.size, 2, none⟩ = some _ := (cell_of_row _ _ 2 _ _ _ HK0.out).trans rfl; have rc3 : w2.cell? ⟨w.heap.size, 3, none⟩ = some _ := (cell_of_row _ _ 3 _ _ _ HK0.out).trans rfl; have rc4 : w2.cell? ⟨w.heap.size, 4, none⟩ = some _ := (cell_of_row _ _ 4 _ _ _ HK0.out).trans rfl; have rc5 : w2.cell? ⟨w.heap.size, 5, none⟩ = some _ := (cell_of_row _ _ 5 _ _ _ HK0.out).trans rfl; have rc6 : w2.cell? ⟨w.heap.size, 6, none⟩ = some _ := (cell_of_row _ _ 6 _ _ _ HK0.out).trans rfl; have rc7 : w2.cell? ⟨w.heap.size, 7, none⟩ = some _ := (cell_of_row _ _ 7 _ _ _ HK0.out).trans rfl; have rc8 : w2.cell? ⟨w.heap.size, 8, none⟩ = some _ := (cell_of_row _ _ 8 _ _ _ HK0.out).trans rfl
    go_enter Try.func29, Try.ntmps29
    go_upto_region 1 with (fail)
    rw [HW2.out]
    go_wp2_with fail
    (with_reducible refine HBL.out.mono ?_)
    rintro e w3 ⟨Y, cy, k, rfl, hk, ho, hb3⟩
    have HB3 := Lib.hid (HB2.out.trans (hb3.mono HB2.out.size))
    have HK03 := Lib.hid ((hb3.block _ (by omega)).trans HK0.out)
    have HK13 := Lib.hid ((hb3.block _ (by omega)).trans HK1.out)
    have hs3 : w.heap.size + 1 < w3.heap.size := Nat.lt_of_lt_of_le hs2 hb3.size
    have HKL := Lib.hid hk
    have HYR := Lib.hid ho.rb.1
    have hk64 : k % 64 = 0 := by rw [hk]; exact hbl1
    have hkl : k < n + 99 := by rw [hk]; exact hbl2
    clear rc0 rc1 rc2 rc3 rc4 rc5 rc6 rc7 rc8 HBL hk ho hb3
    obtain ⟨nb, HNB⟩ : ∃ x, Hid (k / 64 = x) := ⟨_, rfl⟩
    have hnb : nb ≤ 10000 := by have := HNB.out; omega
    have en : (k : Int) / 64 = (nb : Int) := by have := HNB.out; omega
    have en2 : Int.tdiv (k : Int) 64 = (nb : Int) := by rw [Int.tdiv_eq_ediv_of_nonneg (by omega)]; exact en
    have HNBL : Hid ((apB j d).length / 64 = nb) := by show _ = _; rw [HBLK.out, ← HKL.out]; exact HNB.out
    obtain ⟨rm, HRM⟩ : ∃ x, Hid (q - je = x) := ⟨_, rfl⟩
    have erm : (q : Int) - (je : Int) = (rm : Int) := by have := HRM.out; omega
    have wnb : IntKind.i64.wrap (nb : Int) = (nb : Int) := wi_nat (by omega)
    have wrm : IntKind.i64.wrap (rm : Int) = (rm : Int) := wi_nat (by have := HRM.out; omega)
    have HH3 : ∀ w', Below w3.heap.size w3 w' → Hid (Calls Try.prog 54 #[.agg #[.slice A N ca, .slice X pl cx, .bool D.x, .int .i64 D.f]] w' fun e w'' => e = .returned (.int .i64 (q : Int)) ∧ Below w3.heap.size w3 w'') := fun w' hb =>
      (HHF w' (HB3.out.trans (hb.mono HB3.out.size))).out.mono fun e w'' ⟨a, b⟩ => ⟨a, hb.trans (b.mono hb.size)⟩
    have r0 : ∀ w', Below w3.heap.size w3 w' → w'.cell? ⟨w.heap.size, 0, none⟩ = some (.slice A N ca) := fun w' h => (cell_of_row _ _ 0 _ _ _ ((h.block _ (by omega)).trans HK03.out)).trans rfl
    have r1 : ∀ w', Below w3.heap.size w3 w' → w'.cell? ⟨w.heap.size, 1, none⟩ = some (.slice X pl cx) := fun w' h => (cell_of_row _ _ 1 _ _ _ ((h.block _ (by omega)).trans HK03.out)).trans rfl
    have r2 : ∀ w', Below w3.heap.size w3 w' → w'.cell? ⟨w.heap.size, 2, none⟩ = some (.bool D.x) := fun w' h => (cell_of_row _ _ 2 _ _ _ ((h.block _ (by omega)).trans HK03.out)).trans rfl
    have r3 : ∀ w', Below w3.heap.size w3 w' → w'.cell? ⟨w.heap.size, 3, none⟩ = some (.int .i64 D.f) := fun w' h => (cell_of_row _ _ 3 _ _ _ ((h.block _ (by omega)).trans HK03.out)).trans rfl
    have r7 : ∀ w', Below w3.heap.size w3 w' → w'.cell? ⟨w.heap.size, 7, none⟩ = some (.int .i64 (je : Int)) := fun w' h => (cell_of_row _ _ 7 _ _ _ ((h.block _ (by omega)).trans HK03.out)).trans rfl
    clear HHF em
    go_upto_region 4 with (fail)
    go_region_held3 (fun w' => Below w3.heap.size w3 w') (first | exact (Below.refl _ _).drew | assumption) ((go_at_call 54; (with_reducible refine (HH3 _ (by assumption)).out.mono ?_); rintro e w4 ⟨rfl, hb4⟩))
    have HB4 := Lib.hid (HB3.out.trans (hb4.mono HB3.out.size))
    have HK04 := Lib.hid ((hb4.block _ (by omega)).trans HK03.out)
    have HK14 := Lib.hid ((hb4.block _ hs3).trans HK13.out)
    have hs4 : w.heap.size + 1 < w4.heap.size := Nat.lt_of_lt_of_le hs3 hb4.size
    have HYR4 := Lib.hid (RB.below HYR.out hb4)
    clear r0 r1 r2 r3 r7 wnb wrm en2 erm HH3 HB3 HK03 HK13 HYR
    by_cases hfull : rm < nb
    · have d5 : decide ((rm : Int) < (nb : Int)) = true := by simp; omega
      have d5' : decide (rm < nb) = true := by simpa using hfull
      first | rw [d5'] | rw [d5]
      have hff : apFull D j d = true := by
        unfold apFull
        rw [HNBL.out, HQ.out, HJE.out]
        exact decide_eq_true (by have := HRM.out; omega)
      have hv4 : IsV w4 N0 (.agg #[.slice A N ca, .slice X pl cx, .bool D.x, .int .i64 D.f, .int .i64 (jt : Int), .slice sa sl sc, .slice ra ml rc, .int .i64 (je : Int), .bool j.x]) (appD D j d) (appJ D j d) := by
        unfold appD appJ; rw [if_neg HX.out, if_pos hff, if_neg HX.out, if_pos hff]; exact HV.out.below HB4.out
      have HF := Lib.hid (HRET.out N0 _ _ _ _ _ _ _ _ _ w4 8 (by unfold appE; rw [if_neg HX.out, if_pos hff]) hv4 HB4.out (fun x hx => .inl hx))
      have hjx : j.x = false := by simpa using HX.out
      rw [hjx] at HF
      clear hfull hff hv4 hjx HWR
      have rc0 : w4.cell? ⟨w.heap.size, 0, none⟩ = some _ := (cell_of_row _ _ 0 _ _ _ HK04.out).trans rfl; have rf0 : w4.frozen? ⟨w.heap.size, 0, none⟩ = false := frozen_of_row _ _ _ _ _ HK04.out; have rc1 : w4.cell? ⟨w.heap.size, 1, none⟩ = some _ := (cell_of_row _ _ 1 _ _ _ HK04.out).trans rfl; have rf1 : w4.frozen? ⟨w.heap.size, 1, none⟩ = false := frozen_of_row _ _ _ _ _ HK04.out; have rc2 : w4.cell? ⟨w.heap.size, 2, none⟩ = some _ := (cell_of_row _ _ 2 _ _ _ HK04.out).trans rfl; have rf2 : w4.frozen? ⟨w.heap.size, 2, none⟩ = false := frozen_of_row _ _ _ _ _ HK04.out; have rc3 : w4.cell? ⟨w.heap.size, 3, none⟩ = some _ := (cell_of_row _ _ 3 _ _ _ HK04.out).trans rfl; have rf3 : w4.frozen? ⟨w.heap.size, 3, none⟩ = false := frozen_of_row _ _ _ _ _ HK04.out; have rc4 : w4.cell? ⟨w.heap.size, 4, none⟩ = some _ := (cell_of_row _ _ 4 _ _ _ HK04.out).trans rfl; have rf4 : w4.frozen? ⟨w.heap.size, 4, none⟩ = false := frozen_of_row _ _ _ _ _ HK04.out; have rc5 : w4.cell? ⟨w.heap.size, 5, none⟩ = some _ := (cell_of_row _ _ 5 _ _ _ HK04.out).trans rfl; have rf5 : w4.frozen? ⟨w.heap.size, 5, none⟩ = false := frozen_of_row _ _ _ _ _ HK04.out; have rc6 : w4.cell? ⟨w.heap.size, 6, none⟩ = some _ := (cell_of_row _ _ 6 _ _ _ HK04.out).trans rfl; have rf6 : w4.frozen? ⟨w.heap.size, 6, none⟩ = false := frozen_of_row _ _ _ _ _ HK04.out; have rc7 : w4.cell? ⟨w.heap.size, 7, none⟩ = some _ := (cell_of_row _ _ 7 _ _ _ HK04.out).trans rfl; have rf7 : w4.frozen? ⟨w.heap.size, 7, none⟩ = false := frozen_of_row _ _ _ _ _ HK04.out; have rc8 : w4.cell? ⟨w.heap.size, 8, none⟩ = some _ := (cell_of_row _ _ 8 _ _ _ HK04.out).trans rfl; have rf8 : w4.frozen? ⟨w.heap.size, 8, none⟩ = false := frozen_of_row _ _ _ _ _ HK04.out
      have zc0 : w4.cell? ⟨w.heap.size + 1, 0, none⟩ = some _ := (cell_of_row _ _ 0 _ _ _ HK14.out).trans rfl; have zf0 : w4.frozen? ⟨w.heap.size + 1, 0, none⟩ = false := frozen_of_row _ _ _ _ _ HK14.out; have zc1 : w4.cell? ⟨w.heap.size + 1, 1, none⟩ = some _ := (cell_of_row _ _ 1 _ _ _ HK14.out).trans rfl; have zf1 : w4.frozen? ⟨w.heap.size + 1, 1, none⟩ = false := frozen_of_row _ _ _ _ _ HK14.out; have zc2 : w4.cell? ⟨w.heap.size + 1, 2, none⟩ = some _ := (cell_of_row _ _ 2 _ _ _ HK14.out).trans rfl; have zf2 : w4.frozen? ⟨w.heap.size + 1, 2, none⟩ = false := frozen_of_row _ _ _ _ _ HK14.out; have zc3 : w4.cell? ⟨w.heap.size + 1, 3, none⟩ = some _ := (cell_of_row _ _ 3 _ _ _ HK14.out).trans rfl; have zf3 : w4.frozen? ⟨w.heap.size + 1, 3, none⟩ = false := frozen_of_row _ _ _ _ _ HK14.out; have zc4 : w4.cell? ⟨w.heap.size + 1, 4, none⟩ = some _ := (cell_of_row _ _ 4 _ _ _ HK14.out).trans rfl; have zf4 : w4.frozen? ⟨w.heap.size + 1, 4, none⟩ = false := frozen_of_row _ _ _ _ _ HK14.out; have zc5 : w4.cell? ⟨w.heap.size + 1, 5, none⟩ = some _ := (cell_of_row _ _ 5 _ _ _ HK14.out).trans rfl; have zf5 : w4.frozen? ⟨w.heap.size + 1, 5, none⟩ = false := frozen_of_row _ _ _ _ _ HK14.out; have zc6 : w4.cell? ⟨w.heap.size + 1, 6, none⟩ = some _ := (cell_of_row _ _ 6 _ _ _ HK14.out).trans rfl; have zf6 : w4.frozen? ⟨w.heap.size + 1, 6, none⟩ = false := frozen_of_row _ _ _ _ _ HK14.out; have zc7 : w4.cell? ⟨w.heap.size + 1, 7, none⟩ = some _ := (cell_of_row _ _ 7 _ _ _ HK14.out).trans rfl; have zf7 : w4.frozen? ⟨w.heap.size + 1, 7, none⟩ = false := frozen_of_row _ _ _ _ _ HK14.out; have zc8 : w4.cell? ⟨w.heap.size + 1, 8, none⟩ = some _ := (cell_of_row _ _ 8 _ _ _ HK14.out).trans rfl; have zf8 : w4.frozen? ⟨w.heap.size + 1, 8, none⟩ = false := frozen_of_row _ _ _ _ _ HK14.out
      go_wp2_with fail
      have hz := heap_set9 HK14.out (.slice A N ca) (.slice X pl cx) (.bool D.x) (.int .i64 D.f) (.int .i64 (jt : Int)) (.slice sa sl sc) (.slice ra ml rc) (.int .i64 (je : Int)) (.bool false)
      refine bodyPost_ret (results_cell_tmp rfl _ _ (w.heap.size + 1) 46 _ (0, 0) _ rfl hz Try.underlying46 rfl size_jr) rfl ?_
      exact HF.out
    have d5 : decide ((rm : Int) < (nb : Int)) = false := by simp; omega
    have d5' : decide (rm < nb) = false := by simpa using hfull
    first | rw [d5'] | rw [d5]
    have hff : apFull D j d = false := by
      unfold apFull
      rw [HNBL.out, HQ.out, HJE.out]
      exact decide_eq_false (by have := HRM.out; omega)
    have HFU := Lib.hid hff
    have HEN : Hid (je + nb ≤ q) := by have := HRM.out; show _ ≤ _; omega
    have HWQ := Lib.hid (HWR w4 Y k cy HB4.out HYR4.out HKL.out.symm (by omega) hff).out
    clear hfull hff HWR
    have rc0 : w4.cell? ⟨w.heap.size, 0, none⟩ = some _ := (cell_of_row _ _ 0 _ _ _ HK04.out).trans rfl; have rc1 : w4.cell? ⟨w.heap.size, 1, none⟩ = some _ := (cell_of_row _ _ 1 _ _ _ HK04.out).trans rfl; have rc2 : w4.cell? ⟨w.heap.size, 2, none⟩ = some _ := (cell_of_row _ _ 2 _ _ _ HK04.out).trans rfl; have rc3 : w4.cell? ⟨w.heap.size, 3, none⟩ = some _ := (cell_of_row _ _ 3 _ _ _ HK04.out).trans rfl; have rc4 : w4.cell? ⟨w.heap.size, 4, none⟩ = some _ := (cell_of_row _ _ 4 _ _ _ HK04.out).trans rfl; have rc5 : w4.cell? ⟨w.heap.size, 5, none⟩ = some _ := (cell_of_row _ _ 5 _ _ _ HK04.out).trans rfl; have rc6 : w4.cell? ⟨w.heap.size, 6, none⟩ = some _ := (cell_of_row _ _ 6 _ _ _ HK04.out).trans rfl; have rc7 : w4.cell? ⟨w.heap.size, 7, none⟩ = some _ := (cell_of_row _ _ 7 _ _ _ HK04.out).trans rfl; have rc8 : w4.cell? ⟨w.heap.size, 8, none⟩ = some _ := (cell_of_row _ _ 8 _ _ _ HK04.out).trans rfl
    go_wp2_with fail
    (with_reducible refine HWQ.out.mono ?_)
    rintro e w5 ⟨v', N5, he, ⟨A5, ca5, X5, cx5, P5, rfl, hk5⟩, hb5, hn5⟩
    unfold kval at he
    have HB5 := Lib.hid (HB4.out.trans (hb5.mono HB4.out.size))
    have HK05 := Lib.hid ((hb5.block _ (by omega)).trans HK04.out)
    have HK15 := Lib.hid ((hb5.block _ hs4).trans HK14.out)
    have HN5 : Hid (∀ x ∈ N5, x ∈ N0 ∨ w.heap.size + 1 < x) := fun x hx => (hn5 x hx).imp id fun h => by omega
    have HI5 := Lib.hid hk5
    have hs5 := Nat.lt_of_lt_of_le hs4 hb5.size
    have HAN : Hid ((apW D j d).1.n = D.n) := wrJ_apn D j d
    have HAE : Hid (appE D j d = if (apW D j d).2 = true then 0 else 10) := by show _ = _; unfold appE; rw [if_neg HX.out, if_neg (by rw [HFU.out]; simp)]
    have HAD : Hid (appD D j d = (apW D j d).1) := by show _ = _; unfold appD; rw [if_neg HX.out, if_neg (by rw [HFU.out]; simp)]
    have HAJ : Hid (appJ D j d = if (apW D j d).2 = true then { j with rs := j.rs ++ [d], e := je + nb } else { j with x := true }) := by show _ = _; unfold appJ; rw [if_neg HX.out, if_neg (by rw [HFU.out]; simp), HNBL.out, HJE.out]
    clear hb5 hn5 hk5 HWQ rc0 rc1 rc2 rc3 rc4 rc5 rc6 rc7 rc8
    generalize apW D j d = ro at *
    obtain ⟨D5, bo⟩ := ro
    simp only at *
    obtain ⟨NL5, HNL5⟩ : ∃ y, Hid (64 * D5.n = y) := ⟨_, rfl⟩
    obtain ⟨pl5, HPL5⟩ : ∃ y, Hid (P5.length = y) := ⟨_, rfl⟩
    rw [HNL5.out, HPL5.out] at he
    have hb6 := below1 w5 (.cells #[.slice A5 NL5 ca5, .slice X5 pl5 cx5, .bool D5.x, .int .i64 D5.f] 42)
    have hx6 := heap_alloc_new w5 (.cells #[.slice A5 NL5 ca5, .slice X5 pl5 cx5, .bool D5.x, .int .i64 D5.f] 42)
    have HER : Hid ((if bo = true then (0 : Int) else 10) = appE D j d) := HAE.out.symm
    obtain ⟨er, HEE⟩ : ∃ y, Hid ((if bo = true then (0 : Int) else 10) = y) := ⟨_, rfl⟩
    rw [HEE.out] at he HER
    subst he
    go_upto_region 7 with (fail)
    generalize w5.alloc (.cells #[.slice A5 NL5 ca5, .slice X5 pl5 cx5, .bool D5.x, .int .i64 D5.f] 42) = w6 at *
    have HX6 := Lib.hid hx6
    have HB6 := Lib.hid (HB5.out.trans (hb6.mono HB5.out.size))
    have HK06 := Lib.hid ((hb6.block _ (by omega)).trans HK05.out)
    have HK16 := Lib.hid ((hb6.block _ hs5).trans HK15.out)
    have HI6 := Lib.hid (HI5.out.below hb6)
    have hs6 : w5.heap.size < w6.heap.size := (Array.getElem?_eq_some_iff.1 hx6).1
    clear hb6 hx6 HK05 HK15 HI5
    obtain ⟨db, HDB⟩ : ∃ y, Hid (w5.heap.size = y) := ⟨_, rfl⟩
    rw [HDB.out] at hs5 hs6 HX6 ⊢
    have xc0 : w6.cell? ⟨db, 0, none⟩ = some _ := (cell_of_row _ _ 0 _ _ _ HX6.out).trans rfl; have xc1 : w6.cell? ⟨db, 1, none⟩ = some _ := (cell_of_row _ _ 1 _ _ _ HX6.out).trans rfl; have xc2 : w6.cell? ⟨db, 2, none⟩ = some _ := (cell_of_row _ _ 2 _ _ _ HX6.out).trans rfl; have xc3 : w6.cell? ⟨db, 3, none⟩ = some _ := (cell_of_row _ _ 3 _ _ _ HX6.out).trans rfl
    have rc0 : w6.cell? ⟨w.heap.size, 0, none⟩ = some _ := (cell_of_row _ _ 0 _ _ _ HK06.out).trans rfl; have rf0 : w6.frozen? ⟨w.heap.size, 0, none⟩ = false := frozen_of_row _ _ _ _ _ HK06.out; have rc1 : w6.cell? ⟨w.heap.size, 1, none⟩ = some _ := (cell_of_row _ _ 1 _ _ _ HK06.out).trans rfl; have rf1 : w6.frozen? ⟨w.heap.size, 1, none⟩ = false := frozen_of_row _ _ _ _ _ HK06.out; have rc2 : w6.cell? ⟨w.heap.size, 2, none⟩ = some _ := (cell_of_row _ _ 2 _ _ _ HK06.out).trans rfl; have rf2 : w6.frozen? ⟨w.heap.size, 2, none⟩ = false := frozen_of_row _ _ _ _ _ HK06.out; have rc3 : w6.cell? ⟨w.heap.size, 3, none⟩ = some _ := (cell_of_row _ _ 3 _ _ _ HK06.out).trans rfl; have rf3 : w6.frozen? ⟨w.heap.size, 3, none⟩ = false := frozen_of_row _ _ _ _ _ HK06.out; have rc4 : w6.cell? ⟨w.heap.size, 4, none⟩ = some _ := (cell_of_row _ _ 4 _ _ _ HK06.out).trans rfl; have rf4 : w6.frozen? ⟨w.heap.size, 4, none⟩ = false := frozen_of_row _ _ _ _ _ HK06.out; have rc5 : w6.cell? ⟨w.heap.size, 5, none⟩ = some _ := (cell_of_row _ _ 5 _ _ _ HK06.out).trans rfl; have rf5 : w6.frozen? ⟨w.heap.size, 5, none⟩ = false := frozen_of_row _ _ _ _ _ HK06.out; have rc6 : w6.cell? ⟨w.heap.size, 6, none⟩ = some _ := (cell_of_row _ _ 6 _ _ _ HK06.out).trans rfl; have rf6 : w6.frozen? ⟨w.heap.size, 6, none⟩ = false := frozen_of_row _ _ _ _ _ HK06.out; have rc7 : w6.cell? ⟨w.heap.size, 7, none⟩ = some _ := (cell_of_row _ _ 7 _ _ _ HK06.out).trans rfl; have rf7 : w6.frozen? ⟨w.heap.size, 7, none⟩ = false := frozen_of_row _ _ _ _ _ HK06.out; have rc8 : w6.cell? ⟨w.heap.size, 8, none⟩ = some _ := (cell_of_row _ _ 8 _ _ _ HK06.out).trans rfl; have rf8 : w6.frozen? ⟨w.heap.size, 8, none⟩ = false := frozen_of_row _ _ _ _ _ HK06.out
    go_upto_region 8 with (fail)
    have hcs := chg_set4 w6 w.heap.size (.slice A5 NL5 ca5) (.slice X5 pl5 cx5) (.bool D5.x) (.int .i64 D5.f)
    have HK07 := Lib.hid (heap_set49 HK06.out (.slice A5 NL5 ca5) (.slice X5 pl5 cx5) (.bool D5.x) (.int .i64 D5.f))
    have HK17 := Lib.hid (hcs.blk HK16.out (by simp))
    have HB7 := Lib.hid (HB6.out.trans (hcs.below HB6.out.size (by simp)))
    have HI7 := Lib.hid (HI6.out.kept (fun x hx => hcs.block x (HI6.out.nl x hx) (fun hm => by
      simp only [List.mem_singleton] at hm
      subst hm
      rcases HN5.out _ hx with h | h
      · have := HNL.out _ h; omega
      · omega)) hcs.size)
    have hs7 := Nat.lt_of_lt_of_le (Nat.lt_trans hs5 hs6) hcs.size
    clear hcs HK06 HK16 HI6 xc0 xc1 xc2 xc3 rc0 rc1 rc2 rc3 rc4 rc5 rc6 rc7 rc8 rf0 rf1 rf2 rf3 rf4 rf5 rf6 rf7 rf8
    generalize (((w6.setCell ⟨w.heap.size, 0, none⟩ (.slice A5 NL5 ca5)).setCell ⟨w.heap.size, 1, none⟩ (.slice X5 pl5 cx5)).setCell ⟨w.heap.size, 2, none⟩ (.bool D5.x)).setCell ⟨w.heap.size, 3, none⟩ (.int .i64 D5.f) = w7 at *
    cases bo with
    | false =>
      rw [if_neg (by simp)] at HEE HAJ
      obtain rfl := HEE.out
      have rc0 : w7.cell? ⟨w.heap.size, 0, none⟩ = some _ := (cell_of_row _ _ 0 _ _ _ HK07.out).trans rfl; have rf0 : w7.frozen? ⟨w.heap.size, 0, none⟩ = false := frozen_of_row _ _ _ _ _ HK07.out; have rc1 : w7.cell? ⟨w.heap.size, 1, none⟩ = some _ := (cell_of_row _ _ 1 _ _ _ HK07.out).trans rfl; have rf1 : w7.frozen? ⟨w.heap.size, 1, none⟩ = false := frozen_of_row _ _ _ _ _ HK07.out; have rc2 : w7.cell? ⟨w.heap.size, 2, none⟩ = some _ := (cell_of_row _ _ 2 _ _ _ HK07.out).trans rfl; have rf2 : w7.frozen? ⟨w.heap.size, 2, none⟩ = false := frozen_of_row _ _ _ _ _ HK07.out; have rc3 : w7.cell? ⟨w.heap.size, 3, none⟩ = some _ := (cell_of_row _ _ 3 _ _ _ HK07.out).trans rfl; have rf3 : w7.frozen? ⟨w.heap.size, 3, none⟩ = false := frozen_of_row _ _ _ _ _ HK07.out; have rc4 : w7.cell? ⟨w.heap.size, 4, none⟩ = some _ := (cell_of_row _ _ 4 _ _ _ HK07.out).trans rfl; have rf4 : w7.frozen? ⟨w.heap.size, 4, none⟩ = false := frozen_of_row _ _ _ _ _ HK07.out; have rc5 : w7.cell? ⟨w.heap.size, 5, none⟩ = some _ := (cell_of_row _ _ 5 _ _ _ HK07.out).trans rfl; have rf5 : w7.frozen? ⟨w.heap.size, 5, none⟩ = false := frozen_of_row _ _ _ _ _ HK07.out; have rc6 : w7.cell? ⟨w.heap.size, 6, none⟩ = some _ := (cell_of_row _ _ 6 _ _ _ HK07.out).trans rfl; have rf6 : w7.frozen? ⟨w.heap.size, 6, none⟩ = false := frozen_of_row _ _ _ _ _ HK07.out; have rc7 : w7.cell? ⟨w.heap.size, 7, none⟩ = some _ := (cell_of_row _ _ 7 _ _ _ HK07.out).trans rfl; have rf7 : w7.frozen? ⟨w.heap.size, 7, none⟩ = false := frozen_of_row _ _ _ _ _ HK07.out; have rc8 : w7.cell? ⟨w.heap.size, 8, none⟩ = some _ := (cell_of_row _ _ 8 _ _ _ HK07.out).trans rfl; have rf8 : w7.frozen? ⟨w.heap.size, 8, none⟩ = false := frozen_of_row _ _ _ _ _ HK07.out
      go_upto_region 10 with (fail)
      have HK08 : Hid ((w7.setCell ⟨w.heap.size, 8, none⟩ (.bool true)).heap[w.heap.size]? = some (.cells #[.slice A5 NL5 ca5, .slice X5 pl5 cx5, .bool D5.x, .int .i64 D5.f, .int .i64 (jt : Int), .slice sa sl sc, .slice ra ml rc, .int .i64 (je : Int), .bool true] 46 (0, 0))) := heap_setCell_same _ _ _ _ _ _ HK07.out
      have hcs : Chg [w.heap.size] w7 (w7.setCell ⟨w.heap.size, 8, none⟩ (.bool true)) := (Chg.refl _ _).setCell (p := ⟨w.heap.size, 8, none⟩) (.inl (by simp)) _
      have HK18 := Lib.hid (hcs.blk HK17.out (by simp))
      have HB8 := Lib.hid (HB7.out.trans (hcs.below HB7.out.size (by simp)))
      have HI8 := Lib.hid (HI7.out.kept (fun x hx => hcs.block x (HI7.out.nl x hx) (fun hm => by
        simp only [List.mem_singleton] at hm
        subst hm
        rcases HN5.out _ hx with h | h
        · have := HNL.out _ h; omega
        · omega)) hcs.size)
      clear hcs rc0 rc1 rc2 rc3 rc4 rc5 rc6 rc7 rc8 rf0 rf1 rf2 rf3 rf4 rf5 rf6 rf7 rf8
      generalize w7.setCell ⟨w.heap.size, 8, none⟩ (.bool true) = w8 at *
      have hv8 : IsV w8 (N5 ++ N0) (.agg #[.slice A5 NL5 ca5, .slice X5 pl5 cx5, .bool D5.x, .int .i64 D5.f, .int .i64 (jt : Int), .slice sa sl sc, .slice ra ml rc, .int .i64 (je : Int), .bool true]) D5 { j with x := true } := by
        have h1 := (HV'.out.disk (Kept.of_below HNL.out HB8.out) HI8.out HAN.out (N2 := N5 ++ N0) (fun x hx => List.mem_append_right _ hx) (fun x hx => List.mem_append_left _ hx) (fun x hx => by
          rcases List.mem_append.1 hx with hx | hx
          · exact HI8.out.nl x hx
          · exact Nat.lt_of_lt_of_le (HNL.out x hx) HB8.out.size)).brk
        rw [← HNL5.out, ← HPL5.out, ← HJT.out, ← HSL.out, ← HML.out, ← HJE.out]
        exact ⟨A5, ca5, X5, cx5, P5, sa, sc, ra, rc, ms, rfl, h1⟩
      have HF := Lib.hid (HRET.out (N5 ++ N0) _ _ _ _ _ _ _ _ _ w8 10 HER.out.symm (by rw [HAD.out, HAJ.out]; exact hv8) HB8.out (fun x hx => by
        rcases List.mem_append.1 hx with hx | hx
        · exact HN5.out x hx
        · exact .inl hx))
      clear hv8
      have rc0 : w8.cell? ⟨w.heap.size, 0, none⟩ = some _ := (cell_of_row _ _ 0 _ _ _ HK08.out).trans rfl; have rc1 : w8.cell? ⟨w.heap.size, 1, none⟩ = some _ := (cell_of_row _ _ 1 _ _ _ HK08.out).trans rfl; have rc2 : w8.cell? ⟨w.heap.size, 2, none⟩ = some _ := (cell_of_row _ _ 2 _ _ _ HK08.out).trans rfl; have rc3 : w8.cell? ⟨w.heap.size, 3, none⟩ = some _ := (cell_of_row _ _ 3 _ _ _ HK08.out).trans rfl; have rc4 : w8.cell? ⟨w.heap.size, 4, none⟩ = some _ := (cell_of_row _ _ 4 _ _ _ HK08.out).trans rfl; have rc5 : w8.cell? ⟨w.heap.size, 5, none⟩ = some _ := (cell_of_row _ _ 5 _ _ _ HK08.out).trans rfl; have rc6 : w8.cell? ⟨w.heap.size, 6, none⟩ = some _ := (cell_of_row _ _ 6 _ _ _ HK08.out).trans rfl; have rc7 : w8.cell? ⟨w.heap.size, 7, none⟩ = some _ := (cell_of_row _ _ 7 _ _ _ HK08.out).trans rfl; have rc8 : w8.cell? ⟨w.heap.size, 8, none⟩ = some _ := (cell_of_row _ _ 8 _ _ _ HK08.out).trans rfl
      have zc0 : w8.cell? ⟨w.heap.size + 1, 0, none⟩ = some _ := (cell_of_row _ _ 0 _ _ _ HK18.out).trans rfl; have zf0 : w8.frozen? ⟨w.heap.size + 1, 0, none⟩ = false := frozen_of_row _ _ _ _ _ HK18.out; have zc1 : w8.cell? ⟨w.heap.size + 1, 1, none⟩ = some _ := (cell_of_row _ _ 1 _ _ _ HK18.out).trans rfl; have zf1 : w8.frozen? ⟨w.heap.size + 1, 1, none⟩ = false := frozen_of_row _ _ _ _ _ HK18.out; have zc2 : w8.cell? ⟨w.heap.size + 1, 2, none⟩ = some _ := (cell_of_row _ _ 2 _ _ _ HK18.out).trans rfl; have zf2 : w8.frozen? ⟨w.heap.size + 1, 2, none⟩ = false := frozen_of_row _ _ _ _ _ HK18.out; have zc3 : w8.cell? ⟨w.heap.size + 1, 3, none⟩ = some _ := (cell_of_row _ _ 3 _ _ _ HK18.out).trans rfl; have zf3 : w8.frozen? ⟨w.heap.size + 1, 3, none⟩ = false := frozen_of_row _ _ _ _ _ HK18.out; have zc4 : w8.cell? ⟨w.heap.size + 1, 4, none⟩ = some _ := (cell_of_row _ _ 4 _ _ _ HK18.out).trans rfl; have zf4 : w8.frozen? ⟨w.heap.size + 1, 4, none⟩ = false := frozen_of_row _ _ _ _ _ HK18.out; have zc5 : w8.cell? ⟨w.heap.size + 1, 5, none⟩ = some _ := (cell_of_row _ _ 5 _ _ _ HK18.out).trans rfl; have zf5 : w8.frozen? ⟨w.heap.size + 1, 5, none⟩ = false := frozen_of_row _ _ _ _ _ HK18.out; have zc6 : w8.cell? ⟨w.heap.size + 1, 6, none⟩ = some _ := (cell_of_row _ _ 6 _ _ _ HK18.out).trans rfl; have zf6 : w8.frozen? ⟨w.heap.size + 1, 6, none⟩ = false := frozen_of_row _ _ _ _ _ HK18.out; have zc7 : w8.cell? ⟨w.heap.size + 1, 7, none⟩ = some _ := (cell_of_row _ _ 7 _ _ _ HK18.out).trans rfl; have zf7 : w8.frozen? ⟨w.heap.size + 1, 7, none⟩ = false := frozen_of_row _ _ _ _ _ HK18.out; have zc8 : w8.cell? ⟨w.heap.size + 1, 8, none⟩ = some _ := (cell_of_row _ _ 8 _ _ _ HK18.out).trans rfl; have zf8 : w8.frozen? ⟨w.heap.size + 1, 8, none⟩ = false := frozen_of_row _ _ _ _ _ HK18.out
      go_wp2_with fail
      have hz := heap_set9 HK18.out (.slice A5 NL5 ca5) (.slice X5 pl5 cx5) (.bool D5.x) (.int .i64 D5.f) (.int .i64 (jt : Int)) (.slice sa sl sc) (.slice ra ml rc) (.int .i64 (je : Int)) (.bool true)
      refine bodyPost_ret (results_cell_tmp rfl _ _ (w.heap.size + 1) 46 _ (0, 0) _ rfl hz Try.underlying46 rfl size_jr) rfl ?_
      exact HF.out
    | true =>
      rw [if_pos rfl] at HEE HAJ
      obtain rfl := HEE.out
      have sc0 : w7.cell? ⟨w.heap.size, 0, none⟩ = some _ := (cell_of_row _ _ 0 _ _ _ HK07.out).trans rfl; have sc1 : w7.cell? ⟨w.heap.size, 1, none⟩ = some _ := (cell_of_row _ _ 1 _ _ _ HK07.out).trans rfl; have sc2 : w7.cell? ⟨w.heap.size, 2, none⟩ = some _ := (cell_of_row _ _ 2 _ _ _ HK07.out).trans rfl; have sc3 : w7.cell? ⟨w.heap.size, 3, none⟩ = some _ := (cell_of_row _ _ 3 _ _ _ HK07.out).trans rfl; have sc4 : w7.cell? ⟨w.heap.size, 4, none⟩ = some _ := (cell_of_row _ _ 4 _ _ _ HK07.out).trans rfl; have sc5 : w7.cell? ⟨w.heap.size, 5, none⟩ = some _ := (cell_of_row _ _ 5 _ _ _ HK07.out).trans rfl; have sc6 : w7.cell? ⟨w.heap.size, 6, none⟩ = some _ := (cell_of_row _ _ 6 _ _ _ HK07.out).trans rfl; have sc7 : w7.cell? ⟨w.heap.size, 7, none⟩ = some _ := (cell_of_row _ _ 7 _ _ _ HK07.out).trans rfl; have sc8 : w7.cell? ⟨w.heap.size, 8, none⟩ = some _ := (cell_of_row _ _ 8 _ _ _ HK07.out).trans rfl
      have r6a : ∀ o : Obj, (w7.alloc o).cell? ⟨w.heap.size, 6, none⟩ = some (.slice ra ml rc) := fun o => (World.cell?_alloc_lt w7 o ⟨w.heap.size, 6, none⟩ (by show w.heap.size < _; omega)).trans ((cell_of_row _ _ 6 _ _ _ HK07.out).trans rfl)
      have HRA := Lib.hid (Rd.below HV'.out.rr.rd HB7.out)
      have HRB : ∀ w', Below w7.heap.size w7 w' → Hid (RB w' A0 d) := fun w' hb => RB.below HRD.out (HB7.out.trans (hb.mono HB7.out.size))
      have hn9 : n ≤ 100000000 := by omega
      have hml9 : ml ≤ 1000 := by omega
      obtain ⟨e2, HE2⟩ : ∃ y, Hid (je + nb = y) := ⟨_, rfl⟩
      have ee2 : (je : Int) + (nb : Int) = (e2 : Int) := by have := HE2.out; omega
      have he2 : e2 ≤ 50 := by have := HE2.out; have := HEN.out; omega
      have hw7 : w.heap.size < w7.heap.size := by omega
      go_upto_region 13 with (first | (at_builtin; refine appR0 _ rfl (.tmp 48) (.tmp 50) rfl ms rfl ra ml rc rfl HML.out HRA.out hml9 ?_; intro X8 c8 w8 HO8 HB8 hs8) | (at_builtin; refine app0 _ rfl (.tmp 52) (.tmp 53) rfl d rfl A0 n c rfl HN.out (HRB w8 HB8.out).out hn9 ?_; intro X9 c9 k9 w9 HK9 hk9 hk9' HO9 HB9 hs9) | (at_builtin; refine appR1 _ rfl (.tmp 51) (.tmp 55) rfl w7.heap.size (.slice X8 ml c8) ml (ms.map rval) rfl (own_below HO8.out HB9.out) _ rfl rfl hml9 (Nat.le_trans hs8 hs9) ?_; intro X10 c10 w10 HO10 HA10 HB10 hs10; have HB710 := Lib.hid (HB8.out.trans ((HB9.out.mono hs8).trans HB10.out)); have HK010 := Lib.hid ((HB710.out.block _ hw7).trans HK07.out); have tc0 : w10.cell? ⟨w.heap.size, 0, none⟩ = some _ := (cell_of_row _ _ 0 _ _ _ HK010.out).trans rfl; have tf0 : w10.frozen? ⟨w.heap.size, 0, none⟩ = false := frozen_of_row _ _ _ _ _ HK010.out; have tc1 : w10.cell? ⟨w.heap.size, 1, none⟩ = some _ := (cell_of_row _ _ 1 _ _ _ HK010.out).trans rfl; have tf1 : w10.frozen? ⟨w.heap.size, 1, none⟩ = false := frozen_of_row _ _ _ _ _ HK010.out; have tc2 : w10.cell? ⟨w.heap.size, 2, none⟩ = some _ := (cell_of_row _ _ 2 _ _ _ HK010.out).trans rfl; have tf2 : w10.frozen? ⟨w.heap.size, 2, none⟩ = false := frozen_of_row _ _ _ _ _ HK010.out; have tc3 : w10.cell? ⟨w.heap.size, 3, none⟩ = some _ := (cell_of_row _ _ 3 _ _ _ HK010.out).trans rfl; have tf3 : w10.frozen? ⟨w.heap.size, 3, none⟩ = false := frozen_of_row _ _ _ _ _ HK010.out; have tc4 : w10.cell? ⟨w.heap.size, 4, none⟩ = some _ := (cell_of_row _ _ 4 _ _ _ HK010.out).trans rfl; have tf4 : w10.frozen? ⟨w.heap.size, 4, none⟩ = false := frozen_of_row _ _ _ _ _ HK010.out; have tc5 : w10.cell? ⟨w.heap.size, 5, none⟩ = some _ := (cell_of_row _ _ 5 _ _ _ HK010.out).trans rfl; have tf5 : w10.frozen? ⟨w.heap.size, 5, none⟩ = false := frozen_of_row _ _ _ _ _ HK010.out; have tc6 : w10.cell? ⟨w.heap.size, 6, none⟩ = some _ := (cell_of_row _ _ 6 _ _ _ HK010.out).trans rfl; have tf6 : w10.frozen? ⟨w.heap.size, 6, none⟩ = false := frozen_of_row _ _ _ _ _ HK010.out; have tc7 : w10.cell? ⟨w.heap.size, 7, none⟩ = some _ := (cell_of_row _ _ 7 _ _ _ HK010.out).trans rfl; have tf7 : w10.frozen? ⟨w.heap.size, 7, none⟩ = false := frozen_of_row _ _ _ _ _ HK010.out; have tc8 : w10.cell? ⟨w.heap.size, 8, none⟩ = some _ := (cell_of_row _ _ 8 _ _ _ HK010.out).trans rfl; have tf8 : w10.frozen? ⟨w.heap.size, 8, none⟩ = false := frozen_of_row _ _ _ _ _ HK010.out))
      have HK011 : Hid (((w10.setCell ⟨w.heap.size, 6, none⟩ (.slice X10 (ml + 1) c10)).setCell ⟨w.heap.size, 7, none⟩ (.int .i64 (e2 : Int))).heap[w.heap.size]? = some (.cells #[.slice A5 NL5 ca5, .slice X5 pl5 cx5, .bool D5.x, .int .i64 D5.f, .int .i64 (jt : Int), .slice sa sl sc, .slice X10 (ml + 1) c10, .int .i64 (e2 : Int), .bool false] 46 (0, 0))) :=
        heap_setCell_same _ _ _ _ _ _ (heap_setCell_same _ _ _ _ _ _ HK010.out)
      have hcs : Chg [w.heap.size] w10 ((w10.setCell ⟨w.heap.size, 6, none⟩ (.slice X10 (ml + 1) c10)).setCell ⟨w.heap.size, 7, none⟩ (.int .i64 (e2 : Int))) := ((Chg.refl _ _).setCell (p := ⟨w.heap.size, 6, none⟩) (.inl (by simp)) _).setCell (p := ⟨w.heap.size, 7, none⟩) (.inl (by simp)) _
      have HK111 := Lib.hid (hcs.blk ((HB710.out.block _ hs7).trans HK17.out) (by simp))
      have HB10w := Lib.hid (HB7.out.trans (HB710.out.mono HB7.out.size))
      have HB11 := Lib.hid (HB10w.out.trans (hcs.below HB10w.out.size (by simp)))
      have HI11 := Lib.hid (((HI7.out.below HB710.out)).kept (fun x hx => hcs.block x (Nat.lt_of_lt_of_le (HI7.out.nl x hx) HB710.out.size) (fun hm => by
        simp only [List.mem_singleton] at hm
        subst hm
        rcases HN5.out _ hx with h | h
        · have := HNL.out _ h; omega
        · omega)) hcs.size)
      have hk9e := HK9.out
      have hO9 := HO9.out
      rw [hk9e] at hO9
      have hO10 := HO10.out
      rw [hk9e] at hO10
      obtain ⟨hrr, hbl⟩ := RsR.push (N1 := bl X10 ++ (bl X9 ++ (N5 ++ N0))) HV'.out.rr HNL.out HB7.out HML.out HO8.out HB8.out hO9 HB9.out hO10 HA10.out HB710.out hcs hw7 (Nat.le_refl _) (fun x hx => by
        rcases List.mem_append.1 hx with hx | hx
        · simp [hx]
        · rcases List.mem_append.1 hx with hx | hx
          · simp [hx]
          · simp [hx])
      have HRR := Lib.hid hrr
      have HBLK2 := Lib.hid hbl
      clear hcs hk9e hO9 hO10 hrr hbl tc0 tc1 tc2 tc3 tc4 tc5 tc6 tc7 tc8 tf0 tf1 tf2 tf3 tf4 tf5 tf6 tf7 tf8 sc0 sc1 sc2 sc3 sc4 sc5 sc6 sc7 sc8
      generalize (w10.setCell ⟨w.heap.size, 6, none⟩ (.slice X10 (ml + 1) c10)).setCell ⟨w.heap.size, 7, none⟩ (.int .i64 (e2 : Int)) = w11 at *
      have hv11 : IsV w11 (bl X10 ++ (bl X9 ++ (N5 ++ N0))) (.agg #[.slice A5 NL5 ca5, .slice X5 pl5 cx5, .bool D5.x, .int .i64 D5.f, .int .i64 (jt : Int), .slice sa sl sc, .slice X10 (ml + 1) c10, .int .i64 (e2 : Int), .bool false]) D5 { j with rs := j.rs ++ [d], e := je + nb } := by
        have hl : ∀ x ∈ bl X10 ++ (bl X9 ++ (N5 ++ N0)), x < w11.heap.size := fun x hx => by
          rcases List.mem_append.1 hx with hx | hx
          · exact (HBLK2.out x (by simp [hx])).2
          · rcases List.mem_append.1 hx with hx | hx
            · exact (HBLK2.out x (by simp [hx])).2
            · rcases List.mem_append.1 hx with hx | hx
              · exact HI11.out.nl x hx
              · exact Nat.lt_of_lt_of_le (HNL.out x hx) HB11.out.size
        have h1 := HV'.out.disk (Kept.of_below HNL.out HB11.out) HI11.out HAN.out (N2 := bl X10 ++ (bl X9 ++ (N5 ++ N0))) (fun x hx => by simp [hx]) (fun x hx => by simp [hx]) hl
        have hbl := blockL_len j.t (j.rs.length + 1) d
        have hnb1 : 1 ≤ nb := by rw [← HNBL.out]; show 1 ≤ (blockL j.t (j.rs.length + 1) d).length / 64; omega
        have hge := blockL_ge j.t (j.rs.length + 1) d
        have hdn : d.length ≤ 64 * nb := by rw [← HNBL.out]; show _ ≤ 64 * ((blockL j.t (j.rs.length + 1) d).length / 64); omega
        have h2 : IsV' w11 (bl X10 ++ (bl X9 ++ (N5 ++ N0))) D5 { j with rs := j.rs ++ [d], e := je + nb } A5 ca5 X5 cx5 P5 sa sc X10 c10 (ms ++ [⟨X9, c9, d⟩]) :=
          ⟨h1.k, h1.st, HRR.out, by show j.rs ++ [d] = _; rw [HV'.out.rs, List.map_append]; rfl, ⟨HV'.out.ok.t1, HV'.out.ok.t2, by show je + nb ≤ _; rw [(fst_n HAN.out 0).2, HQ.out]; exact HEN.out, by
            show (j.rs ++ [d]).length ≤ je + nb
            have := HV'.out.ok.r
            rw [HJE.out] at this
            simp; omega, h1.ok.s, fun y hy => by
            rcases List.mem_append.1 hy with hy | hy
            · exact h1.ok.d y hy
            · simp only [List.mem_singleton] at hy
              subst hy
              rw [(fst_n HAN.out 0).2, HQ.out]
              have := HEN.out
              omega⟩⟩
        refine ⟨A5, ca5, X5, cx5, P5, sa, sc, X10, c10, _, ?_, h2⟩
        rw [← HE2.out, ← HNL5.out, ← HPL5.out, ← HJT.out, ← HSL.out, ← HML.out]
        unfold jval
        rw [List.length_append]
        have hjx : j.x = false := by simpa using HX.out
        rw [hjx]
        rfl
      have HF := Lib.hid (HRET.out _ _ _ _ _ _ _ _ _ _ w11 0 HER.out.symm (by rw [HAD.out, HAJ.out]; exact hv11) HB11.out (fun x hx => by
        rcases List.mem_append.1 hx with hx | hx
        · have := (HBLK2.out x (by simp [hx])).1; exact .inr (by omega)
        · rcases List.mem_append.1 hx with hx | hx
          · have := (HBLK2.out x (by simp [hx])).1; exact .inr (by omega)
          · rcases List.mem_append.1 hx with hx | hx
            · exact HN5.out x hx
            · exact .inl hx))
      clear hv11 r6a
      have rc0 : w11.cell? ⟨w.heap.size, 0, none⟩ = some _ := (cell_of_row _ _ 0 _ _ _ HK011.out).trans rfl; have rc1 : w11.cell? ⟨w.heap.size, 1, none⟩ = some _ := (cell_of_row _ _ 1 _ _ _ HK011.out).trans rfl; have rc2 : w11.cell? ⟨w.heap.size, 2, none⟩ = some _ := (cell_of_row _ _ 2 _ _ _ HK011.out).trans rfl; have rc3 : w11.cell? ⟨w.heap.size, 3, none⟩ = some _ := (cell_of_row _ _ 3 _ _ _ HK011.out).trans rfl; have rc4 : w11.cell? ⟨w.heap.size, 4, none⟩ = some _ := (cell_of_row _ _ 4 _ _ _ HK011.out).trans rfl; have rc5 : w11.cell? ⟨w.heap.size, 5, none⟩ = some _ := (cell_of_row _ _ 5 _ _ _ HK011.out).trans rfl; have rc6 : w11.cell? ⟨w.heap.size, 6, none⟩ = some _ := (cell_of_row _ _ 6 _ _ _ HK011.out).trans rfl; have rc7 : w11.cell? ⟨w.heap.size, 7, none⟩ = some _ := (cell_of_row _ _ 7 _ _ _ HK011.out).trans rfl; have rc8 : w11.cell? ⟨w.heap.size, 8, none⟩ = some _ := (cell_of_row _ _ 8 _ _ _ HK011.out).trans rfl
      have zc0 : w11.cell? ⟨w.heap.size + 1, 0, none⟩ = some _ := (cell_of_row _ _ 0 _ _ _ HK111.out).trans rfl; have zf0 : w11.frozen? ⟨w.heap.size + 1, 0, none⟩ = false := frozen_of_row _ _ _ _ _ HK111.out; have zc1 : w11.cell? ⟨w.heap.size + 1, 1, none⟩ = some _ := (cell_of_row _ _ 1 _ _ _ HK111.out).trans rfl; have zf1 : w11.frozen? ⟨w.heap.size + 1, 1, none⟩ = false := frozen_of_row _ _ _ _ _ HK111.out; have zc2 : w11.cell? ⟨w.heap.size + 1, 2, none⟩ = some _ := (cell_of_row _ _ 2 _ _ _ HK111.out).trans rfl; have zf2 : w11.frozen? ⟨w.heap.size + 1, 2, none⟩ = false := frozen_of_row _ _ _ _ _ HK111.out; have zc3 : w11.cell? ⟨w.heap.size + 1, 3, none⟩ = some _ := (cell_of_row _ _ 3 _ _ _ HK111.out).trans rfl; have zf3 : w11.frozen? ⟨w.heap.size + 1, 3, none⟩ = false := frozen_of_row _ _ _ _ _ HK111.out; have zc4 : w11.cell? ⟨w.heap.size + 1, 4, none⟩ = some _ := (cell_of_row _ _ 4 _ _ _ HK111.out).trans rfl; have zf4 : w11.frozen? ⟨w.heap.size + 1, 4, none⟩ = false := frozen_of_row _ _ _ _ _ HK111.out; have zc5 : w11.cell? ⟨w.heap.size + 1, 5, none⟩ = some _ := (cell_of_row _ _ 5 _ _ _ HK111.out).trans rfl; have zf5 : w11.frozen? ⟨w.heap.size + 1, 5, none⟩ = false := frozen_of_row _ _ _ _ _ HK111.out; have zc6 : w11.cell? ⟨w.heap.size + 1, 6, none⟩ = some _ := (cell_of_row _ _ 6 _ _ _ HK111.out).trans rfl; have zf6 : w11.frozen? ⟨w.heap.size + 1, 6, none⟩ = false := frozen_of_row _ _ _ _ _ HK111.out; have zc7 : w11.cell? ⟨w.heap.size + 1, 7, none⟩ = some _ := (cell_of_row _ _ 7 _ _ _ HK111.out).trans rfl; have zf7 : w11.frozen? ⟨w.heap.size + 1, 7, none⟩ = false := frozen_of_row _ _ _ _ _ HK111.out; have zc8 : w11.cell? ⟨w.heap.size + 1, 8, none⟩ = some _ := (cell_of_row _ _ 8 _ _ _ HK111.out).trans rfl; have zf8 : w11.frozen? ⟨w.heap.size + 1, 8, none⟩ = false := frozen_of_row _ _ _ _ _ HK111.out
      go_wp2_with fail
      have hz := heap_set9 HK111.out (.slice A5 NL5 ca5) (.slice X5 pl5 cx5) (.bool D5.x) (.int .i64 D5.f) (.int .i64 (jt : Int)) (.slice sa sl sc) (.slice X10 (ml + 1) c10) (.int .i64 (e2 : Int)) (.bool false)
      refine bodyPost_ret (results_cell_tmp rfl _ _ (w.heap.size + 1) 46 _ (0, 0) _ rfl hz Try.underlying46 rfl size_jr) rfl ?_
      exact HF.out
end Jn
end Go.Proofs.Ytmdpmpfjldgalaa
