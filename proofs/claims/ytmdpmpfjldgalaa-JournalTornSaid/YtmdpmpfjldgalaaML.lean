/- Merged: JnT DkY JnU JnV. -/
import Derived.Test.YtmdpmpfjldgalaaMK
import Derived.Test.YtmdpmpfjldgalaaMC
/- The walks of the reference's Room and Same. -/
namespace Go.Proofs.Ytmdpmpfjldgalaa
open Go.RowKit
namespace Jn
open Dk Wi Wr

set_option maxRecDepth 100000 in
theorem rroom_calls (v : Value) (N0 : List Nat) (D : St) (j : Jr) (w : World) (h : IsV w N0 v D j) (hD : D.n ≤ 100) :
    Calls Try.prog 47 #[v] w fun e w' => e = .returned (.int .i64 ((half D - j.e : Nat) : Int)) ∧ Below w.heap.size w w' := by
  obtain ⟨A, ca, X, cx, P, sa, sc, ra, rc, ms, rfl, h⟩ := h
  have hq50 : half D ≤ 50 := by unfold half; omega
  have hje := h.ok.e
  have HHF : ∀ w', Below w.heap.size w w' → Hid (Calls Try.prog 54 #[kval D A ca X cx P] w' fun e w'' => e = .returned (.int .i64 (half D : Int)) ∧ Below w'.heap.size w' w'') := fun w' hb => rhalf_calls _ N0 D w' ⟨_, _, _, _, _, rfl, h.k.below hb⟩
  unfold jval
  unfold kval at HHF
  clear h
  obtain ⟨N, HNN⟩ : ∃ x, Hid (64 * D.n = x) := ⟨_, rfl⟩
  obtain ⟨q, HQ⟩ : ∃ x, Hid (half D = x) := ⟨_, rfl⟩
  obtain ⟨je, HJE⟩ : ∃ x, Hid (j.e = x) := ⟨_, rfl⟩
  rw [HNN.out] at HHF ⊢
  rw [HQ.out] at hq50 hje HHF ⊢
  rw [HJE.out] at hje ⊢
  generalize P.length = pl at *
  generalize ms.length = ml at *
  generalize j.s.length = sl at *
  obtain ⟨rm, HRM⟩ : ∃ x, Hid (q - je = x) := ⟨_, rfl⟩
  rw [HRM.out]
  have erm : (q : Int) - (je : Int) = (rm : Int) := by have := HRM.out; omega
  have wrm : IntKind.i64.wrap (rm : Int) = (rm : Int) := wi_nat (by have := HRM.out; omega)
  have hb1 := below1 w (.cells #[.slice A N ca, .slice X pl cx, .bool D.x, .int .i64 D.f, .int .i64 (j.t : Int), .slice sa sl sc, .slice ra ml rc, .int .i64 (je : Int), .bool j.x] 46)
  have hk1 := heap_alloc_new w (.cells #[.slice A N ca, .slice X pl cx, .bool D.x, .int .i64 D.f, .int .i64 (j.t : Int), .slice sa sl sc, .slice ra ml rc, .int .i64 (je : Int), .bool j.x] 46)
  obtain ⟨w1, HW1⟩ : ∃ x, Hid (w.alloc (.cells #[.slice A N ca, .slice X pl cx, .bool D.x, .int .i64 D.f, .int .i64 (j.t : Int), .slice sa sl sc, .slice ra ml rc, .int .i64 (je : Int), .bool j.x] 46) = x) := ⟨_, rfl⟩
  rw [HW1.out] at hb1 hk1
  have HB1 := Lib.hid hb1
  have HK1 := Lib.hid hk1
  have hs1 : w.heap.size < w1.heap.size := (Array.getElem?_eq_some_iff.1 hk1).1
  have HH1 : ∀ w', Below w1.heap.size w1 w' → Hid (Calls Try.prog 54 #[.agg #[.slice A N ca, .slice X pl cx, .bool D.x, .int .i64 D.f]] w' fun e w'' => e = .returned (.int .i64 (q : Int)) ∧ Below w1.heap.size w1 w'') := fun w' hb =>
    (HHF w' (HB1.out.trans (hb.mono HB1.out.size))).out.mono fun e w'' ⟨a, b⟩ => ⟨a, hb.trans (b.mono hb.size)⟩
  have r0 : ∀ w', Below w1.heap.size w1 w' → w'.cell? ⟨w.heap.size, 0, none⟩ = some (.slice A N ca) := fun w' h => (cell_of_row _ _ 0 _ _ _ ((h.block _ (by omega)).trans HK1.out)).trans rfl
  have r1 : ∀ w', Below w1.heap.size w1 w' → w'.cell? ⟨w.heap.size, 1, none⟩ = some (.slice X pl cx) := fun w' h => (cell_of_row _ _ 1 _ _ _ ((h.block _ (by omega)).trans HK1.out)).trans rfl
  have r2 : ∀ w', Below w1.heap.size w1 w' → w'.cell? ⟨w.heap.size, 2, none⟩ = some (.bool D.x) := fun w' h => (cell_of_row _ _ 2 _ _ _ ((h.block _ (by omega)).trans HK1.out)).trans rfl
  have r3 : ∀ w', Below w1.heap.size w1 w' → w'.cell? ⟨w.heap.size, 3, none⟩ = some (.int .i64 D.f) := fun w' h => (cell_of_row _ _ 3 _ _ _ ((h.block _ (by omega)).trans HK1.out)).trans rfl
  have r7 : ∀ w', Below w1.heap.size w1 w' → w'.cell? ⟨w.heap.size, 7, none⟩ = some (.int .i64 (je : Int)) := fun w' h => (cell_of_row _ _ 7 _ _ _ ((h.block _ (by omega)).trans HK1.out)).trans rfl
  clear HHF hb1 hk1
  go_enter Try.func47, Try.ntmps47
  go_upto_region 1 with (fail)
  rw [HW1.out]
  go_region_held3 (fun w' => Below w1.heap.size w1 w') (first | exact (Below.refl _ _).drew | assumption) ((go_at_call 54; (with_reducible refine (HH1 _ (by assumption)).out.mono ?_); rintro e w4 ⟨rfl, hb4⟩))
  have HF := Lib.hid (HB1.out.trans (hb4.mono HB1.out.size))
  go_wp2_with fail
  go_ret
  exact ⟨rfl, HF.out⟩

/-- two journals show the same -/
def sameJ (t1 : Nat) (s1 : List UInt8) (r1 : List (List UInt8)) (t2 : Nat) (s2 : List UInt8) (r2 : List (List UInt8)) : Bool := decide (t1 = t2 ∧ s1 = s2 ∧ r1 = r2)
/-- a journal of the reference, of which only turn, state and records matter -/
def SmV (w : World) (N : List Nat) (v : Value) (t : Nat) (s : List UInt8) (rs : List (List UInt8)) : Prop :=
  ∃ c0 c1 c2 c3 sa sc ra rc ms c7 c8, v = .agg #[c0, c1, c2, c3, .int .i64 (t : Int), .slice sa s.length sc, .slice ra ms.length rc, c7, c8] ∧ InR w N ⟨sa, sc, s⟩ ∧ RsR w N ra rc ms ∧ rs = ms.map (·.d)
theorem SmV.below {w w' : World} {N : List Nat} {v : Value} {t : Nat} {s : List UInt8} {rs : List (List UInt8)} (h : SmV w N v t s rs) (hb : Below w.heap.size w w') : SmV w' N v t s rs := by
  obtain ⟨c0, c1, c2, c3, sa, sc, ra, rc, ms, c7, c8, e, h1, h2, h3⟩ := h
  exact ⟨c0, c1, c2, c3, sa, sc, ra, rc, ms, c7, c8, e, h1.below hb, h2.below hb, h3⟩
theorem SmV.kept {w w' : World} {N : List Nat} {v : Value} {t : Nat} {s : List UInt8} {rs : List (List UInt8)} (h : SmV w N v t s rs) (hb : Kept N w w') : SmV w' N v t s rs := by
  obtain ⟨c0, c1, c2, c3, sa, sc, ra, rc, ms, c7, c8, e, h1, h2, h3⟩ := h
  exact ⟨c0, c1, c2, c3, sa, sc, ra, rc, ms, c7, c8, e, h1.kept hb, h2.kept hb, h3⟩
theorem IsW.sm {w : World} {N : List Nat} {v : Value} {D : St} {j : Jr} (h : IsW w N v D j) : SmV w N v j.t j.s j.rs := by
  obtain ⟨A, ca, X, cx, P, sa, sc, ra, rc, ms, rfl, h⟩ := h
  exact ⟨_, _, _, _, sa, sc, ra, rc, ms, _, _, rfl, h.st, h.rr, h.rs⟩
theorem sameJ_no {t1 t2 : Nat} {s1 s2 : List UInt8} {r1 r2 : List (List UInt8)} (h : ¬ (t1 = t2 ∧ s1 = s2 ∧ r1 = r2)) : sameJ t1 s1 r1 t2 s2 r2 = false := decide_eq_false h
theorem sameJ_yes {t1 t2 : Nat} {s1 s2 : List UInt8} {r1 r2 : List (List UInt8)} (h : t1 = t2 ∧ s1 = s2 ∧ r1 = r2) : sameJ t1 s1 r1 t2 s2 r2 = true := decide_eq_true h

set_option maxRecDepth 100000 in
set_option maxHeartbeats 2000000 in
theorem rsame_calls (u v : Value) (N1 N2 : List Nat) (t1 t2 : Nat) (s1 s2 : List UInt8) (r1 r2 : List (List UInt8)) (w : World) (h1 : SmV w N1 u t1 s1 r1) (h2 : SmV w N2 v t2 s2 r2) (hl1 : r1.length ≤ 1000) :
    Calls Try.prog 23 #[u, v] w fun e w' => e = .returned (.bool (sameJ t1 s1 r1 t2 s2 r2)) ∧ Below w.heap.size w w' := by
  obtain ⟨c0, c1, c2, c3, sa, sc, ra, rc, ms, c7, c8, rfl, hs1, hr1, rfl⟩ := h1
  obtain ⟨d0, d1, d2, d3, sb, sd, rb, rd, ns, d7, d8, rfl, hs2, hr2, rfl⟩ := h2
  have hb2 := below2 w (.cells #[c0, c1, c2, c3, .int .i64 (t1 : Int), .slice sa s1.length sc, .slice ra ms.length rc, c7, c8] 46) (.cells #[d0, d1, d2, d3, .int .i64 (t2 : Int), .slice sb s2.length sd, .slice rb ns.length rd, d7, d8] 46)
  have hk0 : ((w.alloc (.cells #[c0, c1, c2, c3, .int .i64 (t1 : Int), .slice sa s1.length sc, .slice ra ms.length rc, c7, c8] 46)).alloc (.cells #[d0, d1, d2, d3, .int .i64 (t2 : Int), .slice sb s2.length sd, .slice rb ns.length rd, d7, d8] 46)).heap[w.heap.size]? = _ := (Below.heap_alloc _ _ _ (by simp)).trans (heap_alloc_new _ _)
  have hk1 : ((w.alloc (.cells #[c0, c1, c2, c3, .int .i64 (t1 : Int), .slice sa s1.length sc, .slice ra ms.length rc, c7, c8] 46)).alloc (.cells #[d0, d1, d2, d3, .int .i64 (t2 : Int), .slice sb s2.length sd, .slice rb ns.length rd, d7, d8] 46)).heap[w.heap.size + 1]? = _ := heap_alloc2_new _ _ _
  obtain ⟨w2, HW2⟩ : ∃ x, Hid ((w.alloc (.cells #[c0, c1, c2, c3, .int .i64 (t1 : Int), .slice sa s1.length sc, .slice ra ms.length rc, c7, c8] 46)).alloc (.cells #[d0, d1, d2, d3, .int .i64 (t2 : Int), .slice sb s2.length sd, .slice rb ns.length rd, d7, d8] 46) = x) := ⟨_, rfl⟩
  rw [HW2.out] at hb2 hk0 hk1
  have HB2 := Lib.hid hb2
  have x4 : w2.cell? ⟨w.heap.size, 4, none⟩ = some (.int .i64 (t1 : Int)) := (cell_of_row _ _ 4 _ _ _ hk0).trans rfl
  have x5 : w2.cell? ⟨w.heap.size, 5, none⟩ = some (.slice sa s1.length sc) := (cell_of_row _ _ 5 _ _ _ hk0).trans rfl
  have x6 : w2.cell? ⟨w.heap.size, 6, none⟩ = some (.slice ra ms.length rc) := (cell_of_row _ _ 6 _ _ _ hk0).trans rfl
  have y4 : w2.cell? ⟨w.heap.size + 1, 4, none⟩ = some (.int .i64 (t2 : Int)) := (cell_of_row _ _ 4 _ _ _ hk1).trans rfl
  have y5 : w2.cell? ⟨w.heap.size + 1, 5, none⟩ = some (.slice sb s2.length sd) := (cell_of_row _ _ 5 _ _ _ hk1).trans rfl
  have y6 : w2.cell? ⟨w.heap.size + 1, 6, none⟩ = some (.slice rb ns.length rd) := (cell_of_row _ _ 6 _ _ _ hk1).trans rfl
  have HR1 := Lib.hid (hr1.below hb2)
  have HR2 := Lib.hid (hr2.below hb2)
  have HS1 := Lib.hid (hs1.below hb2)
  have HS2 := Lib.hid (hs2.below hb2)
  rw [List.length_map] at hl1
  obtain ⟨l1, HL1⟩ : ∃ x, Hid (s1.length = x) := ⟨_, rfl⟩
  obtain ⟨l2, HL2⟩ : ∃ x, Hid (s2.length = x) := ⟨_, rfl⟩
  obtain ⟨n1, HN1⟩ : ∃ x, Hid (ms.length = x) := ⟨_, rfl⟩
  obtain ⟨n2, HN2⟩ : ∃ x, Hid (ns.length = x) := ⟨_, rfl⟩
  have z1 : (convert 29 9 (.slice sa l1 sc)).run Try.prog w2 = .ok (.string ⟨s1.toArray⟩) w2 := run_str (P := Try.prog) (w := w2) l1 sc 29 5 9 Try.underlying29 Try.underlying5 Try.underlying9 HL1.out HS1.out.rd
  have z2 : (convert 29 9 (.slice sb l2 sd)).run Try.prog w2 = .ok (.string ⟨s2.toArray⟩) w2 := run_str (P := Try.prog) (w := w2) l2 sd 29 5 9 Try.underlying29 Try.underlying5 Try.underlying9 HL2.out HS2.out.rd
  rw [HL1.out, HN1.out] at HW2
  rw [HL2.out, HN2.out] at HW2
  rw [HL1.out] at x5
  rw [HN1.out] at x6 hl1
  rw [HL2.out] at y5
  rw [HN2.out] at y6
  rw [HL1.out, HN1.out, HL2.out, HN2.out]
  have HNO : Hid (¬ (t1 = t2 ∧ s1 = s2 ∧ ms.map (·.d) = ns.map (·.d)) → ∀ w', Below w2.heap.size w2 w' → Ending.returned (.bool false) = .returned (.bool (sameJ t1 s1 (ms.map (·.d)) t2 s2 (ns.map (·.d)))) ∧ Below w.heap.size w w') := fun hn w' hb => ⟨by rw [sameJ_no hn], HB2.out.trans (hb.mono HB2.out.size)⟩
  have HYES : Hid ((t1 = t2 ∧ s1 = s2 ∧ ms.map (·.d) = ns.map (·.d)) → ∀ w', Below w2.heap.size w2 w' → Ending.returned (.bool true) = .returned (.bool (sameJ t1 s1 (ms.map (·.d)) t2 s2 (ns.map (·.d)))) ∧ Below w.heap.size w w') := fun hn w' hb => ⟨by rw [sameJ_yes hn], HB2.out.trans (hb.mono HB2.out.size)⟩
  clear hb2 hk0 hk1 hs1 hs2 hr1 hr2
  by_cases ht : t1 = t2
  · have d1 : ((t1 : Int) != (t2 : Int)) = false := by rw [bne_eq_false_iff_eq]; omega
    have HT := Lib.hid ht
    clear ht
    by_cases hs : s1 = s2
    · have d2 : (s1 != s2) = false := by simp [hs]
      have d2' : (s1 == s2) = true := by simp [hs]
      have HSE := Lib.hid hs
      clear hs
      by_cases hn : n1 = n2
      · have d3 : ((n1 : Int) != (n2 : Int)) = false := by rw [bne_eq_false_iff_eq]; omega
        have HNE := Lib.hid hn
        clear hn
        go_enter Try.func23, Try.ntmps23
        go_upto_region 1 with (fail)
        rw [HW2.out]
        go_wp2_with fail
        have hx6 := x6
        have hy6 := y6
        have hb0 : w.heap.size < w2.heap.size := block_lt_of_cell x6
        have hb1 : w.heap.size + 1 < w2.heap.size := block_lt_of_cell y6
        have X6 := Lib.hid hx6
        have Y6 := Lib.hid hy6
        clear hx6 hy6 x4 x5 x6 y4 y5 y6 z1 z2
        go_loopw [5] (fun i wr => ∃ k : Nat, k ≤ n1 ∧ i = .int .i64 (k : Int) ∧ Below w2.heap.size w2 wr ∧ (ms.take k).map (·.d) = (ns.take k).map (·.d)) (fun i _ => n1 - (intOf i).toNat)
        case atStart => exact ⟨0, Nat.zero_le _, rfl, Below.refl _ _, rfl⟩
        case round =>
          obtain ⟨k, hk, rfl, hb, he⟩ := hrel
          have HB := Lib.hid hb
          have HE := Lib.hid he
          have x6 : wr.cell? ⟨w.heap.size, 6, none⟩ = some (.slice ra n1 rc) := (hb.cell (p := ⟨w.heap.size, 6, none⟩) hb0).trans X6.out
          have y6 : wr.cell? ⟨w.heap.size + 1, 6, none⟩ = some (.slice rb n2 rd) := (hb.cell (p := ⟨w.heap.size + 1, 6, none⟩) hb1).trans Y6.out
          clear hb he
          by_cases hlt : k < n1
          · have d4 : decide (k < n1) = true := by simpa using hlt
            have d4' : decide ((k : Int) < (n1 : Int)) = true := by simp; omega
            have hk1 : k < ms.length := by have := HN1.out; omega
            have hk2 : k < ns.length := by have := HN2.out; have := HNE.out; omega
            obtain ⟨b, off, hA, hbl, hcell⟩ := Rd.cells (Rd.below HR1.out.rd HB.out) (by simpa using (by omega : 0 < ms.length))
            obtain ⟨b', off', hB', hbl', hcell'⟩ := Rd.cells (Rd.below HR2.out.rd HB.out) (by simpa using (by omega : 0 < ns.length))
            have hc := hcell k _ (by rw [List.getElem?_map, List.getElem?_eq_getElem hk1]; rfl)
            have hc' := hcell' k _ (by rw [List.getElem?_map, List.getElem?_eq_getElem hk2]; rfl)
            have HM := Lib.hid ((HR1.out.el ms[k] (List.getElem_mem hk1)).below HB.out)
            have HM' := Lib.hid ((HR2.out.el ns[k] (List.getElem_mem hk2)).below HB.out)
            have HTK : Hid ((ms.take (k + 1)).map (·.d) = (ms.take k).map (·.d) ++ [ms[k].d]) := by show _ = _; rw [List.take_succ_eq_append_getElem hk1, List.map_append]; rfl
            have HTK' : Hid ((ns.take (k + 1)).map (·.d) = (ns.take k).map (·.d) ++ [ns[k].d]) := by show _ = _; rw [List.take_succ_eq_append_getElem hk2, List.map_append]; rfl
            have HMD : Hid (ms.map (·.d) = ns.map (·.d) → ms[k].d = ns[k].d) := fun h => by
              have h1 := congrArg (fun l => l[k]?) h
              simp only [List.getElem?_map, List.getElem?_eq_getElem hk1, List.getElem?_eq_getElem hk2] at h1
              simpa using h1
            unfold rval at hc hc'
            generalize ms[k] = m at *
            generalize ns[k] = m' at *
            obtain ⟨ma, mc, md⟩ := m
            obtain ⟨ma', mc', md'⟩ := m'
            simp only at *
            obtain ⟨q, HQ⟩ : ∃ x, Hid (md.length = x) := ⟨_, rfl⟩
            obtain ⟨q', HQ'⟩ : ∃ x, Hid (md'.length = x) := ⟨_, rfl⟩
            rw [HQ.out] at hc
            rw [HQ'.out] at hc'
            have z1 : ∀ z, (convert 29 9 (.slice ma q mc)).run Try.prog (wr.drewN z) = .ok (.string ⟨md.toArray⟩) (wr.drewN z) := fun z => run_str (P := Try.prog) (w := wr.drewN z) q mc 29 5 9 Try.underlying29 Try.underlying5 Try.underlying9 HQ.out (Rd.drewN HM.out.rd z)
            have z2 : ∀ z, (convert 29 9 (.slice ma' q' mc')).run Try.prog (wr.drewN z) = .ok (.string ⟨md'.toArray⟩) (wr.drewN z) := fun z => run_str (P := Try.prog) (w := wr.drewN z) q' mc' 29 5 9 Try.underlying29 Try.underlying5 Try.underlying9 HQ'.out (Rd.drewN HM'.out.rd z)
            have k1 : (k : Int) < (n1 : Int) := by omega
            have k2 : (k : Int) < (n2 : Int) := by have := HNE.out; omega
            have k0 : (0 : Int) ≤ (k : Int) := by omega
            have HBD := fun z => Lib.hid (below_drewN HB.out z)
            clear hcell hcell'
            by_cases hm : md = md'
            · have d5 : (md != md') = false := by simp [hm]
              have d5' : (md == md') = true := by simp [hm]
              have HREL : Hid (∀ z, ∃ k' : Nat, k' ≤ n1 ∧ (Value.int .i64 ((k : Int) + 1)) = .int .i64 (k' : Int) ∧ Below w2.heap.size w2 (wr.drewN z) ∧ (ms.take k').map (·.d) = (ns.take k').map (·.d)) := fun z =>
                ⟨k + 1, by omega, by go_num, (HBD z).out, by rw [HTK.out, HTK'.out, HE.out, hm]⟩
              subst hA hB'
              clear hm hlt
              go_upto_region 6 with (fail)
              go_quiet (fail)
              go_wp2_with fail
              go_roundw
              case rel => exact HREL.out _
              case measure => simp [intOf]; omega
            · have d5 : (md != md') = true := by simp [hm]
              have d5' : (md == md') = false := by simp [hm]
              have HF := fun z => Lib.hid (HNO.out (fun hc => hm (HMD.out hc.2.2)) _ (HBD z).out)
              subst hA hB'
              clear hm hlt HNO HYES
              go_upto_region 6 with (fail)
              go_quiet (fail)
              go_wp2_with fail
              go_ret
              exact (HF _).out
          · have d4 : decide (k < n1) = false := by simpa using hlt
            have d4' : decide ((k : Int) < (n1 : Int)) = false := by simp; omega
            obtain rfl : k = n1 := by omega
            have HF := Lib.hid (HYES.out ⟨HT.out, HSE.out, by have := HE.out; rwa [List.take_of_length_le (by rw [HN1.out]; exact Nat.le_refl _), List.take_of_length_le (by rw [HN2.out, ← HNE.out]; exact Nat.le_refl _)] at this⟩ _ HB.out)
            clear hlt HNO HYES
            go_wp2_with fail
            go_ret
            exact HF.out
      · have d3 : ((n1 : Int) != (n2 : Int)) = true := by rw [bne_iff_ne]; omega
        have HF := Lib.hid (HNO.out (fun hc => hn (by have := congrArg List.length hc.2.2; rw [List.length_map, List.length_map, HN1.out, HN2.out] at this; exact this)) w2 (Below.refl _ _))
        clear hn HNO HYES
        go_enter Try.func23, Try.ntmps23
        go_upto_region 1 with (fail)
        rw [HW2.out]
        go_wp2_with fail
        go_ret
        exact HF.out
    · have d2 : (s1 != s2) = true := by simp [hs]
      have d2' : (s1 == s2) = false := by simp [hs]
      have HF := Lib.hid (HNO.out (fun hc => hs hc.2.1) w2 (Below.refl _ _))
      clear hs HNO HYES
      go_enter Try.func23, Try.ntmps23
      go_upto_region 1 with (fail)
      rw [HW2.out]
      go_wp2_with fail
      go_ret
      exact HF.out
  · have d1 : ((t1 : Int) != (t2 : Int)) = true := by rw [bne_iff_ne]; omega
    have HF := Lib.hid (HNO.out (fun hc => ht hc.1) w2 (Below.refl _ _))
    clear ht HNO HYES
    go_enter Try.func23, Try.ntmps23
    go_upto_region 1 with (fail)
    rw [HW2.out]
    go_wp2_with fail
    go_ret
    exact HF.out
end Jn
end Go.Proofs.Ytmdpmpfjldgalaa

/- The walks of refmeshref19: Crash. -/
namespace Go.Proofs.Ytmdpmpfjldgalaa
open Go.RowKit
namespace Dk

set_option maxRecDepth 100000 in
set_option maxHeartbeats 4000000 in
theorem rcrash_calls (v : Value) (N0 : List Nat) (D : St) (Z : Option Addr) (zn zc : Nat) (sv : List Int) (w : World) (h : IsK w N0 v D) (hz : sv.length = zn) (hzr : Rd w Z (sv.map (Value.int .i64))) : Calls Try.prog 33 #[v, .slice Z zn zc] w (KP w N0 (crashD D sv) id) := by
  obtain ⟨A, ca, X, cx, P, rfl, h⟩ := h
  have HI := Lib.hid h
  have hok := h.ok
  have hn := hok.n2
  have hc1 := h.c1
  have hc2 := h.c2
  have hc3 := h.c3
  have hc4 := h.c4
  have HC1 := Lib.hid hc1
  have HC2 := Lib.hid hc2
  unfold maxLen at hc2 hc4
  have HPP : Hid (setB D.b D.p (cSv sv) D.p.length = setB D.b (P.map (·.q)) (cSv sv) P.length) := by show _ = _; rw [h.pd]; simp
  have HPO := Lib.hid hok.p
  have HPD := Lib.hid h.pd
  have HZ := Lib.hid hz
  have HZR := Lib.hid hzr
  have HSL : Hid (∀ k, (setB D.b (P.map (·.q)) (cSv sv) k).length = 64 * D.n) := by
    intro k
    rw [← HPD.out]
    exact setB_len _ _ _ _ _ hok.b hok.p
  have H0 : Hid (setB D.b (P.map (·.q)) (cSv sv) 0 = D.b) := rfl
  have HFF : Hid (∀ N Y cy w', 64 * D.n = N → RB w' Y (setB D.b (P.map (·.q)) (cSv sv) P.length) → N ≤ cy → cy ≤ maxLen → (∀ b off, Y = some ⟨b, off, none⟩ → (b ∈ N0 ∨ w.heap.size ≤ b) ∧ b < w'.heap.size) → Below w.heap.size w w' →
      KP w N0 (crashD D sv) id (.returned (.agg #[.slice Y N cy, .slice none 0 0, .bool false, .int .i64 (-1)])) w') := by
    rintro _ Y cy w' rfl hr h1 h2 hy hb
    have hcl : (setB D.b D.p (cSv sv) D.p.length).length = 64 * D.n := by rw [HPP.out]; exact HSL.out _
    refine ⟨kval (crashD D sv) Y cy none 0 [], (Value.slice Y 0 0).ownBlock.toList, rfl, ⟨Y, cy, none, 0, [], rfl, ?_⟩, hb, ?_⟩
    · exact (HI.out.below hb).fresh (by rw [HPP.out]; exact hr) hcl h1 h2 (fun c off e => (hy c off e).2) ⟨by omega, by omega⟩
    · have h0 : 0 < (setB D.b (P.map (·.q)) (cSv sv) P.length).length := by rw [HSL.out]; have := HI.out.ok.n1; omega
      obtain ⟨b', off', e, _⟩ := RB.cells hr h0
      intro x hx
      rw [e] at hx
      simp [Value.ownBlock] at hx
      subst hx
      exact (hy _ _ e).1
  clear h hok hz hzr
  unfold kval
  obtain ⟨pl, HPL⟩ : ∃ x, Hid (P.length = x) := ⟨_, rfl⟩
  obtain ⟨N, HNN⟩ : ∃ x, Hid (64 * D.n = x) := ⟨_, rfl⟩
  rw [HPL.out] at hc3
  rw [HPL.out, HNN.out]
  go_enter Try.func33, Try.ntmps33
  go_upto_region 1 with (fail)
  have hk1 : ((w.alloc (.cells #[.slice A N ca, .slice X pl cx, .bool D.x, .int .i64 D.f] 42)).alloc (.cells #[.slice none 0 0, .slice none 0 0, .bool false, .int .i64 0] 42)).heap[w.heap.size]? = some (.cells #[.slice A N ca, .slice X pl cx, .bool D.x, .int .i64 D.f] 42) := (Below.heap_alloc _ _ _ (by simp)).trans (heap_alloc_new _ _)
  have hk2 : ((w.alloc (.cells #[.slice A N ca, .slice X pl cx, .bool D.x, .int .i64 D.f] 42)).alloc (.cells #[.slice none 0 0, .slice none 0 0, .bool false, .int .i64 0] 42)).heap[w.heap.size + 1]? = some (.cells #[.slice none 0 0, .slice none 0 0, .bool false, .int .i64 0] 42) := heap_alloc2_new _ _ _
  have hb2 := below2 w (.cells #[.slice A N ca, .slice X pl cx, .bool D.x, .int .i64 D.f] 42) (.cells #[.slice none 0 0, .slice none 0 0, .bool false, .int .i64 0] 42)
  generalize (w.alloc (.cells #[.slice A N ca, .slice X pl cx, .bool D.x, .int .i64 D.f] 42)).alloc (.cells #[.slice none 0 0, .slice none 0 0, .bool false, .int .i64 0] 42) = w2 at *
  have HK1 := Lib.hid hk1
  have HK2 := Lib.hid hk2
  have HB2 := Lib.hid hb2
  have hs2 : w.heap.size + 1 < w2.heap.size := (Array.getElem?_eq_some_iff.1 hk2).1
  clear hk1 hk2 hb2
  go_wp2_with fail
  go_loopw [5] (fun i wr => ∃ (k : Nat) (Y : Option Addr) (cy : Nat), k ≤ pl ∧ i = .int .i64 k ∧ wr.heap[w.heap.size]? = some (.cells #[.slice Y N cy, .slice X pl cx, .bool D.x, .int .i64 D.f] 42) ∧ RB wr Y (setB D.b (P.map (·.q)) (cSv sv) k) ∧ N ≤ cy ∧ cy ≤ maxLen ∧ Chg [w.heap.size] w2 wr ∧ ∀ b off, Y = some ⟨b, off, none⟩ → (b ∈ N0 ∨ w.heap.size + 2 ≤ b) ∧ b < wr.heap.size) (fun i _ => pl - (intOf i).toNat)
  case atStart => exact ⟨0, A, ca, by omega, rfl, HK1.out, by rw [H0.out]; exact RB.below HI.out.du HB2.out, by rw [← HNN.out]; exact HC1.out, HC2.out, Chg.refl _ _, fun b off e => ⟨.inl (HI.out.na b off e), by have := HI.out.nl b (HI.out.na b off e); omega⟩⟩
  case round =>
    obtain ⟨k, Y, cy, hk, rfl, hkr, hrb, hcy, hcm, hc, hY⟩ := hrel
    have HRB := Lib.hid hrb
    have HCY := Lib.hid hcy
    have HCM := Lib.hid hcm
    have HC := Lib.hid hc
    have HY := Lib.hid hY
    have HKR := Lib.hid hkr
    have HK2R := Lib.hid (hc.blk HK2.out (by simp))
    have hsr : w.heap.size + 1 < wr.heap.size := (Array.getElem?_eq_some_iff.1 HK2R.out).1
    have HWR := Lib.hid (HB2.out.trans (hc.below HB2.out.size (by simp)))
    have p1 : wr.cell? ⟨w.heap.size, 1, none⟩ = some (.slice X pl cx) := (cell_of_row _ _ 1 _ _ _ hkr).trans rfl
    clear hkr hrb hc hY hcy hcm
    have j0 : (0 : Int) ≤ (k : Int) := by omega
    by_cases hlt : k < pl
    · have j1 : (k : Int) < (pl : Int) := by omega
      have hkP : k < P.length := by have := HPL.out; omega
      have HST := Lib.hid (setB_stepP D.b P (cSv sv) k hkP)
      have hRd := HI.out.pe
      obtain ⟨b2, o2, rfl, x0⟩ := hRd (k * 2) _ (pcells_get P k 0 hkP (by omega))
      obtain ⟨b2', o2', e', x1⟩ := hRd (k * 2 + 1) _ (pcells_get P k 1 hkP (by omega))
      cases e'
      rw [← Nat.add_assoc] at x1
      obtain ⟨hm1, hm2, _⟩ := HI.out.pr P[k] (List.getElem_mem hkP)
      have hqo : P[k].q.ok D.n := HPO.out _ (by rw [HPD.out]; exact List.mem_map.2 ⟨_, List.getElem_mem hkP, rfl⟩)
      obtain ⟨m, HM⟩ : ∃ x, Hid (P[k] = x) := ⟨P[k], rfl⟩
      rw [HM.out] at HST x0 x1 hm1 hm2 hqo
      have hb2l : b2 < w.heap.size := block_lt_of_cell x0
      have p2 : wr.cell? ⟨b2, o2 + k * 2 + 1, none⟩ = some (.slice m.a m.q.d.length m.c) := (HWR.out.cell (p := ⟨b2, o2 + k * 2 + 1, none⟩) hb2l).trans x1
      have z0 : ∀ w', Below wr.heap.size wr w' → w'.cell? ⟨b2, o2 + k * 2, none⟩ = some (.int .i64 (m.q.s : Int)) := fun w' h => ((HWR.out.trans (h.mono HWR.out.size)).cell (p := ⟨b2, o2 + k * 2, none⟩) hb2l).trans x0
      have z1 : ∀ w', Below wr.heap.size wr w' → w'.cell? ⟨b2, o2 + k * 2 + 1, none⟩ = some (.slice m.a m.q.d.length m.c) := fun w' h => ((HWR.out.trans (h.mono HWR.out.size)).cell (p := ⟨b2, o2 + k * 2 + 1, none⟩) hb2l).trans x1
      have z2 : ∀ w', Below wr.heap.size wr w' → w'.cell? ⟨w.heap.size, 1, none⟩ = some (.slice (some ⟨b2, o2, none⟩) pl cx) := fun w' h => (h.cell (p := ⟨w.heap.size, 1, none⟩) (by show w.heap.size < _; omega)).trans p1
      have z3 : ∀ w', Below wr.heap.size wr w' → w'.cell? ⟨w.heap.size, 0, none⟩ = some (.slice Y N cy) := fun w' h => (h.cell (p := ⟨w.heap.size, 0, none⟩) (by show w.heap.size < _; omega)).trans ((cell_of_row _ _ 0 _ _ _ HKR.out).trans rfl)
      have z4 : ∀ w', Below wr.heap.size wr w' → w'.frozen? ⟨w.heap.size, 0, none⟩ = false := fun w' h => frozen_of_row _ _ _ _ _ ((h.block _ (by omega)).trans HKR.out)
      have hqk : m.q.k ≤ 65536 := by have := hqo.2; omega
      have HAP : ∀ w', Below wr.heap.size wr w' → Hid (Calls Try.prog 57 #[.slice Y N cy, .agg #[.int .i64 (m.q.s : Int), .slice m.a m.q.d.length m.c], .int .i64 (cSv sv k m.q : Int)] w' fun e w'' => NewL w' (setB D.b (P.map (·.q)) (cSv sv) (k + 1)) e w'' ∧ Below wr.heap.size wr w'') := fun w' hb' => by
        have h1 := rapply_calls D.n Y cy _ m (cSv sv k m.q) w' (RB.below HRB.out hb') (HSL.out k) hn hqo (RB.below hm1 (HWR.out.trans (hb'.mono HWR.out.size))) (by have := clamp_le (zSv sv k) m.q.k; unfold cSv; omega)
        rw [show ap (setB D.b (P.map (·.q)) (cSv sv) k) m.q (cSv sv k m.q) = setB D.b (P.map (·.q)) (cSv sv) (k + 1) from HST.out.symm] at h1
        rw [HNN.out] at h1
        refine h1.mono fun e w'' h => ⟨h, ?_⟩
        obtain ⟨_, _, _, _, hb⟩ := h
        exact hb'.trans (hb.mono hb'.size)
      have HHY := HY.out
      have HDO : Hid (∀ w5 (Y5 : Option Addr) c5, w5.ownsRow wr.heap.size 5 1 (.slice Y5 N c5) N ((setB D.b (P.map (·.q)) (cSv sv) (k + 1)).map vb) → Below wr.heap.size wr w5 →
          ∃ (k' : Nat) (Y' : Option Addr) (cy' : Nat), k' ≤ pl ∧ Value.int .i64 ((k : Int) + 1) = .int .i64 k' ∧ (w5.setCell ⟨w.heap.size, 0, none⟩ (.slice Y5 N c5)).heap[w.heap.size]? = some (.cells #[.slice Y' N cy', .slice (some ⟨b2, o2, none⟩) pl cx, .bool D.x, .int .i64 D.f] 42) ∧ RB (w5.setCell ⟨w.heap.size, 0, none⟩ (.slice Y5 N c5)) Y' (setB D.b (P.map (·.q)) (cSv sv) k') ∧ N ≤ cy' ∧ cy' ≤ maxLen ∧ Chg [w.heap.size] w2 (w5.setCell ⟨w.heap.size, 0, none⟩ (.slice Y5 N c5)) ∧ ∀ b off, Y' = some ⟨b, off, none⟩ → (b ∈ N0 ∨ w.heap.size + 2 ≤ b) ∧ b < (w5.setCell ⟨w.heap.size, 0, none⟩ (.slice Y5 N c5)).heap.size) := by
        intro w5 Y5 c5 ho hb
        obtain ⟨_, _, e5, hn5, hm5, _, hr5⟩ := own_form ho
        cases e5
        have hcs : Chg [w.heap.size] w5 (w5.setCell ⟨w.heap.size, 0, none⟩ (.slice Y5 N c5)) := (Chg.refl [w.heap.size] w5).setCell (p := ⟨w.heap.size, 0, none⟩) (.inl (by simp)) _
        have hlt5 := fun b off (e : Y5 = some ⟨b, off, none⟩) => ho.lt b (by rw [e]; rfl)
        refine ⟨k + 1, Y5, c5, by omega, by go_num, heap_setCell_same _ _ _ _ _ _ ((hb.block _ (by omega)).trans HKR.out), hcs.rd hr5 (fun b off e => by have := (hlt5 b off e).1; simp; omega), hn5, hm5, (HC.out.trans' (Chg.of_below hb _)).trans' hcs, fun b off e => ?_⟩
        have := hlt5 b off e
        have := hcs.size
        exact ⟨.inr (by omega), by omega⟩
      have HL5 := Lib.hid (HSL.out (k + 1))
      have hq : (m.q.d.length : Int) / 64 = (m.q.k : Int) := by have := hqo.1; omega
      have hqt : Int.tdiv (m.q.d.length : Int) 64 = (m.q.k : Int) := by rw [Int.tdiv_eq_ediv_of_nonneg (by omega)]; exact hq
      have hqw : IntKind.i64.wrap (m.q.k : Int) = (m.q.k : Int) := by rw [IntKind.wrap_i64]; omega
      have hql : m.q.d.length ≤ 4194304 := by have := hqo.1; omega
      have HC0 : Hid (¬ k < zn → cSv sv k m.q = 0) := by show _ → _; intro h; unfold cSv; rw [zSv_ge sv k (by have := HZ.out; omega)]; unfold clamp; omega
      have HC9 : Hid (∀ z, sv[k]? = some z → (cSv sv k m.q : Int) = max 0 (min z (m.q.k : Int))) := by show ∀ _, _; intro z h; unfold cSv zSv; rw [h]; exact clamp_cast' z m.q.k
      clear hm1 hm2 hqo x0 hRd HST
      generalize cSv sv k m.q = cc at *
      generalize m.q.d.length = dl at *
      generalize m.q.k = kk at *
      generalize m.q.s = ms at *
      generalize m.a = ma at *
      generalize m.c = mc at *
      by_cases hz : k < zn
      · have d1 : decide ((k : Int) < (zn : Int)) = true := by simpa using hz
        have jz : (k : Int) < (zn : Int) := by omega
        obtain ⟨b3, o3, rfl, hb3, hc3⟩ := Rd.cells HZR.out (by have := HZ.out; simp; omega)
        have hks : k < sv.length := by have := HZ.out; omega
        have hx := hc3 k (.int .i64 sv[k]) (by simp [List.getElem?_eq_getElem hks])
        have HZZ := Lib.hid (HC9.out sv[k] (List.getElem?_eq_getElem hks))
        obtain ⟨z, HZK⟩ : ∃ x, Hid (sv[k] = x) := ⟨sv[k], rfl⟩
        rw [HZK.out] at hx HZZ
        have p3 : wr.cell? ⟨b3, o3 + k, none⟩ = some (.int .i64 z) := (HWR.out.cell (p := ⟨b3, o3 + k, none⟩) hb3).trans hx
        clear hc3 hx
        go_upto_region 6 with (fail)
        go_region
        rw [← HZZ.out]
        have hbq := below_drew wr
        generalize wr.drew = wq at *
        clear p2 p3 p1 HC0 HC9 hq hqt hqw HZZ HZK d1 jz
        go_upto_region 7 with (fail)
        have y0 := z0 wq (hbq); have y1 := z1 wq (hbq); have y2 := z2 wq (hbq); have y3 := z3 wq (hbq); go_region_law (go_simp; go_at_call 57; refine (HAP wq.drew (hbq.trans ((below_drew wq).mono hbq.size))).out.mono ?_; rintro e w5 ⟨⟨Y5, c5, rfl, ho5, hb5⟩, hs5⟩; have e2 := z3 w5 hs5; have f2 := z4 w5 hs5)
        all_goals
          rw [HL5.out, HNN.out] at ho5 ⊢
          have HD5 := Lib.hid (HDO.out w5 Y5 c5 (by first | exact ho5 | exact ho5.older hbq.size) hs5)
          clear ho5 hb5 hs5 y0 y1 y2 y3 z0 z1 z2 z3 z4 HAP HDO e2 f2
          generalize w5.setCell ⟨w.heap.size, 0, none⟩ (.slice Y5 N c5) = w6 at *
          go_wp2_with fail
          go_roundw
          case rel => exact HD5.out
          case measure => simp [intOf]; omega
      · have d1 : decide ((k : Int) < (zn : Int)) = false := by simpa using hz
        have hc0 := HC0.out hz
        subst hc0
        clear p2 HC0 HC9 hq hqt hqw
        go_upto_region 7 with (fail)
        clear p1
        have y0 := z0 wr (Below.refl _ _); have y1 := z1 wr (Below.refl _ _); have y2 := z2 wr (Below.refl _ _); have y3 := z3 wr (Below.refl _ _); go_region_law (go_simp; go_at_call 57; refine (HAP wr.drew (below_drew _)).out.mono ?_; rintro e w5 ⟨⟨Y5, c5, rfl, ho5, hb5⟩, hs5⟩; have e2 := z3 w5 hs5; have f2 := z4 w5 hs5)
        all_goals
          rw [HL5.out, HNN.out] at ho5 ⊢
          have HD5 := Lib.hid (HDO.out w5 Y5 c5 (by first | exact ho5 | exact ho5.older hbq.size) hs5)
          clear ho5 hb5 hs5 y0 y1 y2 y3 z0 z1 z2 z3 z4 HAP HDO e2 f2
          generalize w5.setCell ⟨w.heap.size, 0, none⟩ (.slice Y5 N c5) = w6 at *
          go_wp2_with fail
          go_roundw
          case rel => exact HD5.out
          case measure => simp [intOf]; omega
    · have HK : Hid (k = P.length) := by show _ = _; have := HPL.out; omega
      have q0 : wr.cell? ⟨w.heap.size, 0, none⟩ = some (.slice Y N cy) := (cell_of_row _ _ 0 _ _ _ HKR.out).trans rfl
      have zc0 : wr.cell? ⟨w.heap.size + 1, 0, none⟩ = some _ := (cell_of_row _ _ 0 _ _ _ HK2R.out).trans rfl; have zf0 : wr.frozen? ⟨w.heap.size + 1, 0, none⟩ = false := frozen_of_row _ _ _ _ _ HK2R.out; have zc1 : wr.cell? ⟨w.heap.size + 1, 1, none⟩ = some _ := (cell_of_row _ _ 1 _ _ _ HK2R.out).trans rfl; have zf1 : wr.frozen? ⟨w.heap.size + 1, 1, none⟩ = false := frozen_of_row _ _ _ _ _ HK2R.out; have zc2 : wr.cell? ⟨w.heap.size + 1, 2, none⟩ = some _ := (cell_of_row _ _ 2 _ _ _ HK2R.out).trans rfl; have zf2 : wr.frozen? ⟨w.heap.size + 1, 2, none⟩ = false := frozen_of_row _ _ _ _ _ HK2R.out; have zc3 : wr.cell? ⟨w.heap.size + 1, 3, none⟩ = some _ := (cell_of_row _ _ 3 _ _ _ HK2R.out).trans rfl; have zf3 : wr.frozen? ⟨w.heap.size + 1, 3, none⟩ = false := frozen_of_row _ _ _ _ _ HK2R.out
      go_wp2_with fail
      have hz2 := heap_set4 HK2R.out (.slice Y N cy) (.slice none 0 0) (.bool false) (.int .i64 (-1))
      have hc2 := chg_set4 wr (w.heap.size + 1) (.slice Y N cy) (.slice none 0 0) (.bool false) (.int .i64 (-1))
      refine bodyPost_ret (results_cell_row rfl _ _ (w.heap.size + 1) 42 _ (0, 0) _ rfl hz2 Try.underlying42 rfl size_dk) rfl ?_
      have hr := HRB.out
      rw [HK.out] at hr
      refine HFF.out N Y cy _ HNN.out (hc2.rd hr fun b off e => ?_) HCY.out HCM.out (fun b off e => ?_) (HWR.out.trans (hc2.below HWR.out.size (by simp)))
      · have := HY.out b off e
        rcases this.1 with h | h
        · have := HI.out.nl b h; simp; omega
        · simp; omega
      · have := HY.out b off e
        have h2 := hc2.size
        exact ⟨this.1.imp id fun h => by omega, by omega⟩
end Dk
end Go.Proofs.Ytmdpmpfjldgalaa

/- The law's pair: a disk with a journal, and their models; what a journal shows. -/
namespace Go.Proofs.Ytmdpmpfjldgalaa
open Go.RowKit
namespace Jn
open Dk Wi Wr

section
variable {w0 w w' : World} {F F' S : List Nat} {g q : Nat} {D : St} {j : Jr} {o : Option Jr} {p : Option Nat}
theorem JO.below (h : JO w0 F g q D j w) (hb : Below w.heap.size w w') : JO w0 F g q D j w' := by
  obtain ⟨W, R, h1, h2, h3, h4⟩ := h
  exact ⟨W, R, h1.below hb, h2.below hb, h3, h4⟩
theorem JO.grow (h : JO w0 F g q D j w) (hb : Below w.heap.size w w') (hF : ∀ y ∈ F', y ∈ F ∨ (w.heap.size ≤ y ∧ y < w'.heap.size)) : JO w0 F' g q D j w' := by
  obtain ⟨W, R, h1, h2, h3, h4⟩ := h
  have hl := h2.lt
  refine ⟨W, R, h1.grow hb (fun x hx => ?_), h2.below hb, fun x hx => ⟨(h3 x hx).1, fun hf => ?_⟩, fun x hx hf => ?_⟩
  · rcases List.mem_append.1 hx with hx | hx
    · exact .inl (by simp [hx])
    · rcases List.mem_append.1 hx with hx | hx
      · exact .inl (by simp [hx])
      · rcases hF x hx with h | h
        · exact .inl (by simp [h])
        · exact .inr h
  · rcases hF x hf with h | h
    · exact (h3 x hx).2 h
    · have := hl.1 x hx; omega
  · rcases hF x hf with h | h
    · exact h4 x hx h
    · have := hl.2.1 x hx; omega
theorem JO.wr (h : JO w0 F g q D j w) (hc : Chg S w w') (hS : ∀ x ∈ S, x ∈ F ∧ w0.heap.size ≤ x) : JO w0 F g q D j w' := by
  obtain ⟨W, R, h1, h2, h3, h4⟩ := h
  exact ⟨W, R, h1.wr hc (fun x hx => ⟨by simp [(hS x hx).1], (hS x hx).2⟩), h2.chg hc (fun x hx hm => (h3 x hm).2 (hS x hx).1) (fun x hx hm => h4 x hm (hS x hx).1), h3, h4⟩
theorem ownF_fail (h : OwnF w0 F g D w) (n : Int) (hn : n ≤ 9223372036854775807) :
    Calls Try.prog 26 #[.pointer (some ⟨g, 0, none⟩), .int .i64 n] w fun e w' => e = .returned (.tuple #[]) ∧ OwnF w0 F g (failD D n) w' ∧ Kept F w w' := by
  obtain ⟨M, E, h1, h2, h3, h4⟩ := h
  exact (failAfter_calls g M E D n w h1 hn).mono fun _ _ ⟨a, b, c⟩ => ⟨a, OwnF.dk h2 h3 h4 (DkP.of_g b h1.mg c)⟩
theorem JO.next {D' : St} (hW : OwnF w0 F' g D' w') (hk : Kept F' w w') (hh : half D' = half D) {W R : List Nat} (hF : F' = W ++ (R ++ F)) (h2 : IsJ w q g W R (half D) j) (h3 : ∀ x ∈ W, w0.heap.size ≤ x ∧ x ∉ F) (h4 : ∀ x ∈ R, x ∉ F) : JO w0 F g q D' j w' := by
  subst hF
  exact ⟨W, R, hW, by rw [hh]; exact h2.kept (fun x hx => hk x (by rcases List.mem_append.1 hx with hx | hx <;> simp [hx])), h3, h4⟩
theorem JO.fail_calls (h : JO w0 F g q D j w) (n : Int) (hn : n ≤ 9223372036854775807) :
    Calls Try.prog 26 #[.pointer (some ⟨g, 0, none⟩), .int .i64 n] w fun e w' => e = .returned (.tuple #[]) ∧ JO w0 F g q (failD D n) j w' ∧ Kept F w w' := by
  obtain ⟨W, R, h1, h2, h3, h4⟩ := h
  exact (ownF_fail h1 n hn).mono fun _ _ ⟨a, b, c⟩ => ⟨a, JO.next b c (by rfl) rfl h2 h3 h4, c.sub (fun x hx => by simp [hx])⟩
theorem JO.crash_calls (h : JO w0 F g q D j w) (Z : Option Addr) (zn zc : Nat) (sv : List Int) (hz : sv.length = zn) (hr : Rd w0 Z (sv.map (Value.int .i64))) :
    Calls Try.prog 21 #[.pointer (some ⟨g, 0, none⟩), .slice Z zn zc] w fun e w' => e = .returned (.tuple #[]) ∧ JO w0 F g q (crashD D sv) j w' ∧ Kept F w w' := by
  obtain ⟨W, R, h1, h2, h3, h4⟩ := h
  exact (ownF_crash h1 Z zn zc sv hz hr).mono fun _ _ ⟨a, b, c⟩ => ⟨a, JO.next b c (by rfl) rfl h2 h3 h4, c.sub (fun x hx => by simp [hx])⟩

/-- a disk, with a journal if it is open -/
def DJ (w0 : World) (F : List Nat) (g : Nat) (p : Option Nat) (D : St) (o : Option Jr) (w : World) : Prop :=
  (o = none ∧ p = none ∧ OwnF w0 F g D w) ∨ ∃ j q, o = some j ∧ p = some q ∧ JO w0 F g q D j w
theorem DJ.own (h : DJ w0 F g p D o w) : OwnF w0 F g D w := by
  rcases h with ⟨_, _, h⟩ | ⟨_, _, _, _, h⟩
  · exact h
  · exact h.own
theorem DJ.below (h : DJ w0 F g p D o w) (hb : Below w.heap.size w w') : DJ w0 F g p D o w' := by
  rcases h with ⟨h1, h2, h⟩ | ⟨j, q, h1, h2, h⟩
  · exact .inl ⟨h1, h2, h.below hb⟩
  · exact .inr ⟨j, q, h1, h2, h.below hb⟩
theorem DJ.grow (h : DJ w0 F g p D o w) (hb : Below w.heap.size w w') (hF : ∀ y ∈ F', y ∈ F ∨ (w.heap.size ≤ y ∧ y < w'.heap.size)) : DJ w0 F' g p D o w' := by
  rcases h with ⟨h1, h2, h⟩ | ⟨j, q, h1, h2, h⟩
  · exact .inl ⟨h1, h2, h.grow hb hF⟩
  · exact .inr ⟨j, q, h1, h2, h.grow hb hF⟩
theorem DJ.wr (h : DJ w0 F g p D o w) (hc : Chg S w w') (hS : ∀ x ∈ S, x ∈ F ∧ w0.heap.size ≤ x) : DJ w0 F g p D o w' := by
  rcases h with ⟨h1, h2, h⟩ | ⟨j, q, h1, h2, h⟩
  · exact .inl ⟨h1, h2, h.wr hc hS⟩
  · exact .inr ⟨j, q, h1, h2, h.wr hc hS⟩
theorem DJ.fail_calls (h : DJ w0 F g p D o w) (n : Int) (hn : n ≤ 9223372036854775807) :
    Calls Try.prog 26 #[.pointer (some ⟨g, 0, none⟩), .int .i64 n] w fun e w' => e = .returned (.tuple #[]) ∧ DJ w0 F g p (failD D n) o w' ∧ Kept F w w' := by
  rcases h with ⟨h1, h2, h⟩ | ⟨j, q, h1, h2, h⟩
  · exact (ownF_fail h n hn).mono fun _ _ ⟨a, b, c⟩ => ⟨a, .inl ⟨h1, h2, b⟩, c⟩
  · exact (h.fail_calls n hn).mono fun _ _ ⟨a, b, c⟩ => ⟨a, .inr ⟨j, q, h1, h2, b⟩, c⟩
theorem DJ.crash_calls (h : DJ w0 F g p D o w) (Z : Option Addr) (zn zc : Nat) (sv : List Int) (hz : sv.length = zn) (hr : Rd w0 Z (sv.map (Value.int .i64))) :
    Calls Try.prog 21 #[.pointer (some ⟨g, 0, none⟩), .slice Z zn zc] w fun e w' => e = .returned (.tuple #[]) ∧ DJ w0 F g p (crashD D sv) o w' ∧ Kept F w w' := by
  rcases h with ⟨h1, h2, h⟩ | ⟨j, q, h1, h2, h⟩
  · exact (ownF_crash h Z zn zc sv hz hr).mono fun _ _ ⟨a, b, c⟩ => ⟨a, .inl ⟨h1, h2, b⟩, c⟩
  · exact (h.crash_calls Z zn zc sv hz hr).mono fun _ _ ⟨a, b, c⟩ => ⟨a, .inr ⟨j, q, h1, h2, b⟩, c⟩
end

def jptr : Option Nat → Value
  | none => .pointer none
  | some q => .pointer (some ⟨q, 0, none⟩)
/-- the pair's cells -/
def bocells (g : Nat) (p : Option Nat) (D : St) (A : Option Addr) (ca : Nat) (X : Option Addr) (pl cx : Nat) (j : Jr) (sa : Option Addr) (sc : Nat) (ra : Option Addr) (rl rc : Nat) : Array Value :=
  #[.pointer (some ⟨g, 0, none⟩), jptr p, .slice A (64 * D.n) ca, .slice X pl cx, .bool D.x, .int .i64 D.f, .int .i64 (j.t : Int), .slice sa j.s.length sc, .slice ra rl rc, .int .i64 (j.e : Int), .bool j.x]
structure Bo' (w0 : World) (F : List Nat) (x : Nat) (D Dm : St) (o : Option Jr) (jm : Jr) (w : World) (g : Nat) (p : Option Nat) (N : List Nat) (A : Option Addr) (ca : Nat) (X : Option Addr) (cx : Nat) (P : List Pm) (sa : Option Addr) (sc : Nat) (ra : Option Addr) (rc : Nat) (ms : List Rm) : Prop where
  hd : w.heap[x]? = some (.cells (bocells g p Dm A ca X P.length cx jm sa sc ra ms.length rc) 49 (0, 0))
  m : IsW' w N Dm jm A ca X cx P sa sc ra rc ms
  xN : x ∉ N
  xl : w0.heap.size ≤ x
  xF : x ∉ F
  dj : DJ w0 (x :: (N ++ F)) g p D o w
/-- block x holds a disk with a journal, and their models; D and Dm are the disk's state and its model's -/
def Bo2 (w0 : World) (F : List Nat) (x : Nat) (D Dm : St) (o : Option Jr) (jm : Jr) (w : World) : Prop := ∃ g p N A ca X cx P sa sc ra rc ms, Bo' w0 F x D Dm o jm w g p N A ca X cx P sa sc ra rc ms
def Bo (w0 : World) (F : List Nat) (x : Nat) (D : St) (o : Option Jr) (jm : Jr) (w : World) : Prop := Bo2 w0 F x D D o jm w
section
variable {w0 w w' : World} {F F' : List Nat} {x : Nat} {D Dm : St} {o : Option Jr} {jm : Jr} {g : Nat} {p : Option Nat} {N : List Nat} {A : Option Addr} {ca : Nat} {X : Option Addr} {cx : Nat} {P : List Pm} {sa : Option Addr} {sc : Nat} {ra : Option Addr} {rc : Nat} {ms : List Rm}
theorem Bo'.lt (h : Bo' w0 F x D Dm o jm w g p N A ca X cx P sa sc ra rc ms) : x < w.heap.size := (Array.getElem?_eq_some_iff.1 h.hd).1
theorem Bo'.below (h : Bo' w0 F x D Dm o jm w g p N A ca X cx P sa sc ra rc ms) (hb : Below w.heap.size w w') : Bo' w0 F x D Dm o jm w' g p N A ca X cx P sa sc ra rc ms :=
  ⟨(hb.block _ h.lt).trans h.hd, h.m.kept (Kept.of_below h.m.k.nl hb), h.xN, h.xl, h.xF, h.dj.below hb⟩
theorem Bo'.grow (h : Bo' w0 F x D Dm o jm w g p N A ca X cx P sa sc ra rc ms) (hb : Below w.heap.size w w') (hF : ∀ y ∈ F', y ∈ F ∨ (w.heap.size ≤ y ∧ y < w'.heap.size)) : Bo' w0 F' x D Dm o jm w' g p N A ca X cx P sa sc ra rc ms :=
  ⟨(hb.block _ h.lt).trans h.hd, h.m.kept (Kept.of_below h.m.k.nl hb), h.xN, h.xl, fun hf => (by
    rcases hF x hf with h1 | h1
    · exact h.xF h1
    · have := h.lt; omega), h.dj.grow hb (fun y hy => by
      simp only [List.mem_cons, List.mem_append] at hy ⊢
      rcases hy with rfl | hy | hy
      · exact .inl (.inl rfl)
      · exact .inl (.inr (.inl hy))
      · exact (hF y hy).imp (fun h => .inr (.inr h)) id)⟩
theorem Bo2.below (h : Bo2 w0 F x D Dm o jm w) (hb : Below w.heap.size w w') : Bo2 w0 F x D Dm o jm w' := by
  obtain ⟨g, p, N, A, ca, X, cx, P, sa, sc, ra, rc, ms, h⟩ := h
  exact ⟨g, p, N, A, ca, X, cx, P, sa, sc, ra, rc, ms, h.below hb⟩
theorem Bo2.grow (h : Bo2 w0 F x D Dm o jm w) (hb : Below w.heap.size w w') (hF : ∀ y ∈ F', y ∈ F ∨ (w.heap.size ≤ y ∧ y < w'.heap.size)) : Bo2 w0 F' x D Dm o jm w' := by
  obtain ⟨g, p, N, A, ca, X, cx, P, sa, sc, ra, rc, ms, h⟩ := h
  exact ⟨g, p, N, A, ca, X, cx, P, sa, sc, ra, rc, ms, h.grow hb hF⟩
theorem Bo2.lt (h : Bo2 w0 F x D Dm o jm w) : x < w.heap.size ∧ w0.heap.size ≤ x ∧ x ∉ F ∧ (∀ y ∈ F, y < w.heap.size) ∧ Below w0.heap.size w0 w := by
  obtain ⟨g, p, N, A, ca, X, cx, P, sa, sc, ra, rc, ms, h⟩ := h
  exact ⟨h.lt, h.xl, h.xF, fun y hy => h.dj.own.lt y (by simp [hy]), h.dj.own.b⟩
end

/-- what seen leaves -/
def SeenP (w : World) (t : Nat) (s : List UInt8) (rs : List (List UInt8)) (e : Ending) (w' : World) : Prop :=
  ∃ v N, e = .returned v ∧ SmV w' N v t s rs ∧ Below w.heap.size w w' ∧ ∀ y ∈ N, w.heap.size ≤ y ∧ y < w'.heap.size
set_option maxRecDepth 100000 in
set_option maxHeartbeats 1000000 in
theorem seen_calls {gj g h : Nat} {W R : List Nat} {j : Jr} (w : World) (k : IsJ w gj g W R h j) (hh : h ≤ 100) : Calls Try.prog 24 #[.pointer (some ⟨gj, 0, none⟩)] w (SeenP w j.t j.s j.rs) := by
  have hb1 := below1 w (.cells #[.slice none 0 0, .slice none 0 0, .bool false, .int .i64 0, .int .i64 0, .slice none 0 0, .slice none 0 0, .int .i64 0, .bool false] 46)
  have hk1 := heap_alloc_new w (.cells #[.slice none 0 0, .slice none 0 0, .bool false, .int .i64 0, .int .i64 0, .slice none 0 0, .slice none 0 0, .int .i64 0, .bool false] 46)
  obtain ⟨w1, HW1⟩ : ∃ x, Hid (w.alloc (.cells #[.slice none 0 0, .slice none 0 0, .bool false, .int .i64 0, .int .i64 0, .slice none 0 0, .slice none 0 0, .int .i64 0, .bool false] 46) = x) := ⟨_, rfl⟩
  rw [HW1.out] at hb1 hk1
  have HB1 := Lib.hid hb1
  have HK1 := Lib.hid hk1
  have hs1 : w.heap.size < w1.heap.size := (Array.getElem?_eq_some_iff.1 hk1).1
  have HK := Lib.hid (k.below hb1)
  have HT := Lib.hid (turn_calls HK.out)
  have HS := Lib.hid (state_calls HK.out hh)
  clear k hb1 hk1
  go_enter Try.func24, Try.ntmps24
  go_upto_region 1 with (fail)
  rw [HW1.out]
  go_wp2_with fail
  (with_reducible refine HT.out.mono ?_)
  rintro e w2 ⟨rfl, rfl⟩
  go_wp2_with fail
  (with_reducible refine HS.out.mono ?_)
  rintro e w2 ⟨Y, c, k, rfl, hk, ho, hb2⟩
  have HB2 := Lib.hid hb2
  have HKL := Lib.hid hk
  have HO := Lib.hid ho
  have hs2 := hb2.size
  have HR := Lib.hid (records_calls (HK.out.below hb2) hh)
  clear hb2 hk ho
  go_wp2_with fail
  (with_reducible refine HR.out.mono ?_)
  rintro e w3 ⟨A, c3, ms, N, rfl, hrs, hrr, hN, hb3⟩
  have HB3 := Lib.hid hb3
  have HRS := Lib.hid hrs
  have HRR := Lib.hid hrr
  have HNN := Lib.hid hN
  have hz3 := Lib.hid ((hb3.block _ (by omega)).trans ((HB2.out.block _ hs1).trans HK1.out))
  have HF : Hid (SeenP w j.t j.s j.rs (.returned (.agg #[.slice none 0 0, .slice none 0 0, .bool false, .int .i64 0, .int .i64 (j.t : Int), .slice Y k c, .slice A ms.length c3, .int .i64 0, .bool false])) (((((((((w3.setCell ⟨w.heap.size, 0, none⟩ (.slice none 0 0)).setCell ⟨w.heap.size, 1, none⟩ (.slice none 0 0)).setCell ⟨w.heap.size, 2, none⟩ (.bool false)).setCell ⟨w.heap.size, 3, none⟩ (.int .i64 0)).setCell ⟨w.heap.size, 4, none⟩ (.int .i64 (j.t : Int))).setCell ⟨w.heap.size, 5, none⟩ (.slice Y k c)).setCell ⟨w.heap.size, 6, none⟩ (.slice A ms.length c3)).setCell ⟨w.heap.size, 7, none⟩ (.int .i64 0)).setCell ⟨w.heap.size, 8, none⟩ (.bool false))) := by
    have hcs := chg_set9 w3 w.heap.size (.slice none 0 0) (.slice none 0 0) (.bool false) (.int .i64 0) (.int .i64 (j.t : Int)) (.slice Y k c) (.slice A ms.length c3) (.int .i64 0) (.bool false)
    have hY : ∀ x ∈ bl Y, w1.heap.size ≤ x ∧ x < w2.heap.size := fun x hx => by
      obtain ⟨off, rfl⟩ := mem_bl hx
      have h := HO.out
      unfold OB at h
      rw [← HKL.out] at h
      exact own_cut (k := 0) (c' := c) h (by rw [cutA_zero])
    have hr := HO.out.rb
    have hk' := HKL.out
    subst hk'
    have hB : Below w.heap.size w w3 := HB1.out.trans ((HB2.out.trans (HB3.out.mono hs2)).mono HB1.out.size)
    have hsz := hcs.size
    have hs3 := HB3.out.size
    refine ⟨_, bl Y ++ N, rfl, ⟨_, _, _, _, Y, c, A, c3, ms, _, _, rfl, ?_, ?_, HRS.out⟩, hB.trans (hcs.below hB.size (by simp)), fun y hy => ?_⟩
    · refine InR.chg (InR.below ⟨hr.1, hr.2.2.1, hr.2.2.2, fun _ b off e => by rw [show Y = _ from e]; simp [bl]⟩ HB3.out) hcs (fun x hx hm => ?_)
      simp only [List.mem_singleton] at hx
      subst hx
      rcases List.mem_append.1 hm with hm | hm
      · have := (hY _ hm).1; omega
      · have := (HNN.out _ hm).1; omega
    · refine (HRR.out.sub (fun x hx => List.mem_append_right _ hx)).kept (fun x hx => hcs.block x ?_ (fun hm => ?_))
      · rcases List.mem_append.1 hx with hx | hx
        · have := (hY _ hx).2; omega
        · exact (HNN.out _ hx).2
      · simp only [List.mem_singleton] at hm
        subst hm
        rcases List.mem_append.1 hx with hx | hx
        · have := (hY _ hx).1; omega
        · have := (HNN.out _ hx).1; omega
    · rcases List.mem_append.1 hy with hy | hy
      · have := hY _ hy; omega
      · have := HNN.out _ hy; omega
  clear hb3 hrs hrr hN HR HS HT
  have zc0 : w3.cell? ⟨w.heap.size, 0, none⟩ = some _ := (cell_of_row _ _ 0 _ _ _ hz3.out).trans rfl; have zf0 : w3.frozen? ⟨w.heap.size, 0, none⟩ = false := frozen_of_row _ _ _ _ _ hz3.out; have zc1 : w3.cell? ⟨w.heap.size, 1, none⟩ = some _ := (cell_of_row _ _ 1 _ _ _ hz3.out).trans rfl; have zf1 : w3.frozen? ⟨w.heap.size, 1, none⟩ = false := frozen_of_row _ _ _ _ _ hz3.out; have zc2 : w3.cell? ⟨w.heap.size, 2, none⟩ = some _ := (cell_of_row _ _ 2 _ _ _ hz3.out).trans rfl; have zf2 : w3.frozen? ⟨w.heap.size, 2, none⟩ = false := frozen_of_row _ _ _ _ _ hz3.out; have zc3 : w3.cell? ⟨w.heap.size, 3, none⟩ = some _ := (cell_of_row _ _ 3 _ _ _ hz3.out).trans rfl; have zf3 : w3.frozen? ⟨w.heap.size, 3, none⟩ = false := frozen_of_row _ _ _ _ _ hz3.out; have zc4 : w3.cell? ⟨w.heap.size, 4, none⟩ = some _ := (cell_of_row _ _ 4 _ _ _ hz3.out).trans rfl; have zf4 : w3.frozen? ⟨w.heap.size, 4, none⟩ = false := frozen_of_row _ _ _ _ _ hz3.out; have zc5 : w3.cell? ⟨w.heap.size, 5, none⟩ = some _ := (cell_of_row _ _ 5 _ _ _ hz3.out).trans rfl; have zf5 : w3.frozen? ⟨w.heap.size, 5, none⟩ = false := frozen_of_row _ _ _ _ _ hz3.out; have zc6 : w3.cell? ⟨w.heap.size, 6, none⟩ = some _ := (cell_of_row _ _ 6 _ _ _ hz3.out).trans rfl; have zf6 : w3.frozen? ⟨w.heap.size, 6, none⟩ = false := frozen_of_row _ _ _ _ _ hz3.out; have zc7 : w3.cell? ⟨w.heap.size, 7, none⟩ = some _ := (cell_of_row _ _ 7 _ _ _ hz3.out).trans rfl; have zf7 : w3.frozen? ⟨w.heap.size, 7, none⟩ = false := frozen_of_row _ _ _ _ _ hz3.out; have zc8 : w3.cell? ⟨w.heap.size, 8, none⟩ = some _ := (cell_of_row _ _ 8 _ _ _ hz3.out).trans rfl; have zf8 : w3.frozen? ⟨w.heap.size, 8, none⟩ = false := frozen_of_row _ _ _ _ _ hz3.out
  go_wp2_with fail
  have hz := heap_set9 hz3.out (.slice none 0 0) (.slice none 0 0) (.bool false) (.int .i64 0) (.int .i64 (j.t : Int)) (.slice Y k c) (.slice A ms.length c3) (.int .i64 0) (.bool false)
  refine bodyPost_ret (results_cell_row rfl _ _ w.heap.size 46 _ (0, 0) _ rfl hz Try.underlying46 rfl size_jr) rfl ?_
  exact HF.out
end Jn
end Go.Proofs.Ytmdpmpfjldgalaa

/- The walk of the law's same. -/
namespace Go.Proofs.Ytmdpmpfjldgalaa
open Go.RowKit
namespace Jn
open Dk Wi Wr

set_option maxRecDepth 100000 in
set_option maxHeartbeats 4000000 in
theorem bsame_calls (w0 w : World) (F : List Nat) (x : Nat) (D : St) (o : Option Jr) (jm : Jr) (h : Bo w0 F x D o jm w) (hag : ∀ j, o = some j → jm = j) (hD : D.n ≤ 100) :
    Calls Try.prog 19 #[.pointer (some ⟨x, 0, none⟩)] w fun e w' => e = .returned (.bool true) ∧ Below w.heap.size w w' := by
  obtain ⟨g, p, N, A, ca, X, cx, P, sa, sc, ra, rc, ms, h⟩ := h
  have HB0 := Lib.hid h
  have hxl := h.lt
  have HDJ := Lib.hid h.dj
  have HO := Lib.hid h.dj.own
  have HHD := Lib.hid h.hd
  have HAG := Lib.hid hag
  have HM := Lib.hid h.m
  unfold bocells at HHD
  have HFA : ∀ u, Below w.heap.size w u → Hid (Calls Try.prog 45 #[.pointer (some ⟨g, 0, none⟩)] u fun e w' => e = .returned (.bool D.x) ∧ Below w.heap.size w w') := fun u hu => by
    obtain ⟨M, E, h1, _⟩ := HO.out
    exact (failed_calls g M E D u (h1.below hu)).mono fun e w' ⟨a, b⟩ => ⟨a, by rw [← b]; exact hu⟩
  have HSE : ∀ u, Below w.heap.size w u → Hid (Calls Try.prog 38 #[.pointer (some ⟨g, 0, none⟩)] u fun e w' => e = .returned (.int .i64 (D.n : Int)) ∧ Below w.heap.size w w') := fun u hu => by
    obtain ⟨M, E, h1, _⟩ := HO.out
    exact (sectors_calls g M E D u (h1.below hu)).mono fun e w' ⟨a, b⟩ => ⟨a, by rw [← b]; exact hu⟩
  have HRD : ∀ u, Below w.heap.size w u → Hid (Calls Try.prog 37 #[.pointer (some ⟨g, 0, none⟩), .int .i64 0, .int .i64 (D.n : Int)] u fun e w' => ∃ X n c, e = .returned (.tuple #[.slice X n c, .int .i64 (readE D 0 (D.n : Int))]) ∧ (readL D 0 (D.n : Int)).length = n ∧ RB w' X (readL D 0 (D.n : Int)) ∧ Below w.heap.size w w') := fun u hu => by
    refine (ownF_read (HO.out.below hu) 0 (D.n : Int) (by omega) (by omega)).mono ?_
    rintro e w' ⟨X, n, c, rfl, h1, h2, h3, _⟩
    exact ⟨X, n, c, rfl, h1.symm, RB.of_own h2, hu.trans (h3.mono hu.size)⟩
  have HRR : ∀ v u, Below w.heap.size w v → Below v.heap.size v u → Hid (Calls Try.prog 46 #[kval D A ca X cx P, .int .i64 0, .int .i64 (D.n : Int)] u fun e w' => ∃ X n c, e = .returned (.tuple #[.slice X n c, .int .i64 (readE D 0 (D.n : Int))]) ∧ (readL D 0 (D.n : Int)).length = n ∧ RB w' X (readL D 0 (D.n : Int)) ∧ Below v.heap.size v w') := fun v u hv hu => by
    refine (rread_calls _ N D 0 (D.n : Int) u ⟨_, _, _, _, _, rfl, HM.out.k.below (hv.trans (hu.mono hv.size))⟩ (by omega) (by omega)).mono ?_
    rintro e w' ⟨Y, n, c, rfl, h1, h2, h3, h4, h5, _⟩
    exact ⟨Y, n, c, rfl, h1.symm, h2, hu.trans (h5.mono hu.size)⟩
  unfold kval at HRR
  clear h hag
  obtain ⟨dn, HDN⟩ : ∃ y, Hid (D.n = y) := ⟨_, rfl⟩
  obtain ⟨NL, HNL⟩ : ∃ y, Hid (64 * D.n = y) := ⟨_, rfl⟩
  obtain ⟨pl, HPL⟩ : ∃ y, Hid (P.length = y) := ⟨_, rfl⟩
  obtain ⟨ml, HML⟩ : ∃ y, Hid (ms.length = y) := ⟨_, rfl⟩
  obtain ⟨sl, HSL⟩ : ∃ y, Hid (jm.s.length = y) := ⟨_, rfl⟩
  obtain ⟨dx, HDX⟩ : ∃ y, Hid (D.x = y) := ⟨_, rfl⟩
  rw [HNL.out, HPL.out, HML.out, HSL.out, HDX.out] at HHD
  rw [HNL.out, HPL.out, HDX.out] at HRR
  rw [HDN.out] at HSE HRD HRR
  rw [HDX.out] at HFA
  have en : (NL : Int) / 64 = (dn : Int) := by have h1 := HNL.out; have h2 := HDN.out; omega
  have en2 : Int.tdiv (NL : Int) 64 = (dn : Int) := by rw [Int.tdiv_eq_ediv_of_nonneg (by omega)]; exact en
  have wdn : IntKind.i64.wrap (dn : Int) = (dn : Int) := wi_nat (by have := HDN.out; omega)
  obtain ⟨L, HL⟩ : ∃ y, Hid (readL D 0 (dn : Int) = y) := ⟨_, rfl⟩
  obtain ⟨er, HER⟩ : ∃ y, Hid (readE D 0 (dn : Int) = y) := ⟨_, rfl⟩
  rw [HL.out, HER.out] at HRD HRR
  have hcell : ∀ u, Below w.heap.size w u → Hid (u.heap[x]? = _) := fun u hu => Lib.hid ((hu.block _ hxl).trans HHD.out)
  have c0 : ∀ u, Below w.heap.size w u → u.cell? ⟨x, 0, none⟩ = some (.pointer (some ⟨g, 0, none⟩)) := fun u hu => (cell_of_row _ _ 0 _ _ _ (hcell u hu).out).trans rfl
  have c1 : ∀ u, Below w.heap.size w u → u.cell? ⟨x, 1, none⟩ = some (jptr p) := fun u hu => (cell_of_row _ _ 1 _ _ _ (hcell u hu).out).trans rfl
  have c2 : ∀ u, Below w.heap.size w u → u.cell? ⟨x, 2, none⟩ = some (.slice A NL ca) := fun u hu => (cell_of_row _ _ 2 _ _ _ (hcell u hu).out).trans rfl
  have c3 : ∀ u, Below w.heap.size w u → u.cell? ⟨x, 3, none⟩ = some (.slice X pl cx) := fun u hu => (cell_of_row _ _ 3 _ _ _ (hcell u hu).out).trans rfl
  have c4 : ∀ u, Below w.heap.size w u → u.cell? ⟨x, 4, none⟩ = some (.bool dx) := fun u hu => (cell_of_row _ _ 4 _ _ _ (hcell u hu).out).trans rfl
  have c5 : ∀ u, Below w.heap.size w u → u.cell? ⟨x, 5, none⟩ = some (.int .i64 D.f) := fun u hu => (cell_of_row _ _ 5 _ _ _ (hcell u hu).out).trans rfl
  have dd : (dx != dx) = false := by simp
  go_enter Try.func19, Try.ntmps19
  go_upto_region 1 with (fail)
  go_region_held3 (fun w' => Below w.heap.size w w') (first | exact (Below.refl _ _).drew | assumption) ((go_at_call 45; (with_reducible refine (HFA _ (by assumption)).out.mono ?_); rintro e w1 ⟨rfl, hb1⟩))
  go_upto_region 3 with (fail)
  have HB1 : Below w.heap.size w w1 := hb1
  go_region_held3 (fun w' => Below w.heap.size w w') (first | exact HB1.drew | assumption) (first | (go_at_call 38; (with_reducible refine (HSE _ (by assumption)).out.mono ?_); rintro e w2 ⟨rfl, hb2⟩) | (go_at_call 37; (with_reducible refine (HRD _ (by assumption)).out.mono ?_); rintro e w3 ⟨Y, n, c, rfl, hn, hr, hb3⟩; have HNY := Lib.hid hn; have HRY := Lib.hid hr; clear hn hr))
  have HB3 : Below w.heap.size w w3 := hb3
  have HRY3 := HRY
  have HRR3 := fun u hu => HRR w3 u HB3 hu
  have b1 : ∀ u, Below w3.heap.size w3 u → Below w.heap.size w u := fun u hu => HB3.trans (hu.mono HB3.size)
  have e0 : ∀ u, Below w3.heap.size w3 u → u.cell? ⟨x, 0, none⟩ = some (.pointer (some ⟨g, 0, none⟩)) := fun u hu => c0 u (b1 u hu)
  have e1 : ∀ u, Below w3.heap.size w3 u → u.cell? ⟨x, 1, none⟩ = some (jptr p) := fun u hu => c1 u (b1 u hu)
  have e2 : ∀ u, Below w3.heap.size w3 u → u.cell? ⟨x, 2, none⟩ = some (.slice A NL ca) := fun u hu => c2 u (b1 u hu)
  have e3 : ∀ u, Below w3.heap.size w3 u → u.cell? ⟨x, 3, none⟩ = some (.slice X pl cx) := fun u hu => c3 u (b1 u hu)
  have e4 : ∀ u, Below w3.heap.size w3 u → u.cell? ⟨x, 4, none⟩ = some (.bool dx) := fun u hu => c4 u (b1 u hu)
  have e5 : ∀ u, Below w3.heap.size w3 u → u.cell? ⟨x, 5, none⟩ = some (.int .i64 D.f) := fun u hu => c5 u (b1 u hu)
  have HB1w := Lib.hid b1
  clear HRY HRR c0 c1 c2 c3 c4 c5 b1 HB1 hb1 hb2 hb3
  go_upto_region 4 with (fail)
  go_region_held3 (fun w' => Below w3.heap.size w3 w') (first | exact (Below.refl _ _).drew | assumption) ((go_at_call 46; (with_reducible refine (HRR3 _ (by assumption)).out.mono ?_); rintro e w4 ⟨Y2, n2, cy2, rfl, hn2, hr2, hb4⟩; have HNY2 := Lib.hid hn2; have HRY2 := Lib.hid hr2; clear hn2 hr2))
  have HB4 : Below w3.heap.size w3 w4 := hb4
  have z1 : (convert 29 9 (.slice Y n c)).run Try.prog w4 = .ok (.string ⟨L.toArray⟩) w4 := run_str (P := Try.prog) (w := w4) n c 29 5 9 Try.underlying29 Try.underlying5 Try.underlying9 HNY.out (RB.below HRY3.out HB4)
  have z2 : (convert 29 9 (.slice Y2 n2 cy2)).run Try.prog w4 = .ok (.string ⟨L.toArray⟩) w4 := run_str (P := Try.prog) (w := w4) n2 cy2 29 5 9 Try.underlying29 Try.underlying5 Try.underlying9 HNY2.out HRY2.out
  have dl : (L != L) = false := by simp
  have dl' : (L == L) = true := by simp
  have de : (er != er) = false := by simp
  have HBW4 := HB1w.out w4 HB4
  have f : ∀ u, Below w4.heap.size w4 u → Below w.heap.size w u := fun u hu => HBW4.trans (hu.mono HBW4.size)
  have HFW := Lib.hid f
  have hc1 := fun u hu => (cell_of_row _ _ 1 _ _ _ (hcell u (f u hu)).out)
  clear e0 e1 e2 e3 e4 e5 hb4 HRR3 HRD HSE HFA f
  rcases HDJ.out with ⟨ho, rfl, _⟩ | ⟨j, q, ho, rfl, hj⟩
  · have c1 : w4.cell? ⟨x, 1, none⟩ = some (.pointer none) := (hc1 w4 (Below.refl _ _)).trans rfl
    have HF : Hid (∀ z, Below w.heap.size w (w4.drewN z)) := fun z => below_drewN HBW4 z
    clear hc1
    go_upto_region 7 with (fail)
    go_quiet (fail)
    go_wp2_with fail
    go_ret
    exact ⟨rfl, HF.out _⟩
  · have hjm := HAG.out j ho
    subst hjm
    have HJ : Hid (IsV' w N D jm A ca X cx P sa sc ra rc ms) := ⟨HM.out.k, HM.out.st, HM.out.rr, HM.out.rs, by obtain ⟨_, _, _, hi, _⟩ := hj; exact hi.ok⟩
    have HSN : ∀ u, Below w4.heap.size w4 u → Hid (Calls Try.prog 24 #[.pointer (some ⟨q, 0, none⟩)] u fun e w' => ∃ v N, e = .returned v ∧ SmV w' N v jm.t jm.s jm.rs ∧ Below w4.heap.size w4 w') := fun u hu => by
      obtain ⟨W, R, _, hi, _⟩ := hj
      refine (seen_calls u (hi.below (HFW.out u hu)) (by unfold half; omega)).mono ?_
      rintro e w' ⟨v, N, rfl, h1, h2, _⟩
      exact ⟨v, N, rfl, h1, hu.trans (h2.mono hu.size)⟩
    have HRO : ∀ u, Below w4.heap.size w4 u → Hid (Calls Try.prog 25 #[.pointer (some ⟨q, 0, none⟩)] u fun e w' => e = .returned (.int .i64 ((half D - jm.e : Nat) : Int)) ∧ Below w4.heap.size w4 w') := fun u hu => by
      obtain ⟨W, R, ho2, hi, _⟩ := hj
      exact (room_calls (hi.below (HFW.out u hu)) (ho2.below (HFW.out u hu)) hD).mono fun e w' ⟨a, b⟩ => ⟨a, hu.trans (b.mono hu.size)⟩
    have HRM : ∀ u, Below w4.heap.size w4 u → Hid (Calls Try.prog 47 #[jval D A ca X P.length cx jm sa sc ra ms.length rc] u fun e w' => e = .returned (.int .i64 ((half D - jm.e : Nat) : Int)) ∧ Below w4.heap.size w4 w') := fun u hu =>
      (rroom_calls _ N D jm u (IsV.below ⟨_, _, _, _, _, _, _, _, _, _, rfl, HJ.out⟩ (HFW.out u hu)) hD).mono fun e w' ⟨a, b⟩ => ⟨a, hu.trans (b.mono hu.size)⟩
    have HSA : ∀ u v N', Below w4.heap.size w4 u → SmV u N' v jm.t jm.s jm.rs → Hid (Calls Try.prog 23 #[v, jval D A ca X P.length cx jm sa sc ra ms.length rc] u fun e w' => e = .returned (.bool true) ∧ Below w4.heap.size w4 w') := fun u v N' hu hv => by
      have hV : IsV u N (jval D A ca X P.length cx jm sa sc ra ms.length rc) D jm := IsV.below ⟨_, _, _, _, _, _, _, _, _, _, rfl, HJ.out⟩ (HFW.out u hu)
      have h1 : jm.rs.length ≤ 1000 := by have h1 := HJ.out.ok.r; have h2 := HJ.out.ok.e; unfold half at h2; omega
      refine (rsame_calls v _ N' N jm.t jm.t jm.s jm.s jm.rs jm.rs u hv hV.w.sm h1).mono ?_
      rintro e w' ⟨rfl, b⟩
      exact ⟨by rw [sameJ_yes ⟨rfl, rfl, rfl⟩], hu.trans (b.mono hu.size)⟩
    unfold jval at HRM HSA
    rw [HNL.out, HPL.out, HML.out, HSL.out, HDX.out] at HRM HSA
    generalize half D - jm.e = rm at *
    have HHQ : Hid (w.heap[x]? = some (.cells #[.pointer (some ⟨g, 0, none⟩), .pointer (some ⟨q, 0, none⟩), .slice A NL ca, .slice X pl cx, .bool dx, .int .i64 D.f, .int .i64 (jm.t : Int), .slice sa sl sc, .slice ra ml rc, .int .i64 (jm.e : Int), .bool jm.x] 49 (0, 0))) := HHD.out
    have HCX := Lib.hid (fun u hu => ((HFW.out u hu).block _ hxl).trans HHQ.out)
    have k0 : ∀ u, Below w4.heap.size w4 u → u.cell? ⟨x, 0, none⟩ = some (.pointer (some ⟨g, 0, none⟩)) := fun u hu => (cell_of_row _ _ 0 _ _ _ (HCX.out u hu)).trans rfl
    have k1 : ∀ u, Below w4.heap.size w4 u → u.cell? ⟨x, 1, none⟩ = some (.pointer (some ⟨q, 0, none⟩)) := fun u hu => (cell_of_row _ _ 1 _ _ _ (HCX.out u hu)).trans rfl
    have k2 : ∀ u, Below w4.heap.size w4 u → u.cell? ⟨x, 2, none⟩ = some (.slice A NL ca) := fun u hu => (cell_of_row _ _ 2 _ _ _ (HCX.out u hu)).trans rfl
    have k3 : ∀ u, Below w4.heap.size w4 u → u.cell? ⟨x, 3, none⟩ = some (.slice X pl cx) := fun u hu => (cell_of_row _ _ 3 _ _ _ (HCX.out u hu)).trans rfl
    have k4 : ∀ u, Below w4.heap.size w4 u → u.cell? ⟨x, 4, none⟩ = some (.bool dx) := fun u hu => (cell_of_row _ _ 4 _ _ _ (HCX.out u hu)).trans rfl
    have k5 : ∀ u, Below w4.heap.size w4 u → u.cell? ⟨x, 5, none⟩ = some (.int .i64 D.f) := fun u hu => (cell_of_row _ _ 5 _ _ _ (HCX.out u hu)).trans rfl
    have k6 : ∀ u, Below w4.heap.size w4 u → u.cell? ⟨x, 6, none⟩ = some (.int .i64 (jm.t : Int)) := fun u hu => (cell_of_row _ _ 6 _ _ _ (HCX.out u hu)).trans rfl
    have k7 : ∀ u, Below w4.heap.size w4 u → u.cell? ⟨x, 7, none⟩ = some (.slice sa sl sc) := fun u hu => (cell_of_row _ _ 7 _ _ _ (HCX.out u hu)).trans rfl
    have k8 : ∀ u, Below w4.heap.size w4 u → u.cell? ⟨x, 8, none⟩ = some (.slice ra ml rc) := fun u hu => (cell_of_row _ _ 8 _ _ _ (HCX.out u hu)).trans rfl
    have k9 : ∀ u, Below w4.heap.size w4 u → u.cell? ⟨x, 9, none⟩ = some (.int .i64 (jm.e : Int)) := fun u hu => (cell_of_row _ _ 9 _ _ _ (HCX.out u hu)).trans rfl
    have k10 : ∀ u, Below w4.heap.size w4 u → u.cell? ⟨x, 10, none⟩ = some (.bool jm.x) := fun u hu => (cell_of_row _ _ 10 _ _ _ (HCX.out u hu)).trans rfl
    have HFN : Hid (∀ u, Below w4.heap.size w4 u → Below w.heap.size w u) := HFW
    clear hj hc1 hcell
    go_upto_region 7 with (fail)
    go_region_held3 (fun w' => Below w4.heap.size w4 w') (first | exact (Below.refl _ _).drew | assumption) (first | (go_at_call 24; (with_reducible refine (HSN _ (by assumption)).out.mono ?_); rintro e w5 ⟨v5, N5, rfl, hv5, hb5⟩; have HV5 := Lib.hid hv5; clear hv5) | (go_at_call 23; (with_reducible refine (HSA w5 v5 N5 hb5 HV5.out).out.mono ?_); rintro e w6 ⟨rfl, hb6⟩) | (go_at_call 25; (with_reducible refine (HRO _ (by assumption)).out.mono ?_); rintro e w7 ⟨rfl, hb7⟩) | (go_at_call 47; (with_reducible refine (HRM _ (by assumption)).out.mono ?_); rintro e w8 ⟨rfl, hb8⟩))
    · have HF := Lib.hid (HFN.out w8 hb8)
      go_wp2_with fail
      go_ret
      exact ⟨rfl, HF.out⟩
end Jn
end Go.Proofs.Ytmdpmpfjldgalaa
