/- The walk of the law JournalTorn. -/
import Derived.Test.YtmdpmpfjldgalaaMJoP
import Derived.Test.YtmdpmpfjldgalaaMM
import Derived.Laws.Tables
namespace Go.Proofs.Ytmdpmpfjldgalaa
open Go.RowKit
namespace Jn
open Dk Wi Wr

theorem own_ge {w : World} {B n sz : Nat} {e : TypeId} {v : Value} {xs : List Value} (h : w.ownsRow B e sz v n xs) (b : Nat) (hb : v.ownBlock = some b) : B ≤ b := by
  rcases h.2 with ⟨rfl, rfl⟩ | ⟨g, cap, cur, rfl, hg, _⟩
  · cases hb
  · have : g = b := by simpa [Value.ownBlock] using hb
    omega
section
variable {ops : Array Oper} {o : Oper} {a : Act} {K : Act → World → Prop} {Q : Exit → Act → World → Prop} {E : Prop}
theorem opcells_one (ms : List Om) : ∀ u ∈ (ms.map Om.cells).flatten, u.oneCell' = true := by
  intro u hu
  obtain ⟨l, hl, hu⟩ := List.mem_flatten.1 hu
  obtain ⟨m, _, rfl⟩ := List.mem_map.1 hl
  simp only [Om.cells, List.mem_cons, List.not_mem_nil, or_false] at hu
  rcases hu with rfl | rfl | rfl | rfl <;> rfl
theorem opcells_len (ms : List Om) : (ms.map Om.cells).flatten.length = ms.length * 4 := by
  induction ms with
  | nil => rfl
  | cons m ms ih => simp only [List.map_cons, List.flatten_cons, List.length_append, ih, List.length_cons]; show 4 + _ = _; omega
/-- append onto a []Op of the call's own -/
theorem stepO (B : Nat) (w : World) (hgd : o.guard = none) (s x : Operand) (ho : o.op = .call { callee := .builtin .append, args := #[s, x], argTypes := #[22, 22] })
    (v : Value) (ns : Nat) (os ms : List Om) (hs : a.eval s = v) (hown : w.ownsRow B 32 4 v ns (os.map Om.cells).flatten)
    (A : Option Addr) (m c : Nat) (hx : a.eval x = .slice A m c) (hm : ms.length = m) (hr : Rd w A (ms.map Om.cells).flatten) (r : Nat) (er : ns + m = r) (hlen : r * 64 ≤ 140737488355328) (hB : B ≤ w.heap.size)
    (h : ∀ X cap w', Hid (w'.ownsRow B 32 4 (.slice X r cap) r ((os ++ ms).map Om.cells).flatten) → Hid (App w v w' (.slice X r cap)) → Hid (Below B w w') → Hid (Rd w' X ((os ++ ms).map Om.cells).flatten) → K (a.put o.dst (.slice X r cap)) w') :
    if Region.wanted o (yielded ops a.tmps) = true then Oper.wp Try.prog o a w K Q else E := by
  subst er
  exact step_appS w hgd s x _ ho B _ _ 4 64 Try.underlying22 info_op rfl (by omega) v ns _ hs hown A m c _ hx (by rw [opcells_len, hm]) hr (opcells_one ms) (by simp only [maxLen]; omega) hlen hB fun X cap w' h2 h3 => by
    have e : (os.map Om.cells).flatten ++ (ms.map Om.cells).flatten = ((os ++ ms).map Om.cells).flatten := by rw [List.map_append, List.flatten_append]
    rw [e] at h2
    obtain ⟨_, _, e0, _, _, _, hrd⟩ := own_formS h2
    cases e0
    exact h X cap w' h2 h3 ((h3.chg (fun b hb => Option.mem_toList.2 hb)).below hB (fun b hb => own_ge hown b (Option.mem_toList.1 hb))) hrd
/-- append onto a [][]byte of the call's own -/
theorem stepR (B : Nat) (w : World) (hgd : o.guard = none) (s x : Operand) (ho : o.op = .call { callee := .builtin .append, args := #[s, x], argTypes := #[44, 44] })
    (v : Value) (ns : Nat) (xs : List Value) (hs : a.eval s = v) (hown : w.ownsRow B 29 1 v ns xs)
    (A : Option Addr) (m c : Nat) (news : List Value) (hx : a.eval x = .slice A m c) (hm : news.length = m) (hr : Rd w A news) (h1 : ∀ u ∈ news, u.oneCell' = true) (r : Nat) (er : ns + m = r) (hlen : r ≤ 2000) (hB : B ≤ w.heap.size)
    (h : ∀ X cap w', Hid (w'.ownsRow B 29 1 (.slice X r cap) r (xs ++ news)) → Hid (App w v w' (.slice X r cap)) → Hid (Below B w w') → K (a.put o.dst (.slice X r cap)) w') :
    if Region.wanted o (yielded ops a.tmps) = true then Oper.wp Try.prog o a w K Q else E := by
  subst er
  exact step_appS w hgd s x _ ho B _ _ 1 24 Try.underlying44 info_sl rfl (by omega) v ns _ hs hown A m c _ hx (by omega) hr h1 (by simp only [maxLen]; omega) (by omega) hB fun X cap w' h2 h3 => h X cap w' h2 h3 ((h3.chg (fun b hb => Option.mem_toList.2 hb)).below hB (fun b hb => own_ge hown b (Option.mem_toList.1 hb)))
theorem own_made0 (w : World) (O : Obj) (e : TypeId) (sz : Nat) : ((w.alloc O).alloc (.cells #[] e)).ownsRow w.heap.size e sz (.slice (some ⟨w.heap.size + 1, 0, none⟩) 0 0) 0 [] :=
  ⟨by simp, .inr ⟨w.heap.size + 1, 0, #[], rfl, by omega, heap_alloc2_new w O _, Nat.le_refl _, Nat.zero_le _, by simp, by simp⟩⟩
theorem rd_row {w : World} {b : Nat} {cs : List Value} {e : TypeId} {fr : Nat × Nat} (hh : w.heap[b]? = some (.cells cs.toArray e fr)) : Rd w (some ⟨b, 0, none⟩) cs :=
  Rd.mk fun i u hu => by rw [Nat.zero_add, cell_of_row _ _ _ _ _ _ hh]; simpa using hu
end
theorem via_list {P : Program} {ops : Array Oper} {rest : List Oper} {K : Act → World → Prop} {Q : Exit → Act → World → Prop} (h : ∀ a w, wpList P ops Q rest a w → K a w) {a : Act} {w : World} (g : wpList P ops Q rest a w) : K a w := h a w g
theorem size_rj9 : (Try.prog.info? 46).map (·.size) = some 9 := by kernel_rfl
theorem chg_row (w : World) (R : Nat) (cs : Array Value) : Chg [R] w (w.setRow R cs) := (Chg.refl [R] w).setRow (.inl (by simp)) cs
set_option maxRecDepth 100000 in
set_option maxHeartbeats 200000000 in
theorem jtorn_law (w : World) (sb : UInt8) (A : Option Addr) (n ca : Nat) (ms : List Om) (hn : ms.length = n) (hr : RdO w A ms) (hnm : (n + 1) * 64 ≤ 140737488355328)
    (m0 : Om) (hm0 : m0.ok w) (hm1 : m0.d.length ≤ m0.c ∧ m0.c ≤ maxLen) (af : UInt8)
    (Z : Option Addr) (zn zc : Nat) (sv : List Int) (hz : sv.length = zn) (hrz : Rd w Z (sv.map (Value.int .i64))) (hzm : zn ≤ 9223372036854775807) :
    Calls Try.prog 6 #[vb sb, .slice A n ca, .agg m0.cells.toArray, vb af, .slice Z zn zc] w fun e w' => e = .returned (.bool true) ∧ Below w.heap.size w w' := by
  have HN := Lib.hid hn
  have HR := Lib.hid hr
  have HM0 := Lib.hid hm0
  have HZ := Lib.hid hz
  have HRZ := Lib.hid hrz
  have HLC := Lib.hid hm1
  clear hm1
  obtain ⟨kd, la, lc, ld, lnn, lz, lzc, lsv⟩ := m0
  simp only at HLC
  have hld := hm0.dl
  have hlz := hm0.zl
  simp only at hld hlz
  obtain ⟨dl, HDL⟩ : ∃ y, Hid (ld.length = y) := ⟨_, rfl⟩
  obtain ⟨zl, HZL⟩ : ∃ y, Hid (lsv.length = y) := ⟨_, rfl⟩
  rw [HDL.out] at hld
  rw [HZL.out] at hlz
  have hn9 : n ≤ 9223372036854775807 := by omega
  unfold Om.cells vb
  simp only [HDL.out, HZL.out]
  clear hn hr hm0 hz hrz
  have hb0 := below1 w (.cells #[.int .u8 (kd.toNat : Int), .slice la dl lc, .int .i64 lnn, .slice lz zl lzc] 32)
  have hx0 := heap_alloc_new w (.cells #[.int .u8 (kd.toNat : Int), .slice la dl lc, .int .i64 lnn, .slice lz zl lzc] 32)
  obtain ⟨w0, HW0⟩ : ∃ y, Hid (w.alloc (.cells #[.int .u8 (kd.toNat : Int), .slice la dl lc, .int .i64 lnn, .slice lz zl lzc] 32) = y) := ⟨_, rfl⟩
  rw [HW0.out] at hb0 hx0
  have HB0 := Lib.hid hb0
  have HX0 := Lib.hid hx0
  have hs0 : w.heap.size < w0.heap.size := (Array.getElem?_eq_some_iff.1 hx0).1
  have HR0 := Lib.hid (HR.out.below hb0)
  have HM1 := Lib.hid (HM0.out.below hb0)
  clear hb0 hx0
  go_enter Try.func6, Try.ntmps6
  go_upto_region 1 with (fail)
  rw [HW0.out]
  go_cut [32] (fun v wx => v = .bool (!fewO (ms ++ [Om.mk kd la lc ld lnn lz lzc lsv]) 21 || decide (10 < zn)) ∧ Below w0.heap.size w0 wx)
  case first => as_aux_lemma =>
    obtain ⟨fv, HFV⟩ : ∃ y, Hid (fewO (ms ++ [Om.mk kd la lc ld lnn lz lzc lsv]) 21 = y) := ⟨_, rfl⟩
    have e4 : ([Om.mk kd la lc ld lnn lz lzc lsv].map Om.cells).flatten = [.int .u8 (kd.toNat : Int), .slice la dl lc, .int .i64 lnn, .slice lz zl lzc] := by simp [Om.cells, HDL.out, HZL.out, vb]
    have HRN : Hid (∀ W : World, Rd (W.alloc (.cells #[.int .u8 (kd.toNat : Int), .slice la dl lc, .int .i64 lnn, .slice lz zl lzc] 32)) (some ⟨W.heap.size, 0, none⟩) ([Om.mk kd la lc ld lnn lz lzc lsv].map Om.cells).flatten) := fun W => by rw [e4]; exact Rd.new W [.int .u8 (kd.toNat : Int), .slice la dl lc, .int .i64 lnn, .slice lz zl lzc] _ _
    have HRQ : Hid (∀ (W : World) (b : Nat), W.heap[b]? = some (.cells #[.int .u8 (kd.toNat : Int), .slice la dl lc, .int .i64 lnn, .slice lz zl lzc] 32 (0, 0)) → Rd W (some ⟨b, 0, none⟩) ([Om.mk kd la lc ld lnn lz lzc lsv].map Om.cells).flatten) := fun W b hb => by rw [e4]; exact rd_row hb
    have HFC : ∀ u X cX, Below w0.heap.size w0 u → Rd u X ((ms ++ [Om.mk kd la lc ld lnn lz lzc lsv]).map Om.cells).flatten → Hid (Calls Try.prog 10 #[.slice X (n + 1) cX, .int .i64 21] u fun e w' => e = .returned (.bool fv) ∧ Below w0.heap.size w0 w') := fun u X cX hu hrd => by
      have h := ofew_calls X (n + 1) cX 21 (ms ++ [Om.mk kd la lc ld lnn lz lzc lsv]) u (by simp; exact HN.out) ⟨hrd, fun m hm => by
        rcases List.mem_append.1 hm with hm | hm
        · exact (HR0.out.ok m hm).below hu
        · simp only [List.mem_singleton] at hm
          subst hm
          exact HM1.out.below hu⟩ (by omega)
      rw [show ((21 : Nat) : Int) = 21 from rfl, HFV.out] at h
      exact h.mono fun _ _ ⟨a, b⟩ => ⟨a, hu.trans (b.mono hu.size)⟩
    have OW1 : (w0.alloc (.cells #[] 32)).ownsRow w0.heap.size 32 4 (.slice (some ⟨w0.heap.size, 0, none⟩) 0 0) 0 [] := World.ownsRow_made _ _ 0 (Nat.le_refl _) (by simp [maxLen]) rfl
    have OW2 : ((w0.alloc (.cells #[] 32)).alloc (.cells #[.int .u8 (kd.toNat : Int), .slice la dl lc, .int .i64 lnn, .slice lz zl lzc] 32)).ownsRow w0.heap.size 32 4 (.slice (some ⟨w0.heap.size, 0, none⟩) 0 0) 0 [] := own_belowS OW1 (below1 _ _)
    have OW3 : ((w0.alloc (.cells #[.int .u8 (kd.toNat : Int), .slice la dl lc, .int .i64 lnn, .slice lz zl lzc] 32)).alloc (.cells #[] 32)).ownsRow w0.heap.size 32 4 (.slice (some ⟨w0.heap.size + 1, 0, none⟩) 0 0) 0 [] := own_made0 w0 (.cells #[.int .u8 (kd.toNat : Int), .slice la dl lc, .int .i64 lnn, .slice lz zl lzc] 32) 32 4
    have RA : ∀ o, Rd (w0.alloc o) A (ms.map Om.cells).flatten := fun o => Rd.alloc HR0.out.rd _
    have RA2 : ∀ o o2, Rd ((w0.alloc o).alloc o2) A (ms.map Om.cells).flatten := fun o o2 => Rd.alloc (RA o) _
    have HOW1 := Lib.hid (own_belowS OW1 (Go.Proofs.Ytmdpmpfjldgalaa.below_drew _))
    have HOW2 := Lib.hid (own_belowS OW2 (Go.Proofs.Ytmdpmpfjldgalaa.below_drew _))
    have HOW3 := Lib.hid (own_belowS OW3 (Go.Proofs.Ytmdpmpfjldgalaa.below_drew _))
    have HRA := Lib.hid (fun o => Rd.below (RA o) (Go.Proofs.Ytmdpmpfjldgalaa.below_drew _))
    have HRA2 := Lib.hid (fun o o2 => Rd.below (RA2 o o2) (Go.Proofs.Ytmdpmpfjldgalaa.below_drew _))
    have hn64 : n * 64 ≤ 140737488355328 := by omega
    clear e4 OW1 OW2 OW3 RA RA2
    have kc0 : w0.cell? ⟨w.heap.size, 0, none⟩ = some _ := (cell_of_row _ _ 0 _ _ _ HX0.out).trans rfl; have kc1 : w0.cell? ⟨w.heap.size, 1, none⟩ = some _ := (cell_of_row _ _ 1 _ _ _ HX0.out).trans rfl; have kc2 : w0.cell? ⟨w.heap.size, 2, none⟩ = some _ := (cell_of_row _ _ 2 _ _ _ HX0.out).trans rfl; have kc3 : w0.cell? ⟨w.heap.size, 3, none⟩ = some _ := (cell_of_row _ _ 3 _ _ _ HX0.out).trans rfl
    have ka0 : ∀ o, (w0.alloc o).cell? ⟨w.heap.size, 0, none⟩ = some _ := fun o => (World.cell?_alloc_lt w0 o ⟨w.heap.size, 0, none⟩ hs0).trans kc0
    have ka1 : ∀ o, (w0.alloc o).cell? ⟨w.heap.size, 1, none⟩ = some _ := fun o => (World.cell?_alloc_lt w0 o ⟨w.heap.size, 1, none⟩ hs0).trans kc1
    have ka2 : ∀ o, (w0.alloc o).cell? ⟨w.heap.size, 2, none⟩ = some _ := fun o => (World.cell?_alloc_lt w0 o ⟨w.heap.size, 2, none⟩ hs0).trans kc2
    have ka3 : ∀ o, (w0.alloc o).cell? ⟨w.heap.size, 3, none⟩ = some _ := fun o => (World.cell?_alloc_lt w0 o ⟨w.heap.size, 3, none⟩ hs0).trans kc3
    have HEZ : Hid (decide ((10 : Int) < (zn : Int)) = decide (10 < zn)) := decide_eq_decide.2 (by omega)
    cases fv
    all_goals
      first
        | (go_region_law (first | (refine stepO w0.heap.size _ ?a1 (.tmp 20) (.tmp 21) ?a2 (.slice (some ⟨w0.heap.size, 0, none⟩) 0 0) 0 [] ms ?a3 ?a7 A n ca ?a4 HN.out ?a8 n ?a5 hn64 ?a6 ?_; (case a1 => rfl); (case a2 => rfl); (case a3 => rfl); (case a7 => exact HOW1.out); (case a4 => rfl); (case a8 => exact HRA.out (.cells #[] 32)); (case a5 => exact Nat.zero_add n); (case a6 => exact (below1 w0 (.cells #[] 32)).size); intro X9 c9 w9 HO9 HA9 HB9 HR9; have HB9w : Below w0.heap.size w0 w9 := Below.trans ((below1 w0 (.cells #[] 32))).drew HB9.out; have hs9 : w0.heap.size ≤ w9.heap.size := HB9w.size; have HX9 := Lib.hid ((HB9w.block _ hs0).trans HX0.out); have kb0 : w9.cell? ⟨w.heap.size, 0, none⟩ = some _ := (cell_of_row _ _ 0 _ _ _ HX9.out).trans rfl; have kb1 : w9.cell? ⟨w.heap.size, 1, none⟩ = some _ := (cell_of_row _ _ 1 _ _ _ HX9.out).trans rfl; have kb2 : w9.cell? ⟨w.heap.size, 2, none⟩ = some _ := (cell_of_row _ _ 2 _ _ _ HX9.out).trans rfl; have kb3 : w9.cell? ⟨w.heap.size, 3, none⟩ = some _ := (cell_of_row _ _ 3 _ _ _ HX9.out).trans rfl) | (refine stepO w0.heap.size _ ?a1 (.tmp 20) (.tmp 21) ?a2 (.slice (some ⟨w0.heap.size, 0, none⟩) 0 0) 0 [] ms ?a3 ?a7 A n ca ?a4 HN.out ?a8 n ?a5 hn64 ?a6 ?_; (case a1 => rfl); (case a2 => rfl); (case a3 => rfl); (case a7 => exact HOW2.out); (case a4 => rfl); (case a8 => exact HRA2.out (.cells #[] 32) (.cells #[.int .u8 (kd.toNat : Int), .slice la dl lc, .int .i64 lnn, .slice lz zl lzc] 32)); (case a5 => exact Nat.zero_add n); (case a6 => exact (below2 w0 (.cells #[] 32) (.cells #[.int .u8 (kd.toNat : Int), .slice la dl lc, .int .i64 lnn, .slice lz zl lzc] 32)).size); intro X9 c9 w9 HO9 HA9 HB9 HR9; have HB9w : Below w0.heap.size w0 w9 := Below.trans ((below2 w0 (.cells #[] 32) (.cells #[.int .u8 (kd.toNat : Int), .slice la dl lc, .int .i64 lnn, .slice lz zl lzc] 32))).drew HB9.out; have hs9 : w0.heap.size ≤ w9.heap.size := HB9w.size; have HRD9 : Hid (Rd w9 (some ⟨w0.heap.size + 1, 0, none⟩) ([Om.mk kd la lc ld lnn lz lzc lsv].map Om.cells).flatten) := HRQ.out _ _ (HA9.out.old (heap_alloc2_new w0 (.cells #[] 32) (.cells #[.int .u8 (kd.toNat : Int), .slice la dl lc, .int .i64 lnn, .slice lz zl lzc] 32)) (by simp [Value.ownBlock]))) | (refine stepO w0.heap.size _ ?a1 (.tmp 20) (.tmp 21) ?a2 (.slice (some ⟨w0.heap.size + 1, 0, none⟩) 0 0) 0 [] ms ?a3 ?a7 A n ca ?a4 HN.out ?a8 n ?a5 hn64 ?a6 ?_; (case a1 => rfl); (case a2 => rfl); (case a3 => rfl); (case a7 => exact HOW3.out); (case a4 => rfl); (case a8 => exact HRA2.out (.cells #[.int .u8 (kd.toNat : Int), .slice la dl lc, .int .i64 lnn, .slice lz zl lzc] 32) (.cells #[] 32)); (case a5 => exact Nat.zero_add n); (case a6 => exact (below2 w0 (.cells #[.int .u8 (kd.toNat : Int), .slice la dl lc, .int .i64 lnn, .slice lz zl lzc] 32) (.cells #[] 32)).size); intro X9 c9 w9 HO9 HA9 HB9 HR9; have HB9w : Below w0.heap.size w0 w9 := Below.trans ((below2 w0 (.cells #[.int .u8 (kd.toNat : Int), .slice la dl lc, .int .i64 lnn, .slice lz zl lzc] 32) (.cells #[] 32))).drew HB9.out; have hs9 : w0.heap.size ≤ w9.heap.size := HB9w.size; have HRD9 : Hid (Rd w9 (some ⟨w0.heap.size, 0, none⟩) ([Om.mk kd la lc ld lnn lz lzc lsv].map Om.cells).flatten) := HRQ.out _ _ (HA9.out.old (heap_fst w0 (.cells #[.int .u8 (kd.toNat : Int), .slice la dl lc, .int .i64 lnn, .slice lz zl lzc] 32) (.cells #[] 32)) (by simp [Value.ownBlock]))) | (refine stepO w0.heap.size _ ?a1 (.tmp 22) (.tmp 24) ?a2 (.slice X9 n c9) n ms [Om.mk kd la lc ld lnn lz lzc lsv] ?a3 ?a7 (some ⟨w9.heap.size, 0, none⟩) 1 1 ?a4 rfl ?a8 (n + 1) rfl hnm ?a6 ?_; (case a1 => rfl); (case a2 => rfl); (case a3 => rfl); (case a7 => exact own_belowS HO9.out (below1 w9 (.cells #[.int .u8 (kd.toNat : Int), .slice la dl lc, .int .i64 lnn, .slice lz zl lzc] 32))); (case a4 => rfl); (case a8 => exact HRN.out w9); (case a6 => exact Nat.le_trans hs9 (below1 w9 (.cells #[.int .u8 (kd.toNat : Int), .slice la dl lc, .int .i64 lnn, .slice lz zl lzc] 32)).size); intro X10 c10 w10 HO10 HA10 HB10 HR10; have HB10w : Below w0.heap.size w0 w10 := (HB9w.trans ((below1 w9 (.cells #[.int .u8 (kd.toNat : Int), .slice la dl lc, .int .i64 lnn, .slice lz zl lzc] 32)).mono hs9)).trans HB10.out) | (refine stepO w0.heap.size _ ?a1 (.tmp 22) (.tmp 24) ?a2 (.slice X9 n c9) n ms [Om.mk kd la lc ld lnn lz lzc lsv] ?a3 ?a7 (some ⟨w0.heap.size + 1, 0, none⟩) 1 1 ?a4 rfl ?a8 (n + 1) rfl hnm ?a6 ?_; (case a1 => rfl); (case a2 => rfl); (case a3 => rfl); (case a7 => exact HO9.out); (case a4 => rfl); (case a8 => exact HRD9.out); (case a6 => exact hs9); intro X10 c10 w10 HO10 HA10 HB10 HR10; have HB10w : Below w0.heap.size w0 w10 := HB9w.trans HB10.out) | (refine stepO w0.heap.size _ ?a1 (.tmp 22) (.tmp 24) ?a2 (.slice X9 n c9) n ms [Om.mk kd la lc ld lnn lz lzc lsv] ?a3 ?a7 (some ⟨w0.heap.size, 0, none⟩) 1 1 ?a4 rfl ?a8 (n + 1) rfl hnm ?a6 ?_; (case a1 => rfl); (case a2 => rfl); (case a3 => rfl); (case a7 => exact HO9.out); (case a4 => rfl); (case a8 => exact HRD9.out); (case a6 => exact hs9); intro X10 c10 w10 HO10 HA10 HB10 HR10; have HB10w : Below w0.heap.size w0 w10 := HB9w.trans HB10.out) | (go_simp; go_at_call 10; (with_reducible refine (HFC w10 X10 c10 HB10w HR10.out).out.mono ?_); rintro e w11 ⟨rfl, hb11⟩)))
        | skip
    all_goals
      have HG : Hid (Below w0.heap.size w0 w11) := hb11
      go_wp2_with fail
      go_meet
      exact ⟨by rw [HFV.out]; first | rfl | (rw [HEZ.out]; rfl), HG.out⟩
  case rest =>
  obtain ⟨rfl, hbw⟩ := hcut
  rename World => w1
  have HB1 := Lib.hid (HB0.out.trans (hbw.mono HB0.out.size))
  have HAW := Lib.hid (oawake_calls w1)
  obtain ⟨tv, HTV⟩ : ∃ y : Bool, Hid ((!fewO (ms ++ [Om.mk kd la lc ld lnn lz lzc lsv]) 21 || decide (10 < zn)) = y) := ⟨(!fewO (ms ++ [Om.mk kd la lc ld lnn lz lzc lsv]) 21 || decide (10 < zn)), rfl⟩
  rw [HTV.out]
  cases tv with
  | true =>
    clear hbw
    (go_wp2_with fail; (with_reducible refine HAW.out.mono ?_); rintro e w2 ⟨rfl, hb2⟩; have HF := Lib.hid (HB1.out.trans (hb2.mono HB1.out.size)); clear hb2; go_wp2_with fail; go_ret; exact ⟨rfl, HF.out⟩)
  | false =>
    have hf : fewO (ms ++ [Om.mk kd la lc ld lnn lz lzc lsv]) 21 = true ∧ ¬ 10 < zn := by have := HTV.out; simpa using this
    obtain ⟨hall, _⟩ := fewO_of hf.1
    have hdl : dl ≤ 400 := by rw [← HDL.out]; exact (hall (Om.mk kd la lc ld lnn lz lzc lsv) (by simp)).1
    have HPC := Lib.hid (play_calls w1 sb A n ca ms HN.out (HR0.out.below hbw) (fun m hm => (hall m (by simp [hm])).1) hn9)
    have HRZ1 := Lib.hid (Rd.below HRZ.out HB1.out)
    have HRL1 : Hid (RB w1 la ld) := RB.below HM1.out.rd hbw
    have hs1 : w.heap.size < w1.heap.size := Nat.lt_of_lt_of_le hs0 hbw.size
    have HX1 := Lib.hid ((hbw.block _ hs0).trans HX0.out)
    obtain ⟨t7, HT7⟩ : ∃ y, Hid (w.heap.size = y) := ⟨_, rfl⟩
    rw [HT7.out] at HX1 hs1
    rw [HT7.out]
    obtain ⟨k, HKK⟩ : ∃ y, Hid (af.toNat % 5 = y) := ⟨_, rfl⟩
    have hk5 : k < 5 := by have := HKK.out; omega
    have e5 : ((af.toNat : Int) % 5) = (k : Int) := by have := HKK.out; omega
    have wk : IntKind.i64.wrap (k : Int) = (k : Int) := wi_nat (by omega)
    obtain ⟨kk, HK2⟩ : ∃ y, Hid (kd.toNat % 2 = y) := ⟨_, rfl⟩
    have e2 : ((kd.toNat : Int) % 2) = (kk : Int) := by have := HK2.out; omega
    obtain ⟨pb, HPB⟩ : ∃ y, Hid (((kk : Int) == 0) = y) := ⟨_, rfl⟩
    have e3 : ((kk : Int) == 0) = pb := HPB.out
    clear hbw hf hall HAW
    go_wp2_with fail
    (with_reducible refine HPC.out.mono ?_)
    rintro e w2 ⟨x, N, hN2, hN41, rfl, hpb⟩
    obtain ⟨D, j, ⟨g, p, NM, A2, ca2, X2, cx2, P2, sa, sc, ra, rc, mr, h⟩, hp, hDn⟩ := hpb
    obtain ⟨q0, rfl⟩ : ∃ q, p = some q := by
      rcases h.dj with ⟨h1, _⟩ | ⟨_, q, _, h2, _⟩
      · cases h1
      · exact ⟨q, h2⟩
    clear hDn
    have HBO := Lib.hid h
    have HP := Lib.hid hp
    have hD : D.n ≤ 100 := hp.hn
    have HOP := Lib.hid (open_calls w1 w2 (x :: (NM ++ [])) g D h.dj.own hD hp.calm)
    have c0 : w2.cell? ⟨x, 0, none⟩ = some (.pointer (some ⟨g, 0, none⟩)) := (cell_of_row _ _ 0 _ _ _ h.hd).trans rfl
    clear h hp HPC
    go_wp2_with fail
    (with_reducible refine HOP.out.mono ?_)
    rintro e w3 ⟨hk3, ⟨ho3, _⟩ | ⟨j', q, ho3, rfl, hjo3⟩⟩
    · rw [HP.out.open.1] at ho3; cases ho3
    rw [HP.out.open.1] at ho3
    injection ho3 with ho3
    subst ho3
    rw [openE_some HP.out.open.1]
    rw [HP.out.open.2] at hjo3
    have HB4 := Lib.hid (HBO.out.setp hk3 (.inr ⟨j, q, rfl, rfl, hjo3⟩))
    rw [show jptr (some q) = .pointer (some ⟨q, 0, none⟩) from rfl] at HB4
    have HX3 := Lib.hid ((hk3 x (by simp)).trans HBO.out.hd)
    unfold bocells at HX3
    have d1 : w3.cell? ⟨x, 1, none⟩ = some _ := (cell_of_row _ _ 1 _ _ _ HX3.out).trans rfl
    have f1 : w3.frozen? ⟨x, 1, none⟩ = false := frozen_of_row _ _ _ _ _ HX3.out
    clear hjo3 hk3 c0 HOP HBO
    go_upto_region 7 with (fail)
    generalize w3.setCell ⟨x, 1, none⟩ (.pointer (some ⟨q, 0, none⟩)) = w4 at *
    clear d1 f1 HX3
    have HJ4 : Hid (JO w1 (x :: (NM ++ [])) g q D j w4) := by
      rcases HB4.out.dj with ⟨h1, _⟩ | ⟨j', q', h1, h2, h3⟩
      · cases h1
      · injection h1 with h1; subst h1; injection h2 with h2; subst h2; exact h3
    have HX4 := Lib.hid HB4.out.hd
    unfold bocells at HX4
    rw [show jptr (some q) = .pointer (some ⟨q, 0, none⟩) from rfl] at HX4
    have x1 : w4.cell? ⟨x, 1, none⟩ = some (.pointer (some ⟨q, 0, none⟩)) := (cell_of_row _ _ 1 _ _ _ HX4.out).trans rfl
    have HPJ4 : Hid (PJ w1 x g q (x :: (NM ++ [])) D j w4) := ⟨HJ4.out, (cell_of_row _ _ 0 _ _ _ HX4.out).trans rfl, x1, by simp⟩
    have HSN := Lib.hid (HPJ4.out.seenN hD)
    have HW4 : Hid (IsW w4 NM (.agg #[.slice A2 (64 * D.n) ca2, .slice X2 P2.length cx2, .bool D.x, .int .i64 D.f, .int .i64 (j.t : Int), .slice sa j.s.length sc, .slice ra mr.length rc, .int .i64 (j.e : Int), .bool j.x]) D j) := ⟨_, _, _, _, _, _, _, _, _, _, rfl, HB4.out.m⟩
    have HNM : Hid (∀ y ∈ NM, y ∈ x :: (NM ++ [])) := fun y hy => by simp [hy]
    clear HJ4
    go_wp2_with fail
    (with_reducible refine HSN.out.mono ?_)
    rintro e w5 ⟨sa5, sl5, sc5, ra5, rl5, rc5, N5, rfl, hv5, hb5, hN5⟩
    have HV5 := Lib.hid hv5
    have HB5 := Lib.hid hb5
    have HN5 := Lib.hid hN5
    obtain ⟨jt, HJT⟩ : ∃ y, Hid (j.t = y) := ⟨_, rfl⟩
    have hb6 := below1 w5 (.cells #[.slice none 0 0, .slice none 0 0, .bool false, .int .i64 0, .int .i64 (j.t : Int), .slice sa5 sl5 sc5, .slice ra5 rl5 rc5, .int .i64 0, .bool false] 46)
    have hx6 := heap_alloc_new w5 (.cells #[.slice none 0 0, .slice none 0 0, .bool false, .int .i64 0, .int .i64 (j.t : Int), .slice sa5 sl5 sc5, .slice ra5 rl5 rc5, .int .i64 0, .bool false] 46)
    clear hv5 hb5 hN5 x1 HSN
    go_upto_region 10 with (fail)
    generalize w5.alloc (.cells #[.slice none 0 0, .slice none 0 0, .bool false, .int .i64 0, .int .i64 (j.t : Int), .slice sa5 sl5 sc5, .slice ra5 rl5 rc5, .int .i64 0, .bool false] 46) = w6 at *
    have HB6 := Lib.hid hb6
    have HX6 := Lib.hid hx6
    have hs6 : w5.heap.size < w6.heap.size := (Array.getElem?_eq_some_iff.1 hx6).1
    obtain ⟨b3, HB3⟩ : ∃ y, Hid (w5.heap.size = y) := ⟨_, rfl⟩
    rw [HB3.out] at HX6 hs6
    rw [HB3.out]
    have hs46 : x < w6.heap.size := Nat.lt_of_lt_of_le HPJ4.out.xl (Nat.le_trans HB5.out.size HB6.out.size)
    have HXX6 := Lib.hid ((HB6.out.block x (Nat.lt_of_lt_of_le HPJ4.out.xl HB5.out.size)).trans ((HB5.out.block x HPJ4.out.xl).trans HX4.out))
    clear hb6 hx6
    go_cut [14, 15] (fun p4 p5 wx => ∃ b4 b5, p4 = .pointer (some ⟨b4, 0, none⟩) ∧ p5 = .pointer (some ⟨b5, 0, none⟩) ∧ TW w1 x g q (b3 :: b4 :: b5 :: (N5 ++ (x :: (NM ++ [])))) b3 b4 b5 D j ⟨j.t, j.s, j.rs⟩ ⟨j.t, j.s, j.rs⟩ D j wx ∧ Below w6.heap.size w6 wx ∧ w6.heap.size ≤ b4 ∧ w6.heap.size ≤ b5)
    case first => as_aux_lemma =>
      have lc0 : w6.cell? ⟨b3, 0, none⟩ = some _ := (cell_of_row _ _ 0 _ _ _ HX6.out).trans rfl; have lc1 : w6.cell? ⟨b3, 1, none⟩ = some _ := (cell_of_row _ _ 1 _ _ _ HX6.out).trans rfl; have lc2 : w6.cell? ⟨b3, 2, none⟩ = some _ := (cell_of_row _ _ 2 _ _ _ HX6.out).trans rfl; have lc3 : w6.cell? ⟨b3, 3, none⟩ = some _ := (cell_of_row _ _ 3 _ _ _ HX6.out).trans rfl; have lc4 : w6.cell? ⟨b3, 4, none⟩ = some _ := (cell_of_row _ _ 4 _ _ _ HX6.out).trans rfl; have lc5 : w6.cell? ⟨b3, 5, none⟩ = some _ := (cell_of_row _ _ 5 _ _ _ HX6.out).trans rfl; have lc6 : w6.cell? ⟨b3, 6, none⟩ = some _ := (cell_of_row _ _ 6 _ _ _ HX6.out).trans rfl; have lc7 : w6.cell? ⟨b3, 7, none⟩ = some _ := (cell_of_row _ _ 7 _ _ _ HX6.out).trans rfl; have lc8 : w6.cell? ⟨b3, 8, none⟩ = some _ := (cell_of_row _ _ 8 _ _ _ HX6.out).trans rfl
      have lac0 : ∀ o, (w6.alloc o).cell? ⟨b3, 0, none⟩ = some _ := fun o => (World.cell?_alloc_lt w6 o ⟨b3, 0, none⟩ hs6).trans lc0; have lac1 : ∀ o, (w6.alloc o).cell? ⟨b3, 1, none⟩ = some _ := fun o => (World.cell?_alloc_lt w6 o ⟨b3, 1, none⟩ hs6).trans lc1; have lac2 : ∀ o, (w6.alloc o).cell? ⟨b3, 2, none⟩ = some _ := fun o => (World.cell?_alloc_lt w6 o ⟨b3, 2, none⟩ hs6).trans lc2; have lac3 : ∀ o, (w6.alloc o).cell? ⟨b3, 3, none⟩ = some _ := fun o => (World.cell?_alloc_lt w6 o ⟨b3, 3, none⟩ hs6).trans lc3; have lac4 : ∀ o, (w6.alloc o).cell? ⟨b3, 4, none⟩ = some _ := fun o => (World.cell?_alloc_lt w6 o ⟨b3, 4, none⟩ hs6).trans lc4; have lac5 : ∀ o, (w6.alloc o).cell? ⟨b3, 5, none⟩ = some _ := fun o => (World.cell?_alloc_lt w6 o ⟨b3, 5, none⟩ hs6).trans lc5; have lac6 : ∀ o, (w6.alloc o).cell? ⟨b3, 6, none⟩ = some _ := fun o => (World.cell?_alloc_lt w6 o ⟨b3, 6, none⟩ hs6).trans lc6; have lac7 : ∀ o, (w6.alloc o).cell? ⟨b3, 7, none⟩ = some _ := fun o => (World.cell?_alloc_lt w6 o ⟨b3, 7, none⟩ hs6).trans lc7; have lac8 : ∀ o, (w6.alloc o).cell? ⟨b3, 8, none⟩ = some _ := fun o => (World.cell?_alloc_lt w6 o ⟨b3, 8, none⟩ hs6).trans lc8
      have lbc0 : ∀ o o2, ((w6.alloc o).alloc o2).cell? ⟨b3, 0, none⟩ = some _ := fun o o2 => (World.cell?_alloc_lt (w6.alloc o) o2 ⟨b3, 0, none⟩ (Nat.lt_trans hs6 (by simp))).trans (lac0 o); have lbc1 : ∀ o o2, ((w6.alloc o).alloc o2).cell? ⟨b3, 1, none⟩ = some _ := fun o o2 => (World.cell?_alloc_lt (w6.alloc o) o2 ⟨b3, 1, none⟩ (Nat.lt_trans hs6 (by simp))).trans (lac1 o); have lbc2 : ∀ o o2, ((w6.alloc o).alloc o2).cell? ⟨b3, 2, none⟩ = some _ := fun o o2 => (World.cell?_alloc_lt (w6.alloc o) o2 ⟨b3, 2, none⟩ (Nat.lt_trans hs6 (by simp))).trans (lac2 o); have lbc3 : ∀ o o2, ((w6.alloc o).alloc o2).cell? ⟨b3, 3, none⟩ = some _ := fun o o2 => (World.cell?_alloc_lt (w6.alloc o) o2 ⟨b3, 3, none⟩ (Nat.lt_trans hs6 (by simp))).trans (lac3 o); have lbc4 : ∀ o o2, ((w6.alloc o).alloc o2).cell? ⟨b3, 4, none⟩ = some _ := fun o o2 => (World.cell?_alloc_lt (w6.alloc o) o2 ⟨b3, 4, none⟩ (Nat.lt_trans hs6 (by simp))).trans (lac4 o); have lbc5 : ∀ o o2, ((w6.alloc o).alloc o2).cell? ⟨b3, 5, none⟩ = some _ := fun o o2 => (World.cell?_alloc_lt (w6.alloc o) o2 ⟨b3, 5, none⟩ (Nat.lt_trans hs6 (by simp))).trans (lac5 o); have lbc6 : ∀ o o2, ((w6.alloc o).alloc o2).cell? ⟨b3, 6, none⟩ = some _ := fun o o2 => (World.cell?_alloc_lt (w6.alloc o) o2 ⟨b3, 6, none⟩ (Nat.lt_trans hs6 (by simp))).trans (lac6 o); have lbc7 : ∀ o o2, ((w6.alloc o).alloc o2).cell? ⟨b3, 7, none⟩ = some _ := fun o o2 => (World.cell?_alloc_lt (w6.alloc o) o2 ⟨b3, 7, none⟩ (Nat.lt_trans hs6 (by simp))).trans (lac7 o); have lbc8 : ∀ o o2, ((w6.alloc o).alloc o2).cell? ⟨b3, 8, none⟩ = some _ := fun o o2 => (World.cell?_alloc_lt (w6.alloc o) o2 ⟨b3, 8, none⟩ (Nat.lt_trans hs6 (by simp))).trans (lac8 o)
      have mc0 : w6.cell? ⟨x, 0, none⟩ = some _ := (cell_of_row _ _ 0 _ _ _ HXX6.out).trans rfl; have mc1 : w6.cell? ⟨x, 1, none⟩ = some _ := (cell_of_row _ _ 1 _ _ _ HXX6.out).trans rfl; have mc2 : w6.cell? ⟨x, 2, none⟩ = some _ := (cell_of_row _ _ 2 _ _ _ HXX6.out).trans rfl; have mc3 : w6.cell? ⟨x, 3, none⟩ = some _ := (cell_of_row _ _ 3 _ _ _ HXX6.out).trans rfl; have mc4 : w6.cell? ⟨x, 4, none⟩ = some _ := (cell_of_row _ _ 4 _ _ _ HXX6.out).trans rfl; have mc5 : w6.cell? ⟨x, 5, none⟩ = some _ := (cell_of_row _ _ 5 _ _ _ HXX6.out).trans rfl; have mc6 : w6.cell? ⟨x, 6, none⟩ = some _ := (cell_of_row _ _ 6 _ _ _ HXX6.out).trans rfl; have mc7 : w6.cell? ⟨x, 7, none⟩ = some _ := (cell_of_row _ _ 7 _ _ _ HXX6.out).trans rfl; have mc8 : w6.cell? ⟨x, 8, none⟩ = some _ := (cell_of_row _ _ 8 _ _ _ HXX6.out).trans rfl; have mc9 : w6.cell? ⟨x, 9, none⟩ = some _ := (cell_of_row _ _ 9 _ _ _ HXX6.out).trans rfl; have mc10 : w6.cell? ⟨x, 10, none⟩ = some _ := (cell_of_row _ _ 10 _ _ _ HXX6.out).trans rfl
      have mac2 : ∀ o, (w6.alloc o).cell? ⟨x, 2, none⟩ = some _ := fun o => (World.cell?_alloc_lt w6 o ⟨x, 2, none⟩ hs46).trans mc2; have mac3 : ∀ o, (w6.alloc o).cell? ⟨x, 3, none⟩ = some _ := fun o => (World.cell?_alloc_lt w6 o ⟨x, 3, none⟩ hs46).trans mc3; have mac4 : ∀ o, (w6.alloc o).cell? ⟨x, 4, none⟩ = some _ := fun o => (World.cell?_alloc_lt w6 o ⟨x, 4, none⟩ hs46).trans mc4; have mac5 : ∀ o, (w6.alloc o).cell? ⟨x, 5, none⟩ = some _ := fun o => (World.cell?_alloc_lt w6 o ⟨x, 5, none⟩ hs46).trans mc5; have mac6 : ∀ o, (w6.alloc o).cell? ⟨x, 6, none⟩ = some _ := fun o => (World.cell?_alloc_lt w6 o ⟨x, 6, none⟩ hs46).trans mc6; have mac7 : ∀ o, (w6.alloc o).cell? ⟨x, 7, none⟩ = some _ := fun o => (World.cell?_alloc_lt w6 o ⟨x, 7, none⟩ hs46).trans mc7; have mac8 : ∀ o, (w6.alloc o).cell? ⟨x, 8, none⟩ = some _ := fun o => (World.cell?_alloc_lt w6 o ⟨x, 8, none⟩ hs46).trans mc8; have mac9 : ∀ o, (w6.alloc o).cell? ⟨x, 9, none⟩ = some _ := fun o => (World.cell?_alloc_lt w6 o ⟨x, 9, none⟩ hs46).trans mc9; have mac10 : ∀ o, (w6.alloc o).cell? ⟨x, 10, none⟩ = some _ := fun o => (World.cell?_alloc_lt w6 o ⟨x, 10, none⟩ hs46).trans mc10
      have mbc2 : ∀ o o2, ((w6.alloc o).alloc o2).cell? ⟨x, 2, none⟩ = some _ := fun o o2 => (World.cell?_alloc_lt (w6.alloc o) o2 ⟨x, 2, none⟩ (Nat.lt_trans hs46 (by simp))).trans (mac2 o); have mbc3 : ∀ o o2, ((w6.alloc o).alloc o2).cell? ⟨x, 3, none⟩ = some _ := fun o o2 => (World.cell?_alloc_lt (w6.alloc o) o2 ⟨x, 3, none⟩ (Nat.lt_trans hs46 (by simp))).trans (mac3 o); have mbc4 : ∀ o o2, ((w6.alloc o).alloc o2).cell? ⟨x, 4, none⟩ = some _ := fun o o2 => (World.cell?_alloc_lt (w6.alloc o) o2 ⟨x, 4, none⟩ (Nat.lt_trans hs46 (by simp))).trans (mac4 o); have mbc5 : ∀ o o2, ((w6.alloc o).alloc o2).cell? ⟨x, 5, none⟩ = some _ := fun o o2 => (World.cell?_alloc_lt (w6.alloc o) o2 ⟨x, 5, none⟩ (Nat.lt_trans hs46 (by simp))).trans (mac5 o); have mbc6 : ∀ o o2, ((w6.alloc o).alloc o2).cell? ⟨x, 6, none⟩ = some _ := fun o o2 => (World.cell?_alloc_lt (w6.alloc o) o2 ⟨x, 6, none⟩ (Nat.lt_trans hs46 (by simp))).trans (mac6 o); have mbc7 : ∀ o o2, ((w6.alloc o).alloc o2).cell? ⟨x, 7, none⟩ = some _ := fun o o2 => (World.cell?_alloc_lt (w6.alloc o) o2 ⟨x, 7, none⟩ (Nat.lt_trans hs46 (by simp))).trans (mac7 o); have mbc8 : ∀ o o2, ((w6.alloc o).alloc o2).cell? ⟨x, 8, none⟩ = some _ := fun o o2 => (World.cell?_alloc_lt (w6.alloc o) o2 ⟨x, 8, none⟩ (Nat.lt_trans hs46 (by simp))).trans (mac8 o); have mbc9 : ∀ o o2, ((w6.alloc o).alloc o2).cell? ⟨x, 9, none⟩ = some _ := fun o o2 => (World.cell?_alloc_lt (w6.alloc o) o2 ⟨x, 9, none⟩ (Nat.lt_trans hs46 (by simp))).trans (mac9 o); have mbc10 : ∀ o o2, ((w6.alloc o).alloc o2).cell? ⟨x, 10, none⟩ = some _ := fun o o2 => (World.cell?_alloc_lt (w6.alloc o) o2 ⟨x, 10, none⟩ (Nat.lt_trans hs46 (by simp))).trans (mac10 o)
      go_region
      all_goals first
        | (have HG := Lib.hid (TW.startA (T := ⟨j.t, j.s, j.rs⟩) HPJ4.out HB5.out HB6.out HB3.out HX6.out HN5.out HV5.out HW4.out HNM.out)
           have HGE : Hid (w6.heap.size ≤ w6.heap.size ∧ w6.heap.size ≤ w6.heap.size + 1) := ⟨Nat.le_refl _, Nat.le_succ _⟩
           go_wp2_with fail
           go_meet
           exact ⟨_, _, rfl, rfl, HG.out.1, HG.out.2, HGE.out.1, HGE.out.2⟩)
        | (have HG := Lib.hid (TW.startB (T := ⟨j.t, j.s, j.rs⟩) HPJ4.out HB5.out HB6.out HB3.out HX6.out HN5.out HV5.out HW4.out HNM.out)
           have HGE : Hid (w6.heap.size ≤ w6.heap.size + 1 ∧ w6.heap.size ≤ w6.heap.size) := ⟨Nat.le_succ _, Nat.le_refl _⟩
           go_wp2_with fail
           go_meet
           exact ⟨_, _, rfl, rfl, HG.out.1, HG.out.2, HGE.out.1, HGE.out.2⟩)
    case rest =>
    obtain ⟨b4, b5, rfl, rfl, htw, hb7, hl4, hl5⟩ := hcut
    rename World => w7
    have HTW7 := Lib.hid htw
    have HB47 := Lib.hid (HB5.out.trans ((HB6.out.mono HB5.out.size).trans (hb7.mono (Nat.le_trans HB5.out.size HB6.out.size))))
    have HX7 := Lib.hid ((HB47.out.block x HPJ4.out.xl).trans HX4.out)
    have HK7 : Hid (IsK' w7 NM D A2 ca2 X2 cx2 P2) := HB4.out.m.k.below HB47.out
    have HBS : Hid (∀ y ∈ NM, y ∉ [b3, b4, b5]) := fun y hy hm => by
      have h1 := HB4.out.m.k.nl y hy
      have h2 := HB5.out.size
      have h3 := HB6.out.size
      have h4 := HB3.out
      simp only [List.mem_cons, List.not_mem_nil, or_false] at hm
      rcases hm with rfl | rfl | rfl <;> omega
    have HFA := Lib.hid (htw.pj.fail_calls (k : Int) (by omega))
    have c7 := htw.pj.c0
    have HJK : Hid (j.ok (half D)) := HP.out.jok
    clear htw hb7 hl4 hl5 HB4 HX4 HPJ4 HW4 HV5 HB5 HN5 HB6 HX6 HXX6 hs6 hs46 HB47
    go_wp2_with fail
    (with_reducible refine HFA.out.mono ?_)
    rintro e w8 ⟨rfl, hpj8, hk8⟩
    have HTW8 := Lib.hid (HTW7.out.next hpj8 hk8)
    have HX8 := Lib.hid ((hk8 x (by simp)).trans HX7.out)
    have HK8 : Hid (IsK' w8 NM D A2 ca2 X2 cx2 P2) := HK7.out.kept' (hk8.sub (fun y hy => by simp [hy]))
    clear hpj8 hk8 c7 HFA HTW7 HX7 HK7
    have HRF := Lib.hid (rfail_calls (kval D A2 ca2 X2 cx2 P2) NM D (k : Int) w8 ⟨_, _, _, _, _, rfl, HK8.out⟩ (by omega))
    unfold kval at HRF
    obtain ⟨NL, HNL⟩ : ∃ y, Hid (64 * D.n = y) := ⟨_, rfl⟩
    obtain ⟨pl, HPL⟩ : ∃ y, Hid (P2.length = y) := ⟨_, rfl⟩
    rw [HNL.out, HPL.out] at HRF HX8
    have k2 : w8.cell? ⟨x, 2, none⟩ = some (.slice A2 NL ca2) := (cell_of_row _ _ 2 _ _ _ HX8.out).trans rfl
    have k3 : w8.cell? ⟨x, 3, none⟩ = some (.slice X2 pl cx2) := (cell_of_row _ _ 3 _ _ _ HX8.out).trans rfl
    have k4 : w8.cell? ⟨x, 4, none⟩ = some (.bool D.x) := (cell_of_row _ _ 4 _ _ _ HX8.out).trans rfl
    have k5 : w8.cell? ⟨x, 5, none⟩ = some (.int .i64 D.f) := (cell_of_row _ _ 5 _ _ _ HX8.out).trans rfl
    obtain ⟨y0, y1, y2, y3, y4, y5, y6, y7, y8, N8, hd8, hw8, hN8⟩ := HTW8.out.tv.v5
    obtain ⟨A8, ca8, X8, cx8, P8, sa8, sc8, ra8, rc8, ms8, hv8, hw8⟩ := hw8
    unfold jval at hv8
    simp only [Value.agg.injEq, Array.mk.injEq, List.cons.injEq, and_true] at hv8
    obtain ⟨rfl, rfl, rfl, rfl, rfl, rfl, rfl, rfl, rfl⟩ := hv8
    have HD8 := Lib.hid hd8
    have HW8 := Lib.hid hw8
    have HN8 := Lib.hid hN8
    clear hd8 hw8 hN8
    go_wp2_with fail
    (with_reducible refine HRF.out.mono ?_)
    rintro e w9 ⟨v9, N9, he9, ⟨A9, ca9, X9, cx9, P9, rfl, hk9⟩, hb9, hn9'⟩
    unfold kval id at he9
    have HTW9 := Lib.hid (HTW8.out.updD hb9 HD8.out HW8.out HN8.out hk9 (fun y hy => (hn9' y hy).imp (fun h => ⟨.inl (by simp [h]), HBS.out y h⟩) id) rfl rfl rfl rfl)
    have HZ9 := Lib.hid ((hb9.block b5 (Array.getElem?_eq_some_iff.1 HD8.out).1).trans HD8.out)
    obtain ⟨D1, HD1⟩ : ∃ y, Hid (failD D (k : Int) = y) := ⟨_, rfl⟩
    rw [HD1.out] at he9 HTW9
    obtain ⟨NL9, HNL9⟩ : ∃ y, Hid (64 * D1.n = y) := ⟨_, rfl⟩
    obtain ⟨pl9, HPL9⟩ : ∃ y, Hid (P9.length = y) := ⟨_, rfl⟩
    rw [HNL9.out, HPL9.out] at he9 HTW9
    subst he9
    have hD1 : D1.n ≤ 100 := by rw [← HD1.out]; exact hD
    have HC1 : Hid (Calm D1) := by rw [← HD1.out]; exact calm_fail HP.out.calm _ (by omega)
    have HH1 : Hid (half D1 = half D) := by rw [← HD1.out]; rfl
    clear hk9 hb9 hn9' k2 k3 k4 k5 HRF HTW8 HX8 HK8 HD8 HW8 HN8
    have z0 : w9.cell? ⟨b5, 0, none⟩ = some _ := (cell_of_row _ _ 0 _ _ _ HZ9.out).trans rfl
    have z1 : w9.cell? ⟨b5, 1, none⟩ = some _ := (cell_of_row _ _ 1 _ _ _ HZ9.out).trans rfl
    have z2 : w9.cell? ⟨b5, 2, none⟩ = some _ := (cell_of_row _ _ 2 _ _ _ HZ9.out).trans rfl
    have z3 : w9.cell? ⟨b5, 3, none⟩ = some _ := (cell_of_row _ _ 3 _ _ _ HZ9.out).trans rfl
    have g0 : w9.frozen? ⟨b5, 0, none⟩ = false := frozen_of_row _ _ _ _ _ HZ9.out
    have g1 : w9.frozen? ⟨b5, 1, none⟩ = false := frozen_of_row _ _ _ _ _ HZ9.out
    have g2 : w9.frozen? ⟨b5, 2, none⟩ = false := frozen_of_row _ _ _ _ _ HZ9.out
    have g3 : w9.frozen? ⟨b5, 3, none⟩ = false := frozen_of_row _ _ _ _ _ HZ9.out
    go_upto_region 13 with (fail)
    generalize (((w9.setCell ⟨b5, 0, none⟩ (.slice A9 NL9 ca9)).setCell ⟨b5, 1, none⟩ (.slice X9 pl9 cx9)).setCell ⟨b5, 2, none⟩ (.bool D1.x)).setCell ⟨b5, 3, none⟩ (.int .i64 D1.f) = w10 at *
    clear z0 z1 z2 z3 g0 g1 g2 g3 HZ9
    generalize fresh (N9 ++ N8) w8 ++ (b3 :: b4 :: b5 :: (N5 ++ (x :: (NM ++ [])))) = F1 at *
    have HX10 := Lib.hid ((HTW9.out.tv.b.block t7 hs1).trans HX1.out)
    have t0 : w10.cell? ⟨t7, 0, none⟩ = some (.int .u8 (kd.toNat : Int)) := (cell_of_row _ _ 0 _ _ _ HX10.out).trans rfl
    go_upto_if 89 with (fail)
    clear e5 wk e2
    go_cut [] (fun wx => ∃ F2 D2 j2 T2, Calm D2 ∧ D2.n ≤ 100 ∧ half D2 = half D ∧ TW w1 x g q F2 b3 b4 b5 D2 j2 ⟨j.t, j.s, j.rs⟩ T2 D2 j2 wx)
    case first => as_aux_lemma =>
      have hdr := Go.Proofs.Ytmdpmpfjldgalaa.below_drew w10
      have x1 : w10.cell? ⟨x, 1, none⟩ = some (.pointer (some ⟨q, 0, none⟩)) := HTW9.out.pj.c1
      have hxl : x < w10.heap.size := HTW9.out.pj.xl
      have htl : t7 < w10.heap.size := (Array.getElem?_eq_some_iff.1 HX10.out).1
      have z1 : ∀ u, Kept [x, t7] w10 u → u.cell? ⟨x, 1, none⟩ = some (.pointer (some ⟨q, 0, none⟩)) := fun u hu => (World.cell?_of_block (a := ⟨x, 1, none⟩) (hu x (by simp))).trans x1
      have z2 : ∀ u, Kept [x, t7] w10 u → u.cell? ⟨t7, 1, none⟩ = some (.slice la dl lc) := fun u hu => (World.cell?_of_block (a := ⟨t7, 1, none⟩) (hu _ (by simp))).trans ((cell_of_row _ _ 1 _ _ _ HX10.out).trans rfl)
      have hkd : Kept [x, t7] w10 w10.drew := Kept.of_below (by intro y hy; simp only [List.mem_cons, List.not_mem_nil, or_false] at hy; rcases hy with rfl | rfl <;> assumption) hdr
      have HTD := Lib.hid (HTW9.out.below hdr)
      have HKX : Hid (∀ u j' D', PJ w1 x g q F1 D' j' u → Kept F1 w10.drew u → Kept [x, t7] w10 u) := fun u j' D' hp hk => hkd.trans (fun y hy => by
        simp only [List.mem_cons, List.not_mem_nil, or_false] at hy
        rcases hy with rfl | rfl
        · exact hk _ hp.xF
        · exact (hp.b.block _ hs1).trans ((HTD.out.tv.b.block _ hs1).symm))
      cases pb with
      | true =>
        have HAC := Lib.hid (HTD.out.pj.append_calls la dl lc ld HDL.out (by omega) HRL1.out hD1 HC1.out)
        go_upto_region 14 with (fail)
        go_region_held3 (fun w' => Kept [x, t7] w10 w') (first | exact hkd | assumption) ((go_at_call 28; (with_reducible refine HAC.out.mono ?_); rintro e w11 ⟨rfl, hpj, hk2⟩; have hs2 : Kept [x, t7] w10 w11 := HKX.out _ _ _ hpj hk2; have HTW11 := Lib.hid (HTD.out.next hpj hk2); clear hpj hk2))
        clear z1 z2 hkd hs2 HAC HTD HKX x1 t0 hdr HTW9 hxl htl
        have HX11 := Lib.hid ((HTW11.out.tv.b.block t7 hs1).trans HX1.out)
        go_upto_region 15 with (fail)
        go_cut [] (fun wx => ∃ F2 T2, TW w1 x g q F2 b3 b4 b5 (appD D1 j ld) (appJ D1 j ld) ⟨j.t, j.s, j.rs⟩ T2 D1 j wx)
        case first => as_aux_lemma =>
          obtain ⟨_, _, _, _, _, _, _, _, _, N3, hd3, hs3, hN3⟩ := HTW11.out.tv.v3
          obtain ⟨_, _, _, _, sa3, sc3, ra3, rc3, ms3, _, _, hv3, _, hr3, hrs3⟩ := hs3
          simp only [Value.agg.injEq, Array.mk.injEq, List.cons.injEq, and_true] at hv3
          obtain ⟨rfl, rfl, rfl, rfl, rfl, rfl, rfl, rfl, rfl⟩ := hv3
          obtain ⟨_, _, _, _, _, _, _, _, _, N4, hd4, hs4, hN4⟩ := HTW11.out.tv.v4
          obtain ⟨_, _, _, _, sa4, sc4, ra4, rc4, ms4, _, _, hv4, hst4, _, _⟩ := hs4
          simp only [Value.agg.injEq, Array.mk.injEq, List.cons.injEq, and_true] at hv4
          obtain ⟨rfl, rfl, rfl, rfl, rfl, rfl, rfl, rfl, rfl⟩ := hv4
          obtain ⟨NLd, hNLd, hNLl⟩ := arg_inR HRL1.out HLC.out.1 HLC.out.2
          have HR3 := Lib.hid hr3
          have HD4 := Lib.hid hd4
          have hb411 : b4 < w11.heap.size := (Array.getElem?_eq_some_iff.1 hd4).1
          have hb311 : b3 < w11.heap.size := (Array.getElem?_eq_some_iff.1 hd3).1
          have ht11 : t7 < w11.heap.size := (Array.getElem?_eq_some_iff.1 HX11.out).1
          obtain ⟨ml3, HML3⟩ : ∃ y, Hid (ms3.length = y) := ⟨_, rfl⟩
          have hml : ml3 ≤ 1000 := by
            have h1 := congrArg List.length hrs3
            rw [List.length_map, HML3.out] at h1
            have h2 := HJK.out.r
            have h3 := HJK.out.e
            have h4 : half D ≤ 50 := by unfold half; omega
            have h5 : (Tr.mk j.t j.s j.rs).rs.length = j.rs.length := rfl
            omega
          have HPU : Hid (∀ X10 c10 w10, Below w11.heap.size w11 w10 → w10.ownsRow w11.heap.size 29 1 (.slice X10 (ml3 + 1) c10) (ml3 + 1) (ms3.map rval ++ [.slice la dl lc]) → ∃ F2 T2, TW w1 x g q F2 b3 b4 b5 (appD D1 j ld) (appJ D1 j ld) ⟨j.t, j.s, j.rs⟩ T2 D1 j (w10.setCell ⟨b4, 6, none⟩ (.slice X10 (ml3 + 1) c10))) := fun X10 c10 w10 hb ho => by
            rw [← HML3.out] at ho ⊢
            exact HTW11.out.push4 hb hd4 hst4 hN4 hr3 hN3 hNLd hNLl (by rw [HDL.out]) ho
          rw [HML3.out] at hd3
          have r6 : w11.cell? ⟨b3, 6, none⟩ = some (.slice ra3 ml3 rc3) := (cell_of_row _ _ 6 _ _ _ hd3).trans rfl
          have r6a : ∀ o, (w11.alloc o).cell? ⟨b3, 6, none⟩ = some (.slice ra3 ml3 rc3) := fun o => (World.cell?_alloc_lt w11 o ⟨b3, 6, none⟩ hb311).trans r6
          have r6b : ∀ o o2, ((w11.alloc o).alloc o2).cell? ⟨b3, 6, none⟩ = some (.slice ra3 ml3 rc3) := fun o o2 => (World.cell?_alloc_lt (w11.alloc o) o2 ⟨b3, 6, none⟩ (Nat.lt_trans hb311 (by simp))).trans (r6a o)
          have q1 : w11.cell? ⟨t7, 1, none⟩ = some (.slice la dl lc) := (cell_of_row _ _ 1 _ _ _ HX11.out).trans rfl
          have q1a : ∀ o, (w11.alloc o).cell? ⟨t7, 1, none⟩ = some (.slice la dl lc) := fun o => (World.cell?_alloc_lt w11 o ⟨t7, 1, none⟩ ht11).trans q1
          have HMLR : Hid ((ms3.map rval).length = ml3) := by show _ = _; rw [List.length_map]; exact HML3.out
          have hml2 : ml3 ≤ 2000 := by omega
          have hml3 : ml3 + 1 ≤ 2000 := by omega
          have OW1 : (w11.alloc (.cells #[] 29)).ownsRow w11.heap.size 29 1 (.slice (some ⟨w11.heap.size, 0, none⟩) 0 0) 0 [] := own_empty w11.heap.size 29 w11 w11.heap.size rfl (Nat.le_refl _)
          have HOW1 := Lib.hid (own_below OW1 (Go.Proofs.Ytmdpmpfjldgalaa.below_drew _))
          have HOW2 := Lib.hid (own_below (own_below OW1 (below1 _ (.cells #[.slice la dl lc] 29))) (Go.Proofs.Ytmdpmpfjldgalaa.below_drew _))
          have HOW3 := Lib.hid (own_below (own_made0 w11 (.cells #[.slice la dl lc] 29) 29 1) (Go.Proofs.Ytmdpmpfjldgalaa.below_drew _))
          have HRA := Lib.hid (fun o => Rd.below (Rd.alloc HR3.out.rd o) (Go.Proofs.Ytmdpmpfjldgalaa.below_drew _))
          have HRA2 := Lib.hid (fun o o2 => Rd.below (Rd.alloc (Rd.alloc HR3.out.rd o) o2) (Go.Proofs.Ytmdpmpfjldgalaa.below_drew _))
          clear hd3 hr3 hrs3 hN3 hd4 hst4 hN4 hNLd hNLl OW1 hml
          go_region_law (first | (refine stepR w11.heap.size _ ?a1 (.tmp 97) (.tmp 99) ?a2 (.slice (some ⟨w11.heap.size, 0, none⟩) 0 0) 0 [] ?a3 ?a7 ra3 ml3 rc3 (ms3.map rval) ?a4 HMLR.out ?a8 (rval_one ms3) ml3 ?a5 hml2 ?a6 ?_; (case a1 => rfl); (case a2 => rfl); (case a3 => rfl); (case a7 => exact HOW1.out); (case a4 => rfl); (case a8 => exact HRA.out (.cells #[] 29)); (case a5 => exact Nat.zero_add ml3); (case a6 => exact (below1 w11 (.cells #[] 29)).size); intro X9 c9 w9 HO9 HA9 HB9; have HB9w : Below w11.heap.size w11 w9 := Below.trans (below1 w11 (.cells #[] 29)).drew HB9.out; have hs9 : w11.heap.size ≤ w9.heap.size := HB9w.size; have HX9 := Lib.hid ((HB9w.block _ ht11).trans HX11.out); have kb1 : w9.cell? ⟨t7, 1, none⟩ = some _ := (cell_of_row _ _ 1 _ _ _ HX9.out).trans rfl) | (refine stepR w11.heap.size _ ?a1 (.tmp 97) (.tmp 99) ?a2 (.slice (some ⟨w11.heap.size, 0, none⟩) 0 0) 0 [] ?a3 ?a7 ra3 ml3 rc3 (ms3.map rval) ?a4 HMLR.out ?a8 (rval_one ms3) ml3 ?a5 hml2 ?a6 ?_; (case a1 => rfl); (case a2 => rfl); (case a3 => rfl); (case a7 => exact HOW2.out); (case a4 => rfl); (case a8 => exact HRA2.out (.cells #[] 29) (.cells #[.slice la dl lc] 29)); (case a5 => exact Nat.zero_add ml3); (case a6 => exact (below2 w11 (.cells #[] 29) (.cells #[.slice la dl lc] 29)).size); intro X9 c9 w9 HO9 HA9 HB9; have HB9w : Below w11.heap.size w11 w9 := Below.trans (below2 w11 (.cells #[] 29) (.cells #[.slice la dl lc] 29)).drew HB9.out; have hs9 : w11.heap.size ≤ w9.heap.size := HB9w.size; have HRD9 : Hid (Rd w9 (some ⟨w11.heap.size + 1, 0, none⟩) [.slice la dl lc]) := rd_row (HA9.out.old (heap_alloc2_new w11 (.cells #[] 29) (.cells #[.slice la dl lc] 29)) (by simp [Value.ownBlock]))) | (refine stepR w11.heap.size _ ?a1 (.tmp 97) (.tmp 99) ?a2 (.slice (some ⟨w11.heap.size + 1, 0, none⟩) 0 0) 0 [] ?a3 ?a7 ra3 ml3 rc3 (ms3.map rval) ?a4 HMLR.out ?a8 (rval_one ms3) ml3 ?a5 hml2 ?a6 ?_; (case a1 => rfl); (case a2 => rfl); (case a3 => rfl); (case a7 => exact HOW3.out); (case a4 => rfl); (case a8 => exact HRA2.out (.cells #[.slice la dl lc] 29) (.cells #[] 29)); (case a5 => exact Nat.zero_add ml3); (case a6 => exact (below2 w11 (.cells #[.slice la dl lc] 29) (.cells #[] 29)).size); intro X9 c9 w9 HO9 HA9 HB9; have HB9w : Below w11.heap.size w11 w9 := Below.trans (below2 w11 (.cells #[.slice la dl lc] 29) (.cells #[] 29)).drew HB9.out; have hs9 : w11.heap.size ≤ w9.heap.size := HB9w.size; have HRD9 : Hid (Rd w9 (some ⟨w11.heap.size, 0, none⟩) [.slice la dl lc]) := rd_row (HA9.out.old (heap_fst w11 (.cells #[.slice la dl lc] 29) (.cells #[] 29)) (by simp [Value.ownBlock]))) | (refine stepR w11.heap.size _ ?a1 (.tmp 100) (.tmp 103) ?a2 (.slice X9 ml3 c9) ml3 (ms3.map rval) ?a3 ?a7 (some ⟨w9.heap.size, 0, none⟩) 1 1 [.slice la dl lc] ?a4 rfl ?a8 ?a9 (ml3 + 1) rfl hml3 ?a6 ?_; (case a1 => rfl); (case a2 => rfl); (case a3 => rfl); (case a7 => exact own_below HO9.out (below1 w9 (.cells #[.slice la dl lc] 29))); (case a4 => rfl); (case a8 => exact Rd.one w9 (.slice la dl lc) _); (case a9 => simp [Value.oneCell']); (case a6 => exact Nat.le_trans hs9 (below1 w9 (.cells #[.slice la dl lc] 29)).size); intro X10 c10 w10 HO10 HA10 HB10; have HB10w : Below w11.heap.size w11 w10 := (HB9w.trans ((below1 w9 (.cells #[.slice la dl lc] 29)).mono hs9)).trans HB10.out; have HX10 := Lib.hid ((HB10w.block _ hb411).trans HD4.out); have tc0 : w10.cell? ⟨b4, 0, none⟩ = some _ := (cell_of_row _ _ 0 _ _ _ HX10.out).trans rfl; have tf0 : w10.frozen? ⟨b4, 0, none⟩ = false := frozen_of_row _ _ _ _ _ HX10.out; have tc1 : w10.cell? ⟨b4, 1, none⟩ = some _ := (cell_of_row _ _ 1 _ _ _ HX10.out).trans rfl; have tf1 : w10.frozen? ⟨b4, 1, none⟩ = false := frozen_of_row _ _ _ _ _ HX10.out; have tc2 : w10.cell? ⟨b4, 2, none⟩ = some _ := (cell_of_row _ _ 2 _ _ _ HX10.out).trans rfl; have tf2 : w10.frozen? ⟨b4, 2, none⟩ = false := frozen_of_row _ _ _ _ _ HX10.out; have tc3 : w10.cell? ⟨b4, 3, none⟩ = some _ := (cell_of_row _ _ 3 _ _ _ HX10.out).trans rfl; have tf3 : w10.frozen? ⟨b4, 3, none⟩ = false := frozen_of_row _ _ _ _ _ HX10.out; have tc4 : w10.cell? ⟨b4, 4, none⟩ = some _ := (cell_of_row _ _ 4 _ _ _ HX10.out).trans rfl; have tf4 : w10.frozen? ⟨b4, 4, none⟩ = false := frozen_of_row _ _ _ _ _ HX10.out; have tc5 : w10.cell? ⟨b4, 5, none⟩ = some _ := (cell_of_row _ _ 5 _ _ _ HX10.out).trans rfl; have tf5 : w10.frozen? ⟨b4, 5, none⟩ = false := frozen_of_row _ _ _ _ _ HX10.out; have tc6 : w10.cell? ⟨b4, 6, none⟩ = some _ := (cell_of_row _ _ 6 _ _ _ HX10.out).trans rfl; have tf6 : w10.frozen? ⟨b4, 6, none⟩ = false := frozen_of_row _ _ _ _ _ HX10.out; have tc7 : w10.cell? ⟨b4, 7, none⟩ = some _ := (cell_of_row _ _ 7 _ _ _ HX10.out).trans rfl; have tf7 : w10.frozen? ⟨b4, 7, none⟩ = false := frozen_of_row _ _ _ _ _ HX10.out; have tc8 : w10.cell? ⟨b4, 8, none⟩ = some _ := (cell_of_row _ _ 8 _ _ _ HX10.out).trans rfl; have tf8 : w10.frozen? ⟨b4, 8, none⟩ = false := frozen_of_row _ _ _ _ _ HX10.out) | (refine stepR w11.heap.size _ ?a1 (.tmp 100) (.tmp 103) ?a2 (.slice X9 ml3 c9) ml3 (ms3.map rval) ?a3 ?a7 (some ⟨w11.heap.size + 1, 0, none⟩) 1 1 [.slice la dl lc] ?a4 rfl ?a8 ?a9 (ml3 + 1) rfl hml3 ?a6 ?_; (case a1 => rfl); (case a2 => rfl); (case a3 => rfl); (case a7 => exact HO9.out); (case a4 => rfl); (case a8 => exact HRD9.out); (case a9 => simp [Value.oneCell']); (case a6 => exact hs9); intro X10 c10 w10 HO10 HA10 HB10; have HB10w : Below w11.heap.size w11 w10 := HB9w.trans HB10.out; have HX10 := Lib.hid ((HB10w.block _ hb411).trans HD4.out); have tc0 : w10.cell? ⟨b4, 0, none⟩ = some _ := (cell_of_row _ _ 0 _ _ _ HX10.out).trans rfl; have tf0 : w10.frozen? ⟨b4, 0, none⟩ = false := frozen_of_row _ _ _ _ _ HX10.out; have tc1 : w10.cell? ⟨b4, 1, none⟩ = some _ := (cell_of_row _ _ 1 _ _ _ HX10.out).trans rfl; have tf1 : w10.frozen? ⟨b4, 1, none⟩ = false := frozen_of_row _ _ _ _ _ HX10.out; have tc2 : w10.cell? ⟨b4, 2, none⟩ = some _ := (cell_of_row _ _ 2 _ _ _ HX10.out).trans rfl; have tf2 : w10.frozen? ⟨b4, 2, none⟩ = false := frozen_of_row _ _ _ _ _ HX10.out; have tc3 : w10.cell? ⟨b4, 3, none⟩ = some _ := (cell_of_row _ _ 3 _ _ _ HX10.out).trans rfl; have tf3 : w10.frozen? ⟨b4, 3, none⟩ = false := frozen_of_row _ _ _ _ _ HX10.out; have tc4 : w10.cell? ⟨b4, 4, none⟩ = some _ := (cell_of_row _ _ 4 _ _ _ HX10.out).trans rfl; have tf4 : w10.frozen? ⟨b4, 4, none⟩ = false := frozen_of_row _ _ _ _ _ HX10.out; have tc5 : w10.cell? ⟨b4, 5, none⟩ = some _ := (cell_of_row _ _ 5 _ _ _ HX10.out).trans rfl; have tf5 : w10.frozen? ⟨b4, 5, none⟩ = false := frozen_of_row _ _ _ _ _ HX10.out; have tc6 : w10.cell? ⟨b4, 6, none⟩ = some _ := (cell_of_row _ _ 6 _ _ _ HX10.out).trans rfl; have tf6 : w10.frozen? ⟨b4, 6, none⟩ = false := frozen_of_row _ _ _ _ _ HX10.out; have tc7 : w10.cell? ⟨b4, 7, none⟩ = some _ := (cell_of_row _ _ 7 _ _ _ HX10.out).trans rfl; have tf7 : w10.frozen? ⟨b4, 7, none⟩ = false := frozen_of_row _ _ _ _ _ HX10.out; have tc8 : w10.cell? ⟨b4, 8, none⟩ = some _ := (cell_of_row _ _ 8 _ _ _ HX10.out).trans rfl; have tf8 : w10.frozen? ⟨b4, 8, none⟩ = false := frozen_of_row _ _ _ _ _ HX10.out) | (refine stepR w11.heap.size _ ?a1 (.tmp 100) (.tmp 103) ?a2 (.slice X9 ml3 c9) ml3 (ms3.map rval) ?a3 ?a7 (some ⟨w11.heap.size, 0, none⟩) 1 1 [.slice la dl lc] ?a4 rfl ?a8 ?a9 (ml3 + 1) rfl hml3 ?a6 ?_; (case a1 => rfl); (case a2 => rfl); (case a3 => rfl); (case a7 => exact HO9.out); (case a4 => rfl); (case a8 => exact HRD9.out); (case a9 => simp [Value.oneCell']); (case a6 => exact hs9); intro X10 c10 w10 HO10 HA10 HB10; have HB10w : Below w11.heap.size w11 w10 := HB9w.trans HB10.out; have HX10 := Lib.hid ((HB10w.block _ hb411).trans HD4.out); have tc0 : w10.cell? ⟨b4, 0, none⟩ = some _ := (cell_of_row _ _ 0 _ _ _ HX10.out).trans rfl; have tf0 : w10.frozen? ⟨b4, 0, none⟩ = false := frozen_of_row _ _ _ _ _ HX10.out; have tc1 : w10.cell? ⟨b4, 1, none⟩ = some _ := (cell_of_row _ _ 1 _ _ _ HX10.out).trans rfl; have tf1 : w10.frozen? ⟨b4, 1, none⟩ = false := frozen_of_row _ _ _ _ _ HX10.out; have tc2 : w10.cell? ⟨b4, 2, none⟩ = some _ := (cell_of_row _ _ 2 _ _ _ HX10.out).trans rfl; have tf2 : w10.frozen? ⟨b4, 2, none⟩ = false := frozen_of_row _ _ _ _ _ HX10.out; have tc3 : w10.cell? ⟨b4, 3, none⟩ = some _ := (cell_of_row _ _ 3 _ _ _ HX10.out).trans rfl; have tf3 : w10.frozen? ⟨b4, 3, none⟩ = false := frozen_of_row _ _ _ _ _ HX10.out; have tc4 : w10.cell? ⟨b4, 4, none⟩ = some _ := (cell_of_row _ _ 4 _ _ _ HX10.out).trans rfl; have tf4 : w10.frozen? ⟨b4, 4, none⟩ = false := frozen_of_row _ _ _ _ _ HX10.out; have tc5 : w10.cell? ⟨b4, 5, none⟩ = some _ := (cell_of_row _ _ 5 _ _ _ HX10.out).trans rfl; have tf5 : w10.frozen? ⟨b4, 5, none⟩ = false := frozen_of_row _ _ _ _ _ HX10.out; have tc6 : w10.cell? ⟨b4, 6, none⟩ = some _ := (cell_of_row _ _ 6 _ _ _ HX10.out).trans rfl; have tf6 : w10.frozen? ⟨b4, 6, none⟩ = false := frozen_of_row _ _ _ _ _ HX10.out; have tc7 : w10.cell? ⟨b4, 7, none⟩ = some _ := (cell_of_row _ _ 7 _ _ _ HX10.out).trans rfl; have tf7 : w10.frozen? ⟨b4, 7, none⟩ = false := frozen_of_row _ _ _ _ _ HX10.out; have tc8 : w10.cell? ⟨b4, 8, none⟩ = some _ := (cell_of_row _ _ 8 _ _ _ HX10.out).trans rfl; have tf8 : w10.frozen? ⟨b4, 8, none⟩ = false := frozen_of_row _ _ _ _ _ HX10.out))
          all_goals
            have HG := Lib.hid (HPU.out X10 c10 w10 HB10w HO10.out)
            go_wp2_with fail
            go_meet
            exact HG.out
        case rest =>
        obtain ⟨F2, T2, htw⟩ := hcut
        rename World => w12
        have HTW12 := Lib.hid htw
        clear htw HTW11 HX11
        obtain ⟨y0, y1, y2, y3, y4, y5, y6, y7, y8, N12, hd12, hw12, hN12⟩ := HTW12.out.tv.v5
        obtain ⟨A12, ca12, X12, cx12, P12, sa12, sc12, ra12, rc12, ms12, hv12, hw12⟩ := hw12
        unfold jval at hv12
        simp only [Value.agg.injEq, Array.mk.injEq, List.cons.injEq, and_true] at hv12
        obtain ⟨rfl, rfl, rfl, rfl, rfl, rfl, rfl, rfl, rfl⟩ := hv12
        have HRC := Lib.hid (rappend_calls _ N12 D1 j la dl lc ld w12 (IsW.v ⟨A12, ca12, X12, cx12, P12, sa12, sc12, ra12, rc12, ms12, rfl, hw12⟩ (by rw [HH1.out]; exact HJK.out)) HDL.out (by omega) (RB.below HRL1.out HTW12.out.tv.b) hD1 HC1.out)
        unfold jval at HRC
        obtain ⟨pl12, HPL12⟩ : ∃ y, Hid (P12.length = y) := ⟨_, rfl⟩
        obtain ⟨ml12, HML12⟩ : ∃ y, Hid (ms12.length = y) := ⟨_, rfl⟩
        obtain ⟨sl12, HSL12⟩ : ∃ y, Hid (j.s.length = y) := ⟨_, rfl⟩
        obtain ⟨D2, HD2⟩ : ∃ y, Hid (appD D1 j ld = y) := ⟨_, rfl⟩
        obtain ⟨j2, HJ2⟩ : ∃ y, Hid (appJ D1 j ld = y) := ⟨_, rfl⟩
        rw [HNL9.out, HPL12.out, HML12.out, HSL12.out, HD2.out, HJ2.out] at HRC
        rw [HNL9.out, HPL12.out, HML12.out, HSL12.out] at hd12
        have HTX := HTW12.out
        rw [HD2.out, HJ2.out] at HTX
        have HTXX := Lib.hid HTX
        have HD12 := Lib.hid hd12
        have HN12 := Lib.hid hN12
        have HX12 := Lib.hid ((HTX.tv.b.block t7 hs1).trans HX1.out)
        have kb : w12.cell? ⟨t7, 1, none⟩ = some (.slice la dl lc) := (cell_of_row _ _ 1 _ _ _ HX12.out).trans rfl
        have HC2 : Hid (Calm D2) := by rw [← HD2.out]; exact appD_calm D1 j ld HC1.out
        have HN2 : Hid (D2.n ≤ 100) := by show _ ≤ _; rw [← HD2.out, appD_n]; exact hD1
        have HH2 : Hid (half D2 = half D) := by rw [← HD2.out]; exact (appD_half D1 j ld).trans HH1.out
        clear hd12 hw12 hN12 HTX HTW12
        have cc0 : w12.cell? ⟨b5, 0, none⟩ = some _ := (cell_of_row _ _ 0 _ _ _ HD12.out).trans rfl; have cc1 : w12.cell? ⟨b5, 1, none⟩ = some _ := (cell_of_row _ _ 1 _ _ _ HD12.out).trans rfl; have cc2 : w12.cell? ⟨b5, 2, none⟩ = some _ := (cell_of_row _ _ 2 _ _ _ HD12.out).trans rfl; have cc3 : w12.cell? ⟨b5, 3, none⟩ = some _ := (cell_of_row _ _ 3 _ _ _ HD12.out).trans rfl; have cc4 : w12.cell? ⟨b5, 4, none⟩ = some _ := (cell_of_row _ _ 4 _ _ _ HD12.out).trans rfl; have cc5 : w12.cell? ⟨b5, 5, none⟩ = some _ := (cell_of_row _ _ 5 _ _ _ HD12.out).trans rfl; have cc6 : w12.cell? ⟨b5, 6, none⟩ = some _ := (cell_of_row _ _ 6 _ _ _ HD12.out).trans rfl; have cc7 : w12.cell? ⟨b5, 7, none⟩ = some _ := (cell_of_row _ _ 7 _ _ _ HD12.out).trans rfl; have cc8 : w12.cell? ⟨b5, 8, none⟩ = some _ := (cell_of_row _ _ 8 _ _ _ HD12.out).trans rfl
        go_wp2_with fail
        (with_reducible refine HRC.out.mono ?_)
        rintro e w13 ⟨v13, N13, he13, ⟨A13, ca13, X13, cx13, P13, sa13, sc13, ra13, rc13, ms13, rfl, hv13⟩, hb13, hn13⟩
        unfold jval at he13
        have hz13 := (hb13.block b5 (Array.getElem?_eq_some_iff.1 HD12.out).1).trans HD12.out
        have HZ13 := Lib.hid hz13
        have HTW13 := Lib.hid (HTXX.out.upd5 hb13 (chg_row w13 b5 #[.slice A13 (64 * D2.n) ca13, .slice X13 P13.length cx13, .bool D2.x, .int .i64 D2.f, .int .i64 (j2.t : Int), .slice sa13 j2.s.length sc13, .slice ra13 ms13.length rc13, .int .i64 (j2.e : Int), .bool j2.x]) (setRow_heap _ _ _ _ _ _ hz13) (IsV.w ⟨A13, ca13, X13, cx13, P13, sa13, sc13, ra13, rc13, ms13, rfl, hv13⟩) (fun y hy => (hn13 y hy).imp (fun h => HN12.out y h) id))
        obtain ⟨NL13, HNL13⟩ : ∃ y, Hid (64 * D2.n = y) := ⟨_, rfl⟩
        obtain ⟨pl13, HPL13⟩ : ∃ y, Hid (P13.length = y) := ⟨_, rfl⟩
        obtain ⟨ml13, HML13⟩ : ∃ y, Hid (ms13.length = y) := ⟨_, rfl⟩
        obtain ⟨sl13, HSL13⟩ : ∃ y, Hid (j2.s.length = y) := ⟨_, rfl⟩
        rw [HNL13.out, HPL13.out, HML13.out, HSL13.out] at he13 HTW13
        subst he13
        clear hv13 hb13 hn13 hz13 cc0 cc1 cc2 cc3 cc4 cc5 cc6 cc7 cc8 kb HRC
        dsimp only
        refine via_list (by assumption) ?_
        iterate 10 go_step
        refine wp_store_row 46 (.tmp 15) (.tmp 111) rfl b5 #[.slice A13 NL13 ca13, .slice X13 pl13 cx13, .bool D2.x, .int .i64 D2.f, .int .i64 (j2.t : Int), .slice sa13 sl13 sc13, .slice ra13 ml13 rc13, .int .i64 (j2.e : Int), .bool j2.x] rfl rfl 46 _ HZ13.out size_rj9 rfl (by simp [Value.oneCell']) ?_
        go_wp2_with fail
        go_meet
        exact ⟨_, D2, j2, _, HC2.out, HN2.out, HH2.out, HTW13.out⟩
      | false =>
        have HAC := Lib.hid (HTD.out.pj.checkpoint_calls la dl lc ld HDL.out (by omega) HRL1.out hD1 HC1.out)
        go_upto_region 17 with (fail)
        go_region_held3 (fun w' => Kept [x, t7] w10 w') (first | exact hkd | assumption) ((go_at_call 30; (with_reducible refine HAC.out.mono ?_); rintro e w11 ⟨rfl, hpj, hk2⟩; have hs2 : Kept [x, t7] w10 w11 := HKX.out _ _ _ hpj hk2; have HTW11 := Lib.hid (HTD.out.next hpj hk2); clear hpj hk2))
        clear z1 z2 hkd hs2 HAC HTD HKX x1 t0 hdr HTW9 hxl htl
        have HX11 := Lib.hid ((HTW11.out.tv.b.block t7 hs1).trans HX1.out)
        obtain ⟨v0, v1, v2, v3, v4, v5, v6, v7, v8, N3, hd3, hs3, _⟩ := HTW11.out.tv.v3
        obtain ⟨_, _, _, _, _, _, _, _, _, _, _, hv3, _⟩ := hs3
        simp only [Value.agg.injEq, Array.mk.injEq, List.cons.injEq, and_true] at hv3
        obtain ⟨rfl, rfl, rfl, rfl, rfl, rfl, rfl, rfl, rfl⟩ := hv3
        have q4 : w11.cell? ⟨b3, 4, none⟩ = some (.int .i64 (j.t : Int)) := (cell_of_row _ _ 4 _ _ _ hd3).trans rfl
        have q1 : w11.cell? ⟨t7, 1, none⟩ = some (.slice la dl lc) := (cell_of_row _ _ 1 _ _ _ HX11.out).trans rfl
        obtain ⟨u0, u1, u2, u3, u4, u5, u6, u7, u8, N4, hd4, _, _⟩ := HTW11.out.tv.v4
        have HD4 := Lib.hid hd4
        obtain ⟨t1, HT1⟩ : ∃ y, Hid (j.t + 1 = y) := ⟨_, rfl⟩
        have e1 : (j.t : Int) + 1 = (t1 : Int) := by have := HT1.out; omega
        have wt1 : IntKind.i64.wrap (t1 : Int) = (t1 : Int) := wi_nat (by have := HT1.out; have := HP.out.t2; omega)
        obtain ⟨NLd, hNLd, hNLl⟩ := arg_inR HRL1.out HLC.out.1 HLC.out.2
        have HTW12 := Lib.hid (HTW11.out.upd4 (T'' := ⟨t1, ld, []⟩) (Below.refl _ _) (chg_row w11 b4 #[.slice none 0 0, .slice none 0 0, .bool false, .int .i64 0, .int .i64 (t1 : Int), .slice la ld.length lc, .slice none 0 0, .int .i64 0, .bool false]) (setRow_heap _ _ _ _ _ _ hd4) (N' := NLd)
          ⟨_, _, _, _, _, _, none, 0, [], _, _, rfl, hNLd.below HTW11.out.tv.b, ⟨Rd.nil, Nat.le_refl _, Nat.zero_le _, fun hp => by simp at hp, fun m hm => by cases hm⟩, rfl⟩ (fun y hy => Nat.lt_of_lt_of_le (hNLl y hy) HTW11.out.tv.b.size) (fun y hy => .inl ⟨.inr (hNLl y hy), fun hm => by have h1 := (HTW11.out.tv.m y hm).2; have h2 := hNLl y hy; omega⟩))
        rw [HDL.out] at HTW12
        clear hd3 hd4 hNLd hNLl HTW11
        go_upto_region 18 with (fail)
        iterate 20 go_step
        refine wp_store_row 46 (.tmp 14) (.tmp 125) rfl b4 #[.slice none 0 0, .slice none 0 0, .bool false, .int .i64 0, .int .i64 (t1 : Int), .slice la dl lc, .slice none 0 0, .int .i64 0, .bool false] rfl rfl 46 _ HD4.out size_rj9 rfl (by simp [Value.oneCell']) ?_
        go_upto_region 19 with (fail)
        generalize w11.setRow b4 #[.slice none 0 0, .slice none 0 0, .bool false, .int .i64 0, .int .i64 (t1 : Int), .slice la dl lc, .slice none 0 0, .int .i64 0, .bool false] = w12 at *
        clear q1 q4 wt1 e1 HD4 HX11
        obtain ⟨y0, y1, y2, y3, y4, y5, y6, y7, y8, N12, hd12, hw12, hN12⟩ := HTW12.out.tv.v5
        obtain ⟨A12, ca12, X12, cx12, P12, sa12, sc12, ra12, rc12, ms12, hv12, hw12⟩ := hw12
        unfold jval at hv12
        simp only [Value.agg.injEq, Array.mk.injEq, List.cons.injEq, and_true] at hv12
        obtain ⟨rfl, rfl, rfl, rfl, rfl, rfl, rfl, rfl, rfl⟩ := hv12
        have HRC := Lib.hid (rcheckpoint_calls _ N12 D1 j la dl lc ld w12 (IsW.v ⟨A12, ca12, X12, cx12, P12, sa12, sc12, ra12, rc12, ms12, rfl, hw12⟩ (by rw [HH1.out]; exact HJK.out)) HDL.out (by omega) (RB.below HRL1.out HTW12.out.tv.b) hD1 HC1.out)
        unfold jval at HRC
        obtain ⟨pl12, HPL12⟩ : ∃ y, Hid (P12.length = y) := ⟨_, rfl⟩
        obtain ⟨ml12, HML12⟩ : ∃ y, Hid (ms12.length = y) := ⟨_, rfl⟩
        obtain ⟨sl12, HSL12⟩ : ∃ y, Hid (j.s.length = y) := ⟨_, rfl⟩
        obtain ⟨D2, HD2⟩ : ∃ y, Hid (chkD D1 j ld = y) := ⟨_, rfl⟩
        obtain ⟨j2, HJ2⟩ : ∃ y, Hid (chkJ D1 j ld = y) := ⟨_, rfl⟩
        rw [HNL9.out, HPL12.out, HML12.out, HSL12.out, HD2.out, HJ2.out] at HRC
        rw [HNL9.out, HPL12.out, HML12.out, HSL12.out] at hd12
        have HTX := HTW12.out
        rw [HD2.out, HJ2.out] at HTX
        have HTXX := Lib.hid HTX
        have HD12 := Lib.hid hd12
        have HN12 := Lib.hid hN12
        have HX12 := Lib.hid ((HTX.tv.b.block t7 hs1).trans HX1.out)
        have kb : w12.cell? ⟨t7, 1, none⟩ = some (.slice la dl lc) := (cell_of_row _ _ 1 _ _ _ HX12.out).trans rfl
        have HC2 : Hid (Calm D2) := by rw [← HD2.out]; exact chkD_calm D1 j ld HC1.out
        have HN2 : Hid (D2.n ≤ 100) := by show _ ≤ _; rw [← HD2.out, chkD_n]; exact hD1
        have HH2 : Hid (half D2 = half D) := by rw [← HD2.out]; exact (chkD_half D1 j ld).trans HH1.out
        clear hd12 hw12 hN12 HTX HTW12
        have cc0 : w12.cell? ⟨b5, 0, none⟩ = some _ := (cell_of_row _ _ 0 _ _ _ HD12.out).trans rfl; have cc1 : w12.cell? ⟨b5, 1, none⟩ = some _ := (cell_of_row _ _ 1 _ _ _ HD12.out).trans rfl; have cc2 : w12.cell? ⟨b5, 2, none⟩ = some _ := (cell_of_row _ _ 2 _ _ _ HD12.out).trans rfl; have cc3 : w12.cell? ⟨b5, 3, none⟩ = some _ := (cell_of_row _ _ 3 _ _ _ HD12.out).trans rfl; have cc4 : w12.cell? ⟨b5, 4, none⟩ = some _ := (cell_of_row _ _ 4 _ _ _ HD12.out).trans rfl; have cc5 : w12.cell? ⟨b5, 5, none⟩ = some _ := (cell_of_row _ _ 5 _ _ _ HD12.out).trans rfl; have cc6 : w12.cell? ⟨b5, 6, none⟩ = some _ := (cell_of_row _ _ 6 _ _ _ HD12.out).trans rfl; have cc7 : w12.cell? ⟨b5, 7, none⟩ = some _ := (cell_of_row _ _ 7 _ _ _ HD12.out).trans rfl; have cc8 : w12.cell? ⟨b5, 8, none⟩ = some _ := (cell_of_row _ _ 8 _ _ _ HD12.out).trans rfl
        go_wp2_with fail
        (with_reducible refine HRC.out.mono ?_)
        rintro e w13 ⟨v13, N13, he13, ⟨A13, ca13, X13, cx13, P13, sa13, sc13, ra13, rc13, ms13, rfl, hv13⟩, hb13, hn13⟩
        unfold jval at he13
        have hz13 := (hb13.block b5 (Array.getElem?_eq_some_iff.1 HD12.out).1).trans HD12.out
        have HZ13 := Lib.hid hz13
        have HTW13 := Lib.hid (HTXX.out.upd5 hb13 (chg_row w13 b5 #[.slice A13 (64 * D2.n) ca13, .slice X13 P13.length cx13, .bool D2.x, .int .i64 D2.f, .int .i64 (j2.t : Int), .slice sa13 j2.s.length sc13, .slice ra13 ms13.length rc13, .int .i64 (j2.e : Int), .bool j2.x]) (setRow_heap _ _ _ _ _ _ hz13) (IsV.w ⟨A13, ca13, X13, cx13, P13, sa13, sc13, ra13, rc13, ms13, rfl, hv13⟩) (fun y hy => (hn13 y hy).imp (fun h => HN12.out y h) id))
        obtain ⟨NL13, HNL13⟩ : ∃ y, Hid (64 * D2.n = y) := ⟨_, rfl⟩
        obtain ⟨pl13, HPL13⟩ : ∃ y, Hid (P13.length = y) := ⟨_, rfl⟩
        obtain ⟨ml13, HML13⟩ : ∃ y, Hid (ms13.length = y) := ⟨_, rfl⟩
        obtain ⟨sl13, HSL13⟩ : ∃ y, Hid (j2.s.length = y) := ⟨_, rfl⟩
        rw [HNL13.out, HPL13.out, HML13.out, HSL13.out] at he13 HTW13
        subst he13
        clear hv13 hb13 hn13 hz13 cc0 cc1 cc2 cc3 cc4 cc5 cc6 cc7 cc8 kb HRC
        dsimp only
        refine via_list (by assumption) ?_
        iterate 10 go_step
        refine wp_store_row 46 (.tmp 15) (.tmp 131) rfl b5 #[.slice A13 NL13 ca13, .slice X13 pl13 cx13, .bool D2.x, .int .i64 D2.f, .int .i64 (j2.t : Int), .slice sa13 sl13 sc13, .slice ra13 ml13 rc13, .int .i64 (j2.e : Int), .bool j2.x] rfl rfl 46 _ HZ13.out size_rj9 rfl (by simp [Value.oneCell']) ?_
        go_wp2_with fail
        go_meet
        exact ⟨_, D2, j2, _, HC2.out, HN2.out, HH2.out, HTW13.out⟩
    case rest =>
    obtain ⟨F2, D2, j2, T2, hcm2, hn2, hh2, htw⟩ := hcut
    rename World => w14
    have HTW14 := Lib.hid htw
    have HCR := htw.pj.crash_calls Z zn zc sv HZ.out HRZ1.out
    have HC2 := Lib.hid hcm2
    have HN2 := Lib.hid hn2
    have h1h : 1 ≤ half D2 := by rw [hh2]; exact HP.out.h1
    obtain ⟨jn, hjn⟩ := open_crash D2 sv h1h
    have hc3 := calm_crash hcm2 sv
    have hn3 : (crashD D2 sv).n ≤ 100 := hn2
    obtain ⟨D3, HD3⟩ : ∃ y, Hid (crashD D2 sv = y) := ⟨_, rfl⟩
    rw [HD3.out] at HCR hjn hc3 hn3
    have HJN := Lib.hid hjn
    have HC3 := Lib.hid hc3
    have HN3 := Lib.hid hn3
    have HCRR := Lib.hid HCR
    have c14 := htw.pj.c0
    clear htw HCR hcm2 hn2 hh2 h1h hjn hc3 hn3 t0 HTW9 HX10
    go_wp2_with fail
    (with_reducible refine HCRR.out.mono ?_)
    rintro e w15 ⟨rfl, hpj15, hk15⟩
    have HTV15 := Lib.hid (HTW14.out.tv.kept hk15 hpj15.b)
    have HOP := Lib.hid (open_calls w1 w15 F2 g D3 hpj15.jo.own HN3.out HC3.out)
    have c15 := hpj15.c0
    clear hpj15 hk15 c14 HCRR HTW14
    go_wp2_with fail
    (with_reducible refine HOP.out.mono ?_)
    rintro e w16 ⟨hk16, ⟨ho16, _⟩ | ⟨j', q3, ho16, rfl, hjo16⟩⟩
    · rw [HJN.out] at ho16; cases ho16
    rw [HJN.out] at ho16
    injection ho16 with ho16
    subst ho16
    rw [openE_some HJN.out]
    have HTV16 := Lib.hid (HTV15.out.kept hk16 hjo16.own.b)
    have hnn : (openD D3).n ≤ 100 := by rw [openD_n]; exact HN3.out
    obtain ⟨D4, HD4⟩ : ∃ y, Hid (openD D3 = y) := ⟨_, rfl⟩
    rw [HD4.out] at hjo16 hnn
    have HJO16 := Lib.hid hjo16
    have HRL : Hid (jn.rs.length ≤ 1000) := by
      obtain ⟨_, _, _, hi, _⟩ := hjo16
      obtain ⟨_, _, _, _, _, _, h3⟩ := hi
      have h4 := h3.ok.r
      have h5 := h3.ok.e
      show _ ≤ _
      unfold half at h5
      omega
    clear hjo16 hk16 HOP c15 HTV15
    obtain ⟨y0, y1, y2, y3, y4, y5, y6, y7, y8, N16, hd16, hw16, _⟩ := HTV16.out.v5
    obtain ⟨A16, ca16, X16, cx16, P16, sa16, sc16, ra16, rc16, ms16, hv16, hw16⟩ := hw16
    unfold jval at hv16
    simp only [Value.agg.injEq, Array.mk.injEq, List.cons.injEq, and_true] at hv16
    obtain ⟨rfl, rfl, rfl, rfl, rfl, rfl, rfl, rfl, rfl⟩ := hv16
    have HCR := Lib.hid (rcrash_calls (kval D2 A16 ca16 X16 cx16 P16) N16 D2 Z zn zc sv w16 ⟨_, _, _, _, _, rfl, hw16.k⟩ HZ.out (Rd.below HRZ1.out HTV16.out.b))
    unfold kval at HCR
    obtain ⟨NL16, HNL16⟩ : ∃ y, Hid (64 * D2.n = y) := ⟨_, rfl⟩
    obtain ⟨pl16, HPL16⟩ : ∃ y, Hid (P16.length = y) := ⟨_, rfl⟩
    rw [HNL16.out, HPL16.out, HD3.out] at HCR
    rw [HNL16.out, HPL16.out] at hd16
    have HD16 := Lib.hid hd16
    have q0 : w16.cell? ⟨b5, 0, none⟩ = some _ := (cell_of_row _ _ 0 _ _ _ HD16.out).trans rfl
    have q1 : w16.cell? ⟨b5, 1, none⟩ = some _ := (cell_of_row _ _ 1 _ _ _ HD16.out).trans rfl
    have q2 : w16.cell? ⟨b5, 2, none⟩ = some _ := (cell_of_row _ _ 2 _ _ _ HD16.out).trans rfl
    have q3' : w16.cell? ⟨b5, 3, none⟩ = some _ := (cell_of_row _ _ 3 _ _ _ HD16.out).trans rfl
    clear hd16 hw16
    go_wp2_with fail
    (with_reducible refine HCR.out.mono ?_)
    rintro e w17 ⟨v17, N17, he17, ⟨A17, ca17, X17, cx17, P17, rfl, hk17⟩, hb17, _⟩
    have HRO : Hid (Calls Try.prog 32 #[kval D3 A17 ca17 X17 cx17 P17] w17 fun e w' => ∃ (zA : Option Addr) (zn1 zc1 : Nat) (zX : Option Addr) (zp zk : Nat) (zx : Bool) (zf : Int) (zt : Nat) (zS : Option Addr) (zl1 zs : Nat) (zR : Option Addr) (zr zq : Nat) (ze : Int) (zb : Bool) (N : List Nat), e = .returned (.tuple #[.agg #[.slice zA zn1 zc1, .slice zX zp zk, .bool zx, .int .i64 zf, .int .i64 (zt : Int), .slice zS zl1 zs, .slice zR zr zq, .int .i64 ze, .bool zb], .int .i64 0]) ∧ SmV w' N (.agg #[.slice zA zn1 zc1, .slice zX zp zk, .bool zx, .int .i64 zf, .int .i64 (zt : Int), .slice zS zl1 zs, .slice zR zr zq, .int .i64 ze, .bool zb]) jn.t jn.s jn.rs ∧ Below w17.heap.size w17 w') := by
      refine (ropen_calls (kval D3 A17 ca17 X17 cx17 P17) N17 D3 w17 ⟨_, _, _, _, _, rfl, hk17⟩ HC3.out HN3.out).mono ?_
      rintro e w' ⟨v, N, rfl, hw, hb, _⟩
      rw [HJN.out] at hw
      have hs := hw.sm
      obtain ⟨A, ca, X, cx, P, sa, sc, ra, rc, ms, rfl, _⟩ := hw
      exact ⟨_, _, _, _, _, _, _, _, jn.t, _, _, _, _, _, _, _, _, N, by rw [openE_some HJN.out]; rfl, hs, hb⟩
    unfold kval id at he17
    unfold kval at HRO
    have HB17 := Lib.hid hb17
    clear hk17 hb17 q0 q1 q2 q3' HCR HD16
    obtain ⟨NL17, HNL17⟩ : ∃ y, Hid (64 * D3.n = y) := ⟨_, rfl⟩
    obtain ⟨pl17, HPL17⟩ : ∃ y, Hid (P17.length = y) := ⟨_, rfl⟩
    rw [HNL17.out, HPL17.out] at HRO he17
    subst he17
    go_wp2_with fail
    (with_reducible refine HRO.out.mono ?_)
    rintro e w18 ⟨zA, zn1, zc1, zX, zp, zk, zx, zf, zt, zS, zl1, zs, zR, zr, zq, ze, zb, N8, rfl, hs18, hb18⟩
    have hb19 := below1 w18 (.cells #[.slice zA zn1 zc1, .slice zX zp zk, .bool zx, .int .i64 zf, .int .i64 (zt : Int), .slice zS zl1 zs, .slice zR zr zq, .int .i64 ze, .bool zb] 46)
    have hx19 := heap_alloc_new w18 (.cells #[.slice zA zn1 zc1, .slice zX zp zk, .bool zx, .int .i64 zf, .int .i64 (zt : Int), .slice zS zl1 zs, .slice zR zr zq, .int .i64 ze, .bool zb] 46)
    go_upto_region 25 with (fail)
    generalize w18.alloc (.cells #[.slice zA zn1 zc1, .slice zX zp zk, .bool zx, .int .i64 zf, .int .i64 (zt : Int), .slice zS zl1 zs, .slice zR zr zq, .int .i64 ze, .bool zb] 46) = w19 at *
    obtain ⟨b8, HB8⟩ : ∃ y, Hid (w18.heap.size = y) := ⟨_, rfl⟩
    rw [HB8.out] at hx19
    rw [HB8.out]
    have HRb8 := Lib.hid hx19
    have hb69 : Below w16.heap.size w16 w19 := HB17.out.trans ((hb18.mono HB17.out.size).trans (hb19.mono (Nat.le_trans HB17.out.size hb18.size)))
    have HTV19 := Lib.hid (HTV16.out.below hb69)
    have HJO19 := Lib.hid (HJO16.out.below hb69)
    have HS8 := Lib.hid (hs18.below hb19)
    have HBF := Lib.hid (HB1.out.trans (HTV19.out.b.mono HB1.out.size))
    clear hb18 hb19 hx19 hb69 hs18 HRO HB17 HTV16 HJO16
    obtain ⟨a0, a1, a2, a3, a4, a5, a6, a7, a8, N3, hd3, hs3, _⟩ := HTV19.out.v3
    obtain ⟨d0, d1, d2, d3, d4, d5, d6, d7, d8, N4, hd4, hs4, _⟩ := HTV19.out.v4
    have HRb3 := Lib.hid hd3
    have HRb4 := Lib.hid hd4
    have HS3 := Lib.hid hs3
    have HS4 := Lib.hid hs4
    clear hd3 hs3 hd4 hs4 HTV19
    obtain ⟨s1, HS1⟩ : ∃ y, Hid (sameJ jn.t jn.s jn.rs (Tr.mk j.t j.s j.rs).t (Tr.mk j.t j.s j.rs).s (Tr.mk j.t j.s j.rs).rs = y) := ⟨_, rfl⟩
    obtain ⟨s2, HS2⟩ : ∃ y, Hid (sameJ jn.t jn.s jn.rs T2.t T2.s T2.rs = y) := ⟨_, rfl⟩
    have HV3 : ∀ u v N, Below w19.heap.size w19 u → SmV u N v jn.t jn.s jn.rs → Hid (Calls Try.prog 23 #[v, .agg #[a0, a1, a2, a3, a4, a5, a6, a7, a8]] u fun e w' => e = .returned (.bool s1) ∧ Below w19.heap.size w19 w') := fun u v N hu hv => by
      refine (rsame_calls v _ N N3 _ _ _ _ _ _ u hv (SmV.below HS3.out hu) HRL.out).mono ?_
      rintro e w' ⟨rfl, b⟩
      exact ⟨by rw [HS1.out], hu.trans (b.mono hu.size)⟩
    have HV4 : ∀ u v N, Below w19.heap.size w19 u → SmV u N v jn.t jn.s jn.rs → Hid (Calls Try.prog 23 #[v, .agg #[d0, d1, d2, d3, d4, d5, d6, d7, d8]] u fun e w' => e = .returned (.bool s2) ∧ Below w19.heap.size w19 w') := fun u v N hu hv => by
      refine (rsame_calls v _ N N4 _ _ _ _ _ _ u hv (SmV.below HS4.out hu) HRL.out).mono ?_
      rintro e w' ⟨rfl, b⟩
      exact ⟨by rw [HS2.out], hu.trans (b.mono hu.size)⟩
    have HV8 : ∀ u v N, Below w19.heap.size w19 u → SmV u N v jn.t jn.s jn.rs → Hid (Calls Try.prog 23 #[v, .agg #[.slice zA zn1 zc1, .slice zX zp zk, .bool zx, .int .i64 zf, .int .i64 (zt : Int), .slice zS zl1 zs, .slice zR zr zq, .int .i64 ze, .bool zb]] u fun e w' => e = .returned (.bool true) ∧ Below w19.heap.size w19 w') := fun u v N hu hv => by
      refine (rsame_calls v _ N N8 _ _ _ _ _ _ u hv (SmV.below HS8.out hu) HRL.out).mono ?_
      rintro e w' ⟨rfl, b⟩
      exact ⟨by rw [sameJ_yes ⟨rfl, rfl, rfl⟩], hu.trans (b.mono hu.size)⟩
    have HSN : ∀ u, Below w19.heap.size w19 u → Hid (Calls Try.prog 24 #[.pointer (some ⟨q3, 0, none⟩)] u fun e w' => ∃ v N, e = .returned v ∧ SmV w' N v jn.t jn.s jn.rs ∧ Below w19.heap.size w19 w') := fun u hu => (jo_seen (HJO19.out.below hu) hnn).mono fun _ _ ⟨v, N, a, b, c, _⟩ => ⟨v, N, a, b, hu.trans (c.mono hu.size)⟩
    have HAWW : ∀ u, Below w19.heap.size w19 u → Hid (Calls Try.prog 11 #[] u fun e w' => e = .returned (.bool true) ∧ Below w19.heap.size w19 w') := fun u hu => (oawake_calls u).mono fun _ _ ⟨a, b⟩ => ⟨a, hu.trans (b.mono hu.size)⟩
    have p8c0 : ∀ u, Below w19.heap.size w19 u → u.cell? ⟨b8, 0, none⟩ = some _ := fun u hu => (cell_of_row _ _ 0 _ _ _ ((hu.block _ (Array.getElem?_eq_some_iff.1 HRb8.out).1).trans HRb8.out)).trans rfl; have p8c1 : ∀ u, Below w19.heap.size w19 u → u.cell? ⟨b8, 1, none⟩ = some _ := fun u hu => (cell_of_row _ _ 1 _ _ _ ((hu.block _ (Array.getElem?_eq_some_iff.1 HRb8.out).1).trans HRb8.out)).trans rfl; have p8c2 : ∀ u, Below w19.heap.size w19 u → u.cell? ⟨b8, 2, none⟩ = some _ := fun u hu => (cell_of_row _ _ 2 _ _ _ ((hu.block _ (Array.getElem?_eq_some_iff.1 HRb8.out).1).trans HRb8.out)).trans rfl; have p8c3 : ∀ u, Below w19.heap.size w19 u → u.cell? ⟨b8, 3, none⟩ = some _ := fun u hu => (cell_of_row _ _ 3 _ _ _ ((hu.block _ (Array.getElem?_eq_some_iff.1 HRb8.out).1).trans HRb8.out)).trans rfl; have p8c4 : ∀ u, Below w19.heap.size w19 u → u.cell? ⟨b8, 4, none⟩ = some _ := fun u hu => (cell_of_row _ _ 4 _ _ _ ((hu.block _ (Array.getElem?_eq_some_iff.1 HRb8.out).1).trans HRb8.out)).trans rfl; have p8c5 : ∀ u, Below w19.heap.size w19 u → u.cell? ⟨b8, 5, none⟩ = some _ := fun u hu => (cell_of_row _ _ 5 _ _ _ ((hu.block _ (Array.getElem?_eq_some_iff.1 HRb8.out).1).trans HRb8.out)).trans rfl; have p8c6 : ∀ u, Below w19.heap.size w19 u → u.cell? ⟨b8, 6, none⟩ = some _ := fun u hu => (cell_of_row _ _ 6 _ _ _ ((hu.block _ (Array.getElem?_eq_some_iff.1 HRb8.out).1).trans HRb8.out)).trans rfl; have p8c7 : ∀ u, Below w19.heap.size w19 u → u.cell? ⟨b8, 7, none⟩ = some _ := fun u hu => (cell_of_row _ _ 7 _ _ _ ((hu.block _ (Array.getElem?_eq_some_iff.1 HRb8.out).1).trans HRb8.out)).trans rfl; have p8c8 : ∀ u, Below w19.heap.size w19 u → u.cell? ⟨b8, 8, none⟩ = some _ := fun u hu => (cell_of_row _ _ 8 _ _ _ ((hu.block _ (Array.getElem?_eq_some_iff.1 HRb8.out).1).trans HRb8.out)).trans rfl
    have p3c0 : ∀ u, Below w19.heap.size w19 u → u.cell? ⟨b3, 0, none⟩ = some _ := fun u hu => (cell_of_row _ _ 0 _ _ _ ((hu.block _ (Array.getElem?_eq_some_iff.1 HRb3.out).1).trans HRb3.out)).trans rfl; have p3c1 : ∀ u, Below w19.heap.size w19 u → u.cell? ⟨b3, 1, none⟩ = some _ := fun u hu => (cell_of_row _ _ 1 _ _ _ ((hu.block _ (Array.getElem?_eq_some_iff.1 HRb3.out).1).trans HRb3.out)).trans rfl; have p3c2 : ∀ u, Below w19.heap.size w19 u → u.cell? ⟨b3, 2, none⟩ = some _ := fun u hu => (cell_of_row _ _ 2 _ _ _ ((hu.block _ (Array.getElem?_eq_some_iff.1 HRb3.out).1).trans HRb3.out)).trans rfl; have p3c3 : ∀ u, Below w19.heap.size w19 u → u.cell? ⟨b3, 3, none⟩ = some _ := fun u hu => (cell_of_row _ _ 3 _ _ _ ((hu.block _ (Array.getElem?_eq_some_iff.1 HRb3.out).1).trans HRb3.out)).trans rfl; have p3c4 : ∀ u, Below w19.heap.size w19 u → u.cell? ⟨b3, 4, none⟩ = some _ := fun u hu => (cell_of_row _ _ 4 _ _ _ ((hu.block _ (Array.getElem?_eq_some_iff.1 HRb3.out).1).trans HRb3.out)).trans rfl; have p3c5 : ∀ u, Below w19.heap.size w19 u → u.cell? ⟨b3, 5, none⟩ = some _ := fun u hu => (cell_of_row _ _ 5 _ _ _ ((hu.block _ (Array.getElem?_eq_some_iff.1 HRb3.out).1).trans HRb3.out)).trans rfl; have p3c6 : ∀ u, Below w19.heap.size w19 u → u.cell? ⟨b3, 6, none⟩ = some _ := fun u hu => (cell_of_row _ _ 6 _ _ _ ((hu.block _ (Array.getElem?_eq_some_iff.1 HRb3.out).1).trans HRb3.out)).trans rfl; have p3c7 : ∀ u, Below w19.heap.size w19 u → u.cell? ⟨b3, 7, none⟩ = some _ := fun u hu => (cell_of_row _ _ 7 _ _ _ ((hu.block _ (Array.getElem?_eq_some_iff.1 HRb3.out).1).trans HRb3.out)).trans rfl; have p3c8 : ∀ u, Below w19.heap.size w19 u → u.cell? ⟨b3, 8, none⟩ = some _ := fun u hu => (cell_of_row _ _ 8 _ _ _ ((hu.block _ (Array.getElem?_eq_some_iff.1 HRb3.out).1).trans HRb3.out)).trans rfl
    have p4c0 : ∀ u, Below w19.heap.size w19 u → u.cell? ⟨b4, 0, none⟩ = some _ := fun u hu => (cell_of_row _ _ 0 _ _ _ ((hu.block _ (Array.getElem?_eq_some_iff.1 HRb4.out).1).trans HRb4.out)).trans rfl; have p4c1 : ∀ u, Below w19.heap.size w19 u → u.cell? ⟨b4, 1, none⟩ = some _ := fun u hu => (cell_of_row _ _ 1 _ _ _ ((hu.block _ (Array.getElem?_eq_some_iff.1 HRb4.out).1).trans HRb4.out)).trans rfl; have p4c2 : ∀ u, Below w19.heap.size w19 u → u.cell? ⟨b4, 2, none⟩ = some _ := fun u hu => (cell_of_row _ _ 2 _ _ _ ((hu.block _ (Array.getElem?_eq_some_iff.1 HRb4.out).1).trans HRb4.out)).trans rfl; have p4c3 : ∀ u, Below w19.heap.size w19 u → u.cell? ⟨b4, 3, none⟩ = some _ := fun u hu => (cell_of_row _ _ 3 _ _ _ ((hu.block _ (Array.getElem?_eq_some_iff.1 HRb4.out).1).trans HRb4.out)).trans rfl; have p4c4 : ∀ u, Below w19.heap.size w19 u → u.cell? ⟨b4, 4, none⟩ = some _ := fun u hu => (cell_of_row _ _ 4 _ _ _ ((hu.block _ (Array.getElem?_eq_some_iff.1 HRb4.out).1).trans HRb4.out)).trans rfl; have p4c5 : ∀ u, Below w19.heap.size w19 u → u.cell? ⟨b4, 5, none⟩ = some _ := fun u hu => (cell_of_row _ _ 5 _ _ _ ((hu.block _ (Array.getElem?_eq_some_iff.1 HRb4.out).1).trans HRb4.out)).trans rfl; have p4c6 : ∀ u, Below w19.heap.size w19 u → u.cell? ⟨b4, 6, none⟩ = some _ := fun u hu => (cell_of_row _ _ 6 _ _ _ ((hu.block _ (Array.getElem?_eq_some_iff.1 HRb4.out).1).trans HRb4.out)).trans rfl; have p4c7 : ∀ u, Below w19.heap.size w19 u → u.cell? ⟨b4, 7, none⟩ = some _ := fun u hu => (cell_of_row _ _ 7 _ _ _ ((hu.block _ (Array.getElem?_eq_some_iff.1 HRb4.out).1).trans HRb4.out)).trans rfl; have p4c8 : ∀ u, Below w19.heap.size w19 u → u.cell? ⟨b4, 8, none⟩ = some _ := fun u hu => (cell_of_row _ _ 8 _ _ _ ((hu.block _ (Array.getElem?_eq_some_iff.1 HRb4.out).1).trans HRb4.out)).trans rfl
    have HC83 := Lib.hid (HV3 w19 (.agg #[.slice zA zn1 zc1, .slice zX zp zk, .bool zx, .int .i64 zf, .int .i64 (zt : Int), .slice zS zl1 zs, .slice zR zr zq, .int .i64 ze, .bool zb]) N8 (Below.refl _ _) HS8.out).out
    have r8c0 : w19.cell? ⟨b8, 0, none⟩ = some _ := (cell_of_row _ _ 0 _ _ _ HRb8.out).trans rfl; have r8c1 : w19.cell? ⟨b8, 1, none⟩ = some _ := (cell_of_row _ _ 1 _ _ _ HRb8.out).trans rfl; have r8c2 : w19.cell? ⟨b8, 2, none⟩ = some _ := (cell_of_row _ _ 2 _ _ _ HRb8.out).trans rfl; have r8c3 : w19.cell? ⟨b8, 3, none⟩ = some _ := (cell_of_row _ _ 3 _ _ _ HRb8.out).trans rfl; have r8c4 : w19.cell? ⟨b8, 4, none⟩ = some _ := (cell_of_row _ _ 4 _ _ _ HRb8.out).trans rfl; have r8c5 : w19.cell? ⟨b8, 5, none⟩ = some _ := (cell_of_row _ _ 5 _ _ _ HRb8.out).trans rfl; have r8c6 : w19.cell? ⟨b8, 6, none⟩ = some _ := (cell_of_row _ _ 6 _ _ _ HRb8.out).trans rfl; have r8c7 : w19.cell? ⟨b8, 7, none⟩ = some _ := (cell_of_row _ _ 7 _ _ _ HRb8.out).trans rfl; have r8c8 : w19.cell? ⟨b8, 8, none⟩ = some _ := (cell_of_row _ _ 8 _ _ _ HRb8.out).trans rfl
    have r3c0 : w19.cell? ⟨b3, 0, none⟩ = some _ := (cell_of_row _ _ 0 _ _ _ HRb3.out).trans rfl; have r3c1 : w19.cell? ⟨b3, 1, none⟩ = some _ := (cell_of_row _ _ 1 _ _ _ HRb3.out).trans rfl; have r3c2 : w19.cell? ⟨b3, 2, none⟩ = some _ := (cell_of_row _ _ 2 _ _ _ HRb3.out).trans rfl; have r3c3 : w19.cell? ⟨b3, 3, none⟩ = some _ := (cell_of_row _ _ 3 _ _ _ HRb3.out).trans rfl; have r3c4 : w19.cell? ⟨b3, 4, none⟩ = some _ := (cell_of_row _ _ 4 _ _ _ HRb3.out).trans rfl; have r3c5 : w19.cell? ⟨b3, 5, none⟩ = some _ := (cell_of_row _ _ 5 _ _ _ HRb3.out).trans rfl; have r3c6 : w19.cell? ⟨b3, 6, none⟩ = some _ := (cell_of_row _ _ 6 _ _ _ HRb3.out).trans rfl; have r3c7 : w19.cell? ⟨b3, 7, none⟩ = some _ := (cell_of_row _ _ 7 _ _ _ HRb3.out).trans rfl; have r3c8 : w19.cell? ⟨b3, 8, none⟩ = some _ := (cell_of_row _ _ 8 _ _ _ HRb3.out).trans rfl
    cases s1 with
    | true => as_aux_lemma =>
      clear HV4 HV8 HS2 HS4
      go_wp2_with fail
      (with_reducible refine HC83.out.mono ?_)
      rintro e w20 ⟨rfl, hb20⟩
      have HB20 := Lib.hid hb20
      have HR23 := Lib.hid ((hb20.block _ (Array.getElem?_eq_some_iff.1 HRb3.out).1).trans HRb3.out)
      clear hb20 HC83
      go_upto_region 27 with (fail)
      have t3c0 : w20.cell? ⟨b3, 0, none⟩ = some _ := (cell_of_row _ _ 0 _ _ _ HR23.out).trans rfl; have t3c1 : w20.cell? ⟨b3, 1, none⟩ = some _ := (cell_of_row _ _ 1 _ _ _ HR23.out).trans rfl; have t3c2 : w20.cell? ⟨b3, 2, none⟩ = some _ := (cell_of_row _ _ 2 _ _ _ HR23.out).trans rfl; have t3c3 : w20.cell? ⟨b3, 3, none⟩ = some _ := (cell_of_row _ _ 3 _ _ _ HR23.out).trans rfl; have t3c4 : w20.cell? ⟨b3, 4, none⟩ = some _ := (cell_of_row _ _ 4 _ _ _ HR23.out).trans rfl; have t3c5 : w20.cell? ⟨b3, 5, none⟩ = some _ := (cell_of_row _ _ 5 _ _ _ HR23.out).trans rfl; have t3c6 : w20.cell? ⟨b3, 6, none⟩ = some _ := (cell_of_row _ _ 6 _ _ _ HR23.out).trans rfl; have t3c7 : w20.cell? ⟨b3, 7, none⟩ = some _ := (cell_of_row _ _ 7 _ _ _ HR23.out).trans rfl; have t3c8 : w20.cell? ⟨b3, 8, none⟩ = some _ := (cell_of_row _ _ 8 _ _ _ HR23.out).trans rfl
      first
        | (go_region_with (first | (go_at_call 24; (with_reducible refine (HSN w20.drew HB20.out.drew).out.mono ?_); rintro e w22 ⟨v22, N22, rfl, hv22, hb22⟩; have HV22 := Lib.hid hv22; have HR25 := Lib.hid ((hb22.block _ (Array.getElem?_eq_some_iff.1 HRb3.out).1).trans HRb3.out); clear hv22; have v3c0 : w22.cell? ⟨b3, 0, none⟩ = some _ := (cell_of_row _ _ 0 _ _ _ HR25.out).trans rfl; have v3c1 : w22.cell? ⟨b3, 1, none⟩ = some _ := (cell_of_row _ _ 1 _ _ _ HR25.out).trans rfl; have v3c2 : w22.cell? ⟨b3, 2, none⟩ = some _ := (cell_of_row _ _ 2 _ _ _ HR25.out).trans rfl; have v3c3 : w22.cell? ⟨b3, 3, none⟩ = some _ := (cell_of_row _ _ 3 _ _ _ HR25.out).trans rfl; have v3c4 : w22.cell? ⟨b3, 4, none⟩ = some _ := (cell_of_row _ _ 4 _ _ _ HR25.out).trans rfl; have v3c5 : w22.cell? ⟨b3, 5, none⟩ = some _ := (cell_of_row _ _ 5 _ _ _ HR25.out).trans rfl; have v3c6 : w22.cell? ⟨b3, 6, none⟩ = some _ := (cell_of_row _ _ 6 _ _ _ HR25.out).trans rfl; have v3c7 : w22.cell? ⟨b3, 7, none⟩ = some _ := (cell_of_row _ _ 7 _ _ _ HR25.out).trans rfl; have v3c8 : w22.cell? ⟨b3, 8, none⟩ = some _ := (cell_of_row _ _ 8 _ _ _ HR25.out).trans rfl) | (go_at_call 23; (with_reducible refine (HV3 w22 v22 N22 hb22 HV22.out).out.mono ?_); rintro e w23 ⟨rfl, hb23⟩) | (go_at_call 11; (with_reducible refine (HAWW w23 hb23).out.mono ?_); rintro e w26 ⟨rfl, hb26⟩)))
        | fail
      all_goals
        have HF : Hid (Below w.heap.size w w26) := HBF.out.trans (hb26.mono HBF.out.size)
        go_wp2_with fail
        go_ret
        exact ⟨rfl, HF.out⟩
    | false =>
      have HC84 := fun u hu => (HV4 u (.agg #[.slice zA zn1 zc1, .slice zX zp zk, .bool zx, .int .i64 zf, .int .i64 (zt : Int), .slice zS zl1 zs, .slice zR zr zq, .int .i64 ze, .bool zb]) N8 hu (SmV.below HS8.out hu)).out
      cases s2 with
      | true => as_aux_lemma =>
        clear HV8
        go_wp2_with fail
        (with_reducible refine HC83.out.mono ?_)
        rintro e w20 ⟨rfl, hb20⟩
        have HB20 := Lib.hid hb20
        have HR20 := Lib.hid ((hb20.block _ (Array.getElem?_eq_some_iff.1 HRb8.out).1).trans HRb8.out)
        have HR24 := Lib.hid ((hb20.block _ (Array.getElem?_eq_some_iff.1 HRb4.out).1).trans HRb4.out)
        clear hb20 HC83
        have s8c0 : w20.cell? ⟨b8, 0, none⟩ = some _ := (cell_of_row _ _ 0 _ _ _ HR20.out).trans rfl; have s8c1 : w20.cell? ⟨b8, 1, none⟩ = some _ := (cell_of_row _ _ 1 _ _ _ HR20.out).trans rfl; have s8c2 : w20.cell? ⟨b8, 2, none⟩ = some _ := (cell_of_row _ _ 2 _ _ _ HR20.out).trans rfl; have s8c3 : w20.cell? ⟨b8, 3, none⟩ = some _ := (cell_of_row _ _ 3 _ _ _ HR20.out).trans rfl; have s8c4 : w20.cell? ⟨b8, 4, none⟩ = some _ := (cell_of_row _ _ 4 _ _ _ HR20.out).trans rfl; have s8c5 : w20.cell? ⟨b8, 5, none⟩ = some _ := (cell_of_row _ _ 5 _ _ _ HR20.out).trans rfl; have s8c6 : w20.cell? ⟨b8, 6, none⟩ = some _ := (cell_of_row _ _ 6 _ _ _ HR20.out).trans rfl; have s8c7 : w20.cell? ⟨b8, 7, none⟩ = some _ := (cell_of_row _ _ 7 _ _ _ HR20.out).trans rfl; have s8c8 : w20.cell? ⟨b8, 8, none⟩ = some _ := (cell_of_row _ _ 8 _ _ _ HR20.out).trans rfl
        have s4c0 : w20.cell? ⟨b4, 0, none⟩ = some _ := (cell_of_row _ _ 0 _ _ _ HR24.out).trans rfl; have s4c1 : w20.cell? ⟨b4, 1, none⟩ = some _ := (cell_of_row _ _ 1 _ _ _ HR24.out).trans rfl; have s4c2 : w20.cell? ⟨b4, 2, none⟩ = some _ := (cell_of_row _ _ 2 _ _ _ HR24.out).trans rfl; have s4c3 : w20.cell? ⟨b4, 3, none⟩ = some _ := (cell_of_row _ _ 3 _ _ _ HR24.out).trans rfl; have s4c4 : w20.cell? ⟨b4, 4, none⟩ = some _ := (cell_of_row _ _ 4 _ _ _ HR24.out).trans rfl; have s4c5 : w20.cell? ⟨b4, 5, none⟩ = some _ := (cell_of_row _ _ 5 _ _ _ HR24.out).trans rfl; have s4c6 : w20.cell? ⟨b4, 6, none⟩ = some _ := (cell_of_row _ _ 6 _ _ _ HR24.out).trans rfl; have s4c7 : w20.cell? ⟨b4, 7, none⟩ = some _ := (cell_of_row _ _ 7 _ _ _ HR24.out).trans rfl; have s4c8 : w20.cell? ⟨b4, 8, none⟩ = some _ := (cell_of_row _ _ 8 _ _ _ HR24.out).trans rfl
        go_wp2_with fail
        (with_reducible refine (HC84 w20 HB20.out).mono ?_)
        rintro e w21 ⟨rfl, hb21⟩
        have HB21 := Lib.hid hb21
        clear hb21 HC84
        go_upto_region 27 with (fail)
        go_region_held3 (fun w' => Below w19.heap.size w19 w') (first | exact HB21.out.drew | assumption) (first | (go_at_call 24; have _h := HV22; (with_reducible refine (HSN _ (by assumption)).out.mono ?_); rintro e w24 ⟨v24, N24, rfl, hv24, hb24⟩; have HV24 := Lib.hid hv24; clear hv24) | (go_at_call 24; (with_reducible refine (HSN _ (by assumption)).out.mono ?_); rintro e w22 ⟨v22, N22, rfl, hv22, hb22⟩; have HV22 := Lib.hid hv22; clear hv22) | (go_at_call 23; (with_reducible refine (HV4 w24 v24 N24 hb24 HV24.out).out.mono ?_); rintro e w25 ⟨rfl, hb25⟩) | (go_at_call 23; (with_reducible refine (HV3 w22 v22 N22 hb22 HV22.out).out.mono ?_); rintro e w23 ⟨rfl, hb23⟩) | (go_at_call 11; (with_reducible refine (HAWW _ (by assumption)).out.mono ?_); rintro e w26 ⟨rfl, hb26⟩))
        have HF : Hid (Below w.heap.size w w26) := HBF.out.trans (hb26.mono HBF.out.size)
        go_wp2_with fail
        go_ret
        exact ⟨rfl, HF.out⟩
      | false => as_aux_lemma =>
        clear HV3 HV4
        go_wp2_with fail
        (with_reducible refine HC83.out.mono ?_)
        rintro e w20 ⟨rfl, hb20⟩
        have HB20 := Lib.hid hb20
        have HR20 := Lib.hid ((hb20.block _ (Array.getElem?_eq_some_iff.1 HRb8.out).1).trans HRb8.out)
        have HR24 := Lib.hid ((hb20.block _ (Array.getElem?_eq_some_iff.1 HRb4.out).1).trans HRb4.out)
        clear hb20 HC83
        have s8c0 : w20.cell? ⟨b8, 0, none⟩ = some _ := (cell_of_row _ _ 0 _ _ _ HR20.out).trans rfl; have s8c1 : w20.cell? ⟨b8, 1, none⟩ = some _ := (cell_of_row _ _ 1 _ _ _ HR20.out).trans rfl; have s8c2 : w20.cell? ⟨b8, 2, none⟩ = some _ := (cell_of_row _ _ 2 _ _ _ HR20.out).trans rfl; have s8c3 : w20.cell? ⟨b8, 3, none⟩ = some _ := (cell_of_row _ _ 3 _ _ _ HR20.out).trans rfl; have s8c4 : w20.cell? ⟨b8, 4, none⟩ = some _ := (cell_of_row _ _ 4 _ _ _ HR20.out).trans rfl; have s8c5 : w20.cell? ⟨b8, 5, none⟩ = some _ := (cell_of_row _ _ 5 _ _ _ HR20.out).trans rfl; have s8c6 : w20.cell? ⟨b8, 6, none⟩ = some _ := (cell_of_row _ _ 6 _ _ _ HR20.out).trans rfl; have s8c7 : w20.cell? ⟨b8, 7, none⟩ = some _ := (cell_of_row _ _ 7 _ _ _ HR20.out).trans rfl; have s8c8 : w20.cell? ⟨b8, 8, none⟩ = some _ := (cell_of_row _ _ 8 _ _ _ HR20.out).trans rfl
        have s4c0 : w20.cell? ⟨b4, 0, none⟩ = some _ := (cell_of_row _ _ 0 _ _ _ HR24.out).trans rfl; have s4c1 : w20.cell? ⟨b4, 1, none⟩ = some _ := (cell_of_row _ _ 1 _ _ _ HR24.out).trans rfl; have s4c2 : w20.cell? ⟨b4, 2, none⟩ = some _ := (cell_of_row _ _ 2 _ _ _ HR24.out).trans rfl; have s4c3 : w20.cell? ⟨b4, 3, none⟩ = some _ := (cell_of_row _ _ 3 _ _ _ HR24.out).trans rfl; have s4c4 : w20.cell? ⟨b4, 4, none⟩ = some _ := (cell_of_row _ _ 4 _ _ _ HR24.out).trans rfl; have s4c5 : w20.cell? ⟨b4, 5, none⟩ = some _ := (cell_of_row _ _ 5 _ _ _ HR24.out).trans rfl; have s4c6 : w20.cell? ⟨b4, 6, none⟩ = some _ := (cell_of_row _ _ 6 _ _ _ HR24.out).trans rfl; have s4c7 : w20.cell? ⟨b4, 7, none⟩ = some _ := (cell_of_row _ _ 7 _ _ _ HR24.out).trans rfl; have s4c8 : w20.cell? ⟨b4, 8, none⟩ = some _ := (cell_of_row _ _ 8 _ _ _ HR24.out).trans rfl
        go_wp2_with fail
        (with_reducible refine (HC84 w20 HB20.out).mono ?_)
        rintro e w21 ⟨rfl, hb21⟩
        have HB21 := Lib.hid hb21
        clear hb21 HC84
        go_upto_region 26 with (fail)
        go_region_held3 (fun w' => Below w19.heap.size w19 w') (first | exact HB21.out.drew | assumption) (first | (go_at_call 24; (with_reducible refine (HSN _ (by assumption)).out.mono ?_); rintro e w22 ⟨v22, N22, rfl, hv22, hb22⟩; have HV22 := Lib.hid hv22; clear hv22) | (go_at_call 23; (with_reducible refine (HV8 w22 v22 N22 hb22 HV22.out).out.mono ?_); rintro e w23 ⟨rfl, hb23⟩) | (go_at_call 11; (with_reducible refine (HAWW _ (by assumption)).out.mono ?_); rintro e w26 ⟨rfl, hb26⟩))
        have HF : Hid (Below w.heap.size w w26) := HBF.out.trans (hb26.mono HBF.out.size)
        go_wp2_with fail
        go_ret
        exact ⟨rfl, HF.out⟩
end Jn
end Go.Proofs.Ytmdpmpfjldgalaa
