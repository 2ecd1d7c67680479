/- The walk of pair.prefix. -/
import Derived.Test.YtjmcmilbkhacdaaTnQ
import Derived.BigQuiet
namespace Go.Proofs.Ytjmcmilbkhacdaa
open Go.RowKit Go.Shelf
open Wi Wr
namespace Tc
set_option maxRecDepth 100000 in
set_option maxHeartbeats 4000000 in
theorem prefix_calls (B : Nat) (M : Ms) (w : World) (h : IsP B w M) (hv : Inv M) (hB : B ≤ w.heap.size) (hS : M.S ≤ 1000) : Calls Try.prog 7 #[.pointer (some ⟨M.x, 0, none⟩)] w fun e w' => e = .returned (.bool true) ∧ Below w.heap.size w w' := by
  have HI := Lib.hid h
  have hgl := hv.gln
  have hrS := hv.rS
  have HEQ : Hid (∀ k (h1 : k < M.gl.length) (h2 : k < M.sl.length), M.gl[k].d = M.sl[k].d) := Lib.hid (fun k h1 h2 => by
    have h3 := congrArg (fun l => l[k]?) hv.gl
    simp only [sd, List.getElem?_map, List.getElem?_eq_getElem h1, List.getElem?_take, List.getElem?_eq_getElem h2] at h3
    rw [if_pos (by omega)] at h3
    simpa using h3)
  have x3 : w.cell? ⟨M.x, 3, none⟩ = some (.slice M.As M.ns M.cs) := (cell_of_row _ _ 3 _ _ _ h.hd).trans rfl
  have x4 : w.cell? ⟨M.x, 4, none⟩ = some (.slice M.Ag M.ng M.cg) := (cell_of_row _ _ 4 _ _ _ h.hd).trans rfl
  have HNG : Hid (M.gl.length = M.ng) := Lib.hid h.gt.hn
  have HNS : Hid (M.sl.length = M.ns) := Lib.hid h.st.hn
  have hxl : M.x < w.heap.size := h.lt (i := 0) (by omega) (by simp [Ms.P])
  have hle : M.ng ≤ M.ns := by have := hv.hS; have := HNG.out; have := HNS.out; omega
  have hns : M.ns ≤ 1000 := by have := hv.hS; have := HNS.out; omega
  clear h hv hgl hrS
  generalize M.x = x at *
  generalize M.ng = n1 at *
  generalize M.ns = n2 at *
  have d1 : decide (n2 < n1) = false := by rw [decide_eq_false_iff_not]; omega
  have d1i : decide ((n2 : Int) < (n1 : Int)) = false := by rw [decide_eq_false_iff_not]; omega
  go_enter Try.func7, Try.ntmps7
  go_upto_region 1 with (fail)
  go_quiet (fail)
  have hbq : Below w.heap.size w (w.drewN nq) := blw_drewN (Below.refl _ _) _
  have HBQ := Lib.hid hbq
  have y4 : (w.drewN nq).cell? ⟨x, 4, none⟩ = some (.slice M.Ag n1 M.cg) := (hbq.cell (p := ⟨x, 4, none⟩) hxl).trans x4
  have y3 : (w.drewN nq).cell? ⟨x, 3, none⟩ = some (.slice M.As n2 M.cs) := (hbq.cell (p := ⟨x, 3, none⟩) hxl).trans x3
  have hsz : w.heap.size ≤ (w.drewN nq).heap.size := hbq.size
  clear hbq x3 x4
  generalize w.drewN nq = w2 at *
  go_wp2_with fail
  clear d1 d1i
  have X3 := Lib.hid y3
  have hx2 : x < w2.heap.size := block_lt_of_cell y3
  clear y4 y3
  go_loopw [21] (fun i wr => ∃ k : Nat, k ≤ n1 ∧ i = .int .i64 (k : Int) ∧ Below w2.heap.size w2 wr) (fun i _ => n1 - (intOf i).toNat)
  case atStart => exact ⟨0, Nat.zero_le _, rfl, Below.refl _ _⟩
  case round =>
    obtain ⟨k, hk, rfl, hb⟩ := hrel
    have HB := Lib.hid hb
    have HBW := Lib.hid (HBQ.out.trans (hb.mono hsz))
    have y3 : wr.cell? ⟨x, 3, none⟩ = some (.slice M.As n2 M.cs) := (hb.cell (p := ⟨x, 3, none⟩) hx2).trans X3.out
    clear hb
    by_cases hlt : k < n1
    · have d4 : decide (k < n1) = true := by simpa using hlt
      have d4' : decide ((k : Int) < (n1 : Int)) = true := by simp; omega
      have hk1 : k < M.gl.length := by have := HNG.out; omega
      have hk2 : k < M.sl.length := by have := HNS.out; omega
      obtain ⟨b, off, hA, hbl, hcell⟩ := Rd.cells (Rd.below HI.out.gt.rd.2.2 HBW.out) (by simpa using (by omega : 0 < M.gl.length))
      obtain ⟨b', off', hB', hbl', hcell'⟩ := Rd.cells (Rd.below HI.out.st.rd.2.2 HBW.out) (by simpa using (by omega : 0 < M.sl.length))
      have hc := hcell k _ (by rw [List.getElem?_map, List.getElem?_eq_getElem hk1]; rfl)
      have hc' := hcell' k _ (by rw [List.getElem?_map, List.getElem?_eq_getElem hk2]; rfl)
      have HM := Lib.hid ((HI.out.gt.ok M.gl[k] (List.getElem_mem hk1)).st (Fz.of_below hB HBW.out)).rd
      have HM' := Lib.hid ((HI.out.st.ok M.sl[k] (List.getElem_mem hk2)).st (Fz.of_below hB HBW.out)).rd
      have HED := Lib.hid (HEQ.out k hk1 hk2)
      unfold bv at hc hc'
      generalize M.gl[k] = m at *
      generalize M.sl[k] = m' at *
      obtain ⟨md, ma, mc⟩ := m
      obtain ⟨md', ma', mc'⟩ := m'
      simp only at *
      have hed : md = md' := HED.out
      subst hed
      obtain ⟨q, HQ⟩ : ∃ x, Hid (md.length = x) := ⟨_, rfl⟩
      rw [HQ.out] at hc hc'
      have z1 : ∀ z, (convert 32 9 (.slice ma q mc)).run Try.prog (wr.drewN z) = .ok (.string ⟨md.toArray⟩) (wr.drewN z) := fun z => run_str (P := Try.prog) (w := wr.drewN z) q mc 32 5 9 Try.underlying32 Try.underlying5 Try.underlying9 HQ.out (HM.out.below (blw_drewN (Below.refl _ _) z))
      have z2 : ∀ z, (convert 32 9 (.slice ma' q mc')).run Try.prog (wr.drewN z) = .ok (.string ⟨md.toArray⟩) (wr.drewN z) := fun z => run_str (P := Try.prog) (w := wr.drewN z) q mc' 32 5 9 Try.underlying32 Try.underlying5 Try.underlying9 HQ.out (HM'.out.below (blw_drewN (Below.refl _ _) z))
      have k1 : (k : Int) < (n1 : Int) := by omega
      have k2 : (k : Int) < (n2 : Int) := by omega
      have k0 : (0 : Int) ≤ (k : Int) := by omega
      have HBD := fun z => Lib.hid (blw_drewN HB.out z)
      have HREL : Hid (∀ z, ∃ k' : Nat, k' ≤ n1 ∧ (Value.int .i64 ((k : Int) + 1)) = .int .i64 (k' : Int) ∧ Below w2.heap.size w2 (wr.drewN z)) := Lib.hid fun z =>
        ⟨k + 1, by omega, by go_num, (HBD z).out⟩
      clear hcell hcell'
      rw [hB'] at y3
      rw [hA, hB']
      clear hA hB'
      clear hlt
      go_upto_region 6 with (fail)
      go_quiet (fail)
      go_wp2_with fail
      go_roundw
      case rel => exact HREL.out _
      case measure => simp [intOf]; omega
    · have d4 : decide (k < n1) = false := by simpa using hlt
      have d4' : decide ((k : Int) < (n1 : Int)) = false := by simp; omega
      clear hlt
      go_wp2_with fail
      go_ret
      exact ⟨rfl, HBW.out⟩
end Tc
end Go.Proofs.Ytjmcmilbkhacdaa
