/- Two disks; the walk of Clone. -/
import Derived.Test.YtoallpinpeolfaaDkU
import Derived.Deep.DeepCutAuto
namespace Go.Proofs.Ytoallpinpeolfaa
open Go.RowKit
namespace Dk

/-- a clone: its blocks are new, the data of its writes are shared -/
def CloneP (w : World) (E : List Nat) (D : St) (e : Ending) (w' : World) : Prop :=
  ∃ c M, e = .returned (.pointer (some ⟨c, 0, none⟩)) ∧ IsD w' c M E D ∧ (∀ x ∈ M, w.heap.size ≤ x) ∧ Below w.heap.size w w'

set_option maxRecDepth 100000 in
set_option maxHeartbeats 2000000 in
theorem diskClone_calls (g : Nat) (M E : List Nat) (D : St) (w : World) (h : IsD w g M E D) (hp : D.p.length ≤ 1000) :
    Calls Try.prog 27 #[.pointer (some ⟨g, 0, none⟩)] w (CloneP w E D) := by
  obtain ⟨A, ca, X, cx, P, h⟩ := h
  have HI := Lib.hid h
  have hg := h.hd
  have c0 : w.cell? ⟨g, 0, none⟩ = some _ := (cell_of_row _ _ 0 _ _ _ hg).trans rfl
  have c1 : w.cell? ⟨g, 1, none⟩ = some _ := (cell_of_row _ _ 1 _ _ _ hg).trans rfl
  have c2 : w.cell? ⟨g, 2, none⟩ = some _ := (cell_of_row _ _ 2 _ _ _ hg).trans rfl
  have c3 : w.cell? ⟨g, 3, none⟩ = some _ := (cell_of_row _ _ 3 _ _ _ hg).trans rfl
  have hgl := (Array.getElem?_eq_some_iff.1 hg).1
  clear h hg
  go_enter Try.func27, Try.ntmps27
  go_upto_region 2 with (fail)
  have hb1 := below1 w (.cells #[.slice A (64 * D.n) ca, .slice X P.length cx, .int .i64 D.f, .bool D.x] 67)
  have hr1 := heap_alloc_new w (.cells #[.slice A (64 * D.n) ca, .slice X P.length cx, .int .i64 D.f, .bool D.x] 67)
  generalize w.alloc (.cells #[.slice A (64 * D.n) ca, .slice X P.length cx, .int .i64 D.f, .bool D.x] 67) = w1 at *
  have HB1 := Lib.hid hb1
  have HR1 := Lib.hid hr1
  have hs1 : w.heap.size < w1.heap.size := (Array.getElem?_eq_some_iff.1 hr1).1
  have z1 : ∀ w', Below w1.heap.size w1 w' → w'.cell? ⟨g, 1, none⟩ = some (.slice X P.length cx) := fun w' h => (h.cell (p := ⟨g, 1, none⟩) (by show g < _; omega)).trans ((hb1.cell (p := ⟨g, 1, none⟩) hgl).trans c1)
  have z0 : ∀ w', Below w1.heap.size w1 w' → w'.cell? ⟨g, 0, none⟩ = some (.slice A (64 * D.n) ca) := fun w' h => (h.cell (p := ⟨g, 0, none⟩) (by show g < _; omega)).trans ((hb1.cell (p := ⟨g, 0, none⟩) hgl).trans c0)
  have y0 := z0 w1 (Below.refl _ _)
  have y1 := z1 w1 (Below.refl _ _)
  have HCB : Hid (Calls Try.prog 34 #[.slice A (64 * D.n) ca] w1.drew fun e w' => ∃ Y cy, e = .returned (.slice Y (64 * D.n) cy) ∧ w'.ownsRow w1.heap.size 5 1 (.slice Y (64 * D.n) cy) (64 * D.n) (D.b.map vb) ∧ Below w1.heap.size w1 w') := by
    have hn := HI.out.ok.n2
    refine (cloneB_calls A (64 * D.n) ca D.b w1.drew HI.out.ok.b (RB.below (RB.of_own (HI.out.below hb1).du) (below_drew _)) (by omega)).mono ?_
    rintro e w2 ⟨Y, cy, rfl, h1, h2⟩
    rw [HI.out.ok.b] at h1 ⊢
    exact ⟨Y, cy, rfl, h1, (below_drew _).trans h2⟩
  have hpl : P.length ≤ 1000 := by have h1 := HI.out.pd; rw [h1, List.length_map] at hp; exact hp
  have HCW : Hid (∀ w', Below w1.heap.size w1 w' → Calls Try.prog 39 #[.slice X P.length cx] w' fun e w'' => ∃ X' cx', e = .returned (.slice X' P.length cx') ∧ w''.ownsRow w'.heap.size 74 2 (.slice X' P.length cx') P.length (pcells P) ∧ Below w'.heap.size w' w'') := by
    intro w' hb
    obtain ⟨_, _, e1, _, _, _, hr⟩ := own_formS (((HI.out.below hb1).below hb).pe)
    cases e1
    exact cloneW_calls X P.length cx (pcells P) w' (pcells_len P) hr (pcells_one P) (by omega)
  clear hb1 hr1 c0 c1 c2 c3
  go_region_law (first | (go_simp; go_at_call 34; refine HCB.out.mono ?_; rintro e w5 ⟨Y, cy, rfl, hy, hb5⟩; have HY := Lib.hid hy; have HB5 := Lib.hid hb5; have u1 := z1 w5 hb5; clear hy) | (go_simp; go_at_call 39; refine (HCW.out w5 HB5.out).mono ?_; rintro e w6 ⟨X6, cx6, rfl, hx, hb6⟩; have HX := Lib.hid hx; have HB6 := Lib.hid hb6; have HR6 := Lib.hid (((HB5.out.trans (hb6.mono HB5.out.size)).block _ hs1).trans HR1.out); have rc0 : w6.cell? ⟨w.heap.size, 0, none⟩ = some _ := (cell_of_row _ _ 0 _ _ _ HR6.out).trans rfl; have rf0 : w6.frozen? ⟨w.heap.size, 0, none⟩ = false := frozen_of_row _ _ _ _ _ HR6.out; have rc1 : w6.cell? ⟨w.heap.size, 1, none⟩ = some _ := (cell_of_row _ _ 1 _ _ _ HR6.out).trans rfl; have rf1 : w6.frozen? ⟨w.heap.size, 1, none⟩ = false := frozen_of_row _ _ _ _ _ HR6.out; have rc2 : w6.cell? ⟨w.heap.size, 2, none⟩ = some _ := (cell_of_row _ _ 2 _ _ _ HR6.out).trans rfl; have rf2 : w6.frozen? ⟨w.heap.size, 2, none⟩ = false := frozen_of_row _ _ _ _ _ HR6.out; have rc3 : w6.cell? ⟨w.heap.size, 3, none⟩ = some _ := (cell_of_row _ _ 3 _ _ _ HR6.out).trans rfl; have rf3 : w6.frozen? ⟨w.heap.size, 3, none⟩ = false := frozen_of_row _ _ _ _ _ HR6.out; clear hx hb6))
  all_goals
    have HF : Hid (CloneP w E D (.returned (.pointer (some ⟨w.heap.size, 0, none⟩))) ((w6.setCell ⟨w.heap.size, 0, none⟩ (.slice Y (64 * D.n) cy)).setCell ⟨w.heap.size, 1, none⟩ (.slice X6 P.length cx6))) := by
      have hcs : Chg [w.heap.size] w6 ((w6.setCell ⟨w.heap.size, 0, none⟩ (.slice Y (64 * D.n) cy)).setCell ⟨w.heap.size, 1, none⟩ (.slice X6 P.length cx6)) := ((Chg.refl [w.heap.size] w6).setCell (p := ⟨w.heap.size, 0, none⟩) (.inl (by simp)) _).setCell (p := ⟨w.heap.size, 1, none⟩) (.inl (by simp)) _
      have hb6 : Below w.heap.size w w6 := HB1.out.trans ((HB5.out.trans (HB6.out.mono HB5.out.size)).mono HB1.out.size)
      have s5 := HB5.out.size
      have s6 := HB6.out.size
      have hy6 := own_below HY.out HB6.out
      have ly := fun b (h : (Value.slice Y (64 * D.n) cy).ownBlock = some b) => hy6.lt b h
      have lx := fun b (h : (Value.slice X6 P.length cx6).ownBlock = some b) => HX.out.lt b h
      have hi6 := HI.out.below hb6
      refine ⟨w.heap.size, w.heap.size :: ((Value.slice Y (64 * D.n) cy).ownBlock.toList ++ (Value.slice X6 P.length cx6).ownBlock.toList), rfl, ⟨Y, cy, X6, cx6, P, ?_⟩, ?_, hb6.trans (hcs.below hb6.size (by simp))⟩
      · refine ⟨heap_setCell_same _ _ _ _ _ _ (heap_setCell_same _ _ _ _ _ _ HR6.out), hcs.own (hy6.older (Nat.zero_le _)) (fun b hb hx => ?_), hcs.ownS (HX.out.older (Nat.zero_le _)) (fun b hb hx => ?_), HI.out.pd, hi6.pr.chg hcs (fun x hx hE => ?_), HI.out.ok, by simp, fun b hb => by simp [hb], fun b hb => by simp [hb], fun x hx hE => ?_, fun x hx => ?_, fun x hx => ?_⟩
        · have := ly b hb; simp at hx; omega
        · have := lx b hb; simp at hx; omega
        · have := HI.out.el x hE; simp at hx; omega
        · have := HI.out.el x hE
          simp only [List.mem_cons, List.mem_append, Option.mem_toList] at hx
          rcases hx with rfl | hx | hx
          · omega
          · have := ly x hx; omega
          · have := lx x hx; omega
        · have := hcs.size
          simp only [List.mem_cons, List.mem_append, Option.mem_toList] at hx
          rcases hx with rfl | hx | hx
          · omega
          · have := ly x hx; omega
          · have := lx x hx; omega
        · have := HI.out.el x hx
          have := hcs.size
          omega
      · intro x hx
        simp only [List.mem_cons, List.mem_append, Option.mem_toList] at hx
        rcases hx with rfl | hx | hx
        · omega
        · have := ly x hx; omega
        · have := lx x hx; omega
    clear u1 z0 z1 y0 y1
    go_wp2_with fail
    go_ret
    exact HF.out
end Dk
end Go.Proofs.Ytoallpinpeolfaa
