/- The walk of write.apply. -/
import Derived.Test.YtoallpinpeolfaaDkC
namespace Go.Proofs.Ytoallpinpeolfaa
open Go.RowKit
namespace Dk

theorem map_splice (b : List UInt8) (i : Nat) (x : List UInt8) : Go.splice (b.map vb) i (x.map vb) = (splice b i x).map vb := by
  unfold Go.splice splice; simp

/-- what apply leaves -/
def ApP (w : World) (B : Nat) (A : Option Addr) (ca N : Nat) (l : List UInt8) (e : Ending) (w' : World) : Prop :=
  e = .returned (.tuple #[]) ∧ w'.ownsRow B 5 1 (.slice A N ca) N (l.map vb) ∧ ∀ S : List Nat, (∀ b, (Value.slice A N ca).ownBlock = some b → b ∈ S) → Chg S w w'

set_option maxRecDepth 100000 in
set_option maxHeartbeats 1000000 in
theorem apply_calls (B n : Nat) (A : Option Addr) (ca : Nat) (l : List UInt8) (m : Pm) (z : Int) (w : World) (ho : w.ownsRow B 5 1 (.slice A (64 * n) ca) (64 * n) (l.map vb)) (hn : n ≤ 65536)
    (hok : m.q.ok n) (hr : RB w m.a m.q.d) (hmc : m.q.d.length ≤ m.c) :
    Calls Try.prog 37 #[.agg #[.int .i64 (m.q.s : Int), .slice m.a m.q.d.length m.c], .slice A (64 * n) ca, .int .i64 z] w (ApP w B A ca (64 * n) (ap l m.q (clamp z m.q.k))) := by
  obtain ⟨_, _, e1, hnc, hcm, hlen, _⟩ := own_form ho
  cases e1
  have hll : l.length = 64 * n := by simpa using hlen
  unfold maxLen at hcm
  obtain ⟨hd1, hd2⟩ := hok
  have hkc := clamp_le z m.q.k
  have hcc := clamp_cast z m.q.k
  have HAP : Hid (ap l m.q (clamp z m.q.k) = splice l (64 * m.q.s) (m.q.d.take (64 * clamp z m.q.k))) := rfl
  have HAL : Hid ((m.q.d.take (64 * clamp z m.q.k)).length = 64 * clamp z m.q.k) := by show _ = _; rw [List.length_take]; omega
  generalize clamp z m.q.k = c at *
  generalize m.q.k = kk at *
  obtain ⟨⟨s, d⟩, a, mc⟩ := m
  simp only at *
  obtain ⟨dl, HDL⟩ : ∃ x, Hid (d.length = x) := ⟨_, rfl⟩
  rw [HDL.out] at hd1 hmc
  rw [HDL.out]
  obtain ⟨so, hso⟩ : ∃ so : Nat, so = 64 * s := ⟨_, rfl⟩
  obtain ⟨co, hco⟩ : ∃ co : Nat, co = 64 * c := ⟨_, rfl⟩
  rw [← hso, ← hco] at HAP
  rw [← hco] at HAL
  obtain ⟨N, hN⟩ : ∃ N : Nat, N = 64 * n := ⟨_, rfl⟩
  rw [← hN] at ho hnc hlen hll ⊢
  have he : min (max z 0) ((dl : Int) / 64) = (c : Int) := by omega
  have w1 : IntKind.i64.wrap ((s : Int) * 64) = (so : Int) := by rw [IntKind.wrap_i64]; omega
  have w2 : IntKind.i64.wrap ((c : Int) * 64) = (co : Int) := by rw [IntKind.wrap_i64]; omega
  have hsoN : so + co ≤ N := by omega
  have hcd : co ≤ dl := by omega
  have hdl : dl ≤ 4194304 := by omega
  have hN9 : N ≤ 4194304 := by omega
  have HO := Lib.hid ho
  have HR := Lib.hid hr
  have HLL := Lib.hid hll
  clear hso hco hN hd1 hd2 hcc hkc ho hr hlen hll
  have hcut1 : ∀ w', (Instr.slice 30 (.slice A N ca) (some (.int .i64 (so : Int))) none none).run Try.prog w' = .ok (.slice (cutA A so ca) (N - so) (ca - so)) w' := fun w' => run_cut_l Try.underlying30 (by kernel_rfl) size_u8 A N ca so (by omega) w'
  have hcut2 : ∀ w', (Instr.slice 30 (.slice a dl mc) none (some (.int .i64 (co : Int))) none).run Try.prog w' = .ok (.slice (cutA a 0 mc) co mc) w' := fun w' => run_cut_h Try.underlying30 (by kernel_rfl) a dl mc co (by omega) size_u8 w'
  rw [cutA_zero] at hcut2
  go_enter Try.func37, Try.ntmps37
  go_wp2_with fail
  have hk1 := heap_alloc_new w (.cells #[.int .i64 (s : Int), .slice a dl mc] 74)
  have hb1 := below1 w (.cells #[.int .i64 (s : Int), .slice a dl mc] 74)
  generalize w.alloc (.cells #[.int .i64 (s : Int), .slice a dl mc] 74) = wa at *
  have hs1 : w.heap.size < wa.heap.size := (Array.getElem?_eq_some_iff.1 hk1).1
  have x0 : wa.cell? ⟨w.heap.size, 0, none⟩ = some (.int .i64 (s : Int)) := (cell_of_row _ _ 0 _ _ _ hk1).trans rfl
  have x1 : wa.cell? ⟨w.heap.size, 1, none⟩ = some (.slice a dl mc) := (cell_of_row _ _ 1 _ _ _ hk1).trans rfl
  have HB1 := Lib.hid hb1
  have HO1 := Lib.hid (own_below HO.out hb1)
  have HR1 := Lib.hid (RB.below HR.out hb1)
  clear hk1 hb1
  obtain ⟨T, HT⟩ : ∃ T, Hid (T = (Value.slice A N ca).ownBlock.toList) := ⟨_, rfl⟩
  have hT : w.heap.size ∉ T := by
    rw [HT.out]; simp only [Option.mem_toList]; intro h; have := (World.ownsRow.lt HO.out _ h).2; omega
  have HT2 : Hid (∀ b, (Value.slice A N ca).ownBlock = some b → b ∈ T) := by intro b hb; rw [HT.out]; simpa using hb
  have y0 : ∀ w', Chg T wa w' → w'.cell? ⟨w.heap.size, 0, none⟩ = some (.int .i64 (s : Int)) := fun w' h => (World.cell?_of_block (a := ⟨w.heap.size, 0, none⟩) (h.block _ hs1 hT)).trans x0
  have y1 : ∀ w', Chg T wa w' → w'.cell? ⟨w.heap.size, 1, none⟩ = some (.slice a dl mc) := fun w' h => (World.cell?_of_block (a := ⟨w.heap.size, 1, none⟩) (h.block _ hs1 hT)).trans x1
  clear he
  go_region_held3 (fun w' => Chg T wa w') (first | exact (Chg.refl _ _).drew | exact Chg.refl _ _ | assumption) ((refine step_copyO _ (by rfl) _ _ 30 30 (by rfl) 5 Try.underlying30 size_u8 B N A ca (l.map vb) (own_below HO1.out (below_drew _)) so (by rfl) a co mc ((d.take co).map vb) (by rfl) (by rw [List.length_map]; exact HAL.out) (RB.take HR1.out co) (vb_one _) (by omega) ?_; intro wc hoc hwc; have hcc : Chg T wa wc := (Chg.refl T wa).drew.trans' (hwc.chg HT2.out)))
  have HOC := Lib.hid hoc
  have HCC := Lib.hid hcc
  have HWC := Lib.hid hwc
  clear hoc hcc hwc y0 y1
  go_wp2_with fail
  go_end0
  refine ⟨rfl, ?_, fun S hS => ((Chg.of_below HB1.out S).trans' (Chg.of_below (below_drew wa) S)).trans' (HWC.out.chg hS)⟩
  have := HOC.out
  rw [map_splice] at this
  rw [HAP.out]; exact this
end Dk
end Go.Proofs.Ytoallpinpeolfaa
