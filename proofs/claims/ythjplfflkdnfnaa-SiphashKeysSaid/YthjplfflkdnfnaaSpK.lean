/- The walk of the closure in siphash.Derive. -/
import Derived.Test.YthjplfflkdnfnaaSpI
import Derived.Test.YthjplfflkdnfnaaApM
namespace Go.Proofs.Ythjplfflkdnfnaa
open Go.RowKit
namespace Sp
open Sip
attribute [local go_sem ↓] Go.wp_at_zero Go.wp_at_succ

theorem belowA {B : Nat} {w w1 : World} (h : Below B w w1) (hB : B ≤ w.heap.size) (o : Obj) : Below B w (w1.alloc o) := h.alloc (Nat.le_trans hB h.size) o
theorem belowC {B g : Nat} {w w1 w2 : World} (h : Below B w w1) (k : Chg [g] w1 w2) (hB : B ≤ w.heap.size) (hg : B ≤ g) : Below B w w2 := h.trans (k.below (Nat.le_trans hB h.size) (by simpa using hg))
theorem heap_first (w : World) (X Y : Obj) : ((w.alloc X).alloc Y).heap[w.heap.size]? = some X := (Below.heap_alloc _ _ _ (by simp)).trans (heap_alloc_new _ _)
theorem rd_blk {w : World} {h : Nat} {v : Value} {e : TypeId} {fr : Nat × Nat} (hh : w.heap[h]? = some (.cells #[v] e fr)) : Rd w (some ⟨h, 0, none⟩) [v] :=
  Rd.mk fun i u hu => by rw [Nat.zero_add, cell_of_row _ _ _ _ _ _ hh]; simpa using hu
theorem convB (s : ByteArray) (w : World) : (convert 9 23 (.string s)).run Try.prog w = .ok (.slice (some ⟨w.heap.size, 0, none⟩) s.size (grownCap w s.size 0 5))
      (w.drew.alloc (.cells (bytesRow s (grownCap w s.size 0 5)) 5 ((bytesRow s (grownCap w s.size 0 5)).size, (bytesRow s (grownCap w s.size 0 5)).size + 1))) :=
  run_bytes_of_string w _ _ _ s Try.underlying9 Try.underlying23 Try.underlying5

set_option maxRecDepth 100000 in
set_option maxHeartbeats 1000000 in
theorem part_calls (k0 k1 : BitVec 64) (y : UInt8) (s : ByteArray) (gk gl : Nat) (w : World) (hk : w.heap[gk]? = some (.cells #[vw k0, vw k1] 26 (0, 0))) (hl : w.heap[gl]? = some (.cells #[.string s] 9 (0, 0))) (hs : s.size ≤ 1000) :
    Calls Try.prog 28 #[vb y, .pointer (some ⟨gk, 0, none⟩), .pointer (some ⟨gl, 0, none⟩)] w fun e w' => e = .returned (vw (sum k0 k1 (s.data.toList ++ [y]))) ∧ Below w.heap.size w w' := by
  have hkl := (Array.getElem?_eq_some_iff.1 hk).1
  have hll := (Array.getElem?_eq_some_iff.1 hl).1
  have m0 : ∀ w', Below w.heap.size w w' → w'.cell? ⟨gk, 0, none⟩ = some (vw k0) := fun w' h => (cell_of_row _ _ 0 _ _ _ ((h.block _ hkl).trans hk)).trans rfl
  have m1 : ∀ w', Below w.heap.size w w' → w'.cell? ⟨gk, 1, none⟩ = some (vw k1) := fun w' h => (cell_of_row _ _ 1 _ _ _ ((h.block _ hkl).trans hk)).trans rfl
  have m2 : ∀ w', Below w.heap.size w w' → w'.cell? ⟨gl, 0, none⟩ = some (.string s) := fun w' h => (cell_of_row _ _ 0 _ _ _ ((h.block _ hll).trans hl)).trans rfl
  have hcv := convB s
  have HSZ : Hid (s.data.toList.length = s.size) := by show _ = _; simp
  have HLN : Hid ((s.data.toList ++ [y]).length = s.size + 1) := by show _ = _; simp
  have KS : ∀ w2 X k, Below w.heap.size w w2 → Rd w2 X (s.data.toList.map vb ++ [vb y]) → Hid (Calls Try.prog 11 #[.agg #[vw k0, vw k1], .slice X (s.size + 1) k] w2 fun e w' => e = .returned (vw (sum k0 k1 (s.data.toList ++ [y]))) ∧ Below w.heap.size w w') := fun w2 X k hb hr =>
    (sum_calls k0 k1 X (s.size + 1) k (s.data.toList ++ [y]) w2 HLN.out (by unfold RB; rw [List.map_append]; exact hr) (by omega)).mono fun e w' ⟨h1, h2⟩ => ⟨h1, hb.trans (h2.mono hb.size)⟩
  have n0 := World.new_ne w ⟨gk, 0, none⟩ (m0 w (Below.refl _ _))
  have n1 := World.new_ne w ⟨gk, 1, none⟩ (m1 w (Below.refl _ _))
  have n2 := World.new_ne w ⟨gl, 0, none⟩ (m2 w (Below.refl _ _))
  have q0 := m0 w (Below.refl _ _)
  have q1 := m1 w (Below.refl _ _)
  have q2 := m2 w (Below.refl _ _)
  clear hk hl
  go_enter Try.func28, Try.ntmps28
  go_wp2_with fail
  go_region_law (first | ((refine step_app_mark _ rfl (.tmp 7) (.tmp 9) 23 rfl 5 (.int .u8 0) 1 Try.underlying23 info_u8 _ s.size _ _ _ (by rfl) (by first | exact heap_alloc2_new _ _ _ | exact heap_first _ _ _) (Nat.le_refl _) (bytes_size _ _ _) _ (bytes_take _ _ _) (grownCap_ge _ _ _ _) _ 1 1 [vb y] (by rfl) rfl (by decide) (rd_blk (by first | exact heap_alloc2_new _ _ _ | exact heap_first _ _ _)) (by simp [Value.oneCell']) (by unfold maxLen; omega) (by omega) ?_; intro X kX wX hrX hcX; have hbX : Below w.heap.size w wX := Below.trans (by first | exact below2 _ _ _ | exact (below2 _ _ _).drew | exact (below2 _ _ _).drew.drew) (hcX.below (by simp; omega) (by simp)); clear hcX)) | (go_simp; go_at_call 11; refine (KS _ _ _ (by assumption) (by assumption)).out.mono ?_; rintro e w9 ⟨rfl, hb9⟩))
  all_goals
    go_wp2_with fail
    go_ret
    exact ⟨rfl, hb9⟩
end Sp
end Go.Proofs.Ythjplfflkdnfnaa
