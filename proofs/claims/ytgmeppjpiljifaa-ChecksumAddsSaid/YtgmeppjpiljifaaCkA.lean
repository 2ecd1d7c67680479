/- The walks of checksum.shift, refmeshref04.shift, checksum.tableOf. -/
import Derived.Test.YtgmeppjpiljifaaRows
import Derived.Test.YtgmeppjpiljifaaMem
import Derived.Test.YtgmeppjpiljifaaCrc
import Derived.Outline
import Derived.WalkLawsBesides
import Derived.WalkSpells
import Derived.Deep.DeepFit
import Derived.Deep.WholeRow
import Derived.Laws.CopyOwn
namespace Go.Proofs.Ytgmeppjpiljifaa
open Go.RowKit
namespace Ck

theorem sh_test (c : BitVec 64) : (bits BinOp.and IntKind.u64 (c.toNat : Int) 1 == 1) = c.getLsbD 0 := by
  have e : (1 : Int) = ((1#64).toNat : Int) := rfl
  rw [e, and_bv]
  have h1 : (c &&& 1#64).toNat = (c.getLsbD 0).toNat := by
    rw [BitVec.toNat_and]
    show c.toNat &&& 1 = _
    rw [Nat.and_one_is_mod, ← BitVec.testBit_toNat, Nat.testBit_zero]
    rcases Nat.mod_two_eq_zero_or_one c.toNat with h | h <;> simp [h]
  rw [h1]
  cases c.getLsbD 0 <;> rfl

theorem half_bv (c : BitVec 64) : (c.toNat : Int) / (2 : Int) = ((c >>> 1).toNat : Int) := shr_bv c 1

theorem shift_calls (c : BitVec 64) (w : World) :
    Calls Try.prog 27 #[vw c] w fun e w' => e = .returned (vw (Crc.sh c)) ∧ w = w' := by
  have ht := sh_test c
  cases h : c.getLsbD 0
  all_goals
    rw [h] at ht
    have H := Lib.hid h
    clear h
    go_enter Try.func27, Try.ntmps27
    go_wp2
    go_ret
    refine ⟨?_, rfl⟩
    rw [half_bv]
  · unfold Crc.sh; rw [H.out]; rfl
  · rw [show (14514072000185962306 : Int) = (Crc.poly.toNat : Int) from rfl, xor_bv]
    unfold Crc.sh; rw [H.out]; rfl

theorem rshift_calls (c : BitVec 64) (w : World) :
    Calls Try.prog 24 #[vw c] w fun e w' => e = .returned (vw (Crc.sh c)) ∧ w = w' := by
  have hlt := c.isLt
  have ht : ((c.toNat : Int) % 2 == 1) = c.getLsbD 0 := by
    rw [← BitVec.testBit_toNat, Nat.testBit_zero]
    rcases Nat.mod_two_eq_zero_or_one c.toNat with h | h
    · rw [h]; simp; omega
    · rw [h]; simp; omega
  cases h : c.getLsbD 0
  all_goals
    rw [h] at ht
    have H := Lib.hid h
    clear h
    go_enter Try.func24, Try.ntmps24
    go_wp2
    go_ret
    refine ⟨?_, rfl⟩
    rw [half_bv]
  · unfold Crc.sh; rw [H.out]; rfl
  · rw [show (14514072000185962306 : Int) = (Crc.poly.toNat : Int) from rfl, xor_bv]
    unfold Crc.sh; rw [H.out]; rfl

def z256 : Array Value := Array.replicate 256 (.int .u64 0)
/-- the table after k rounds -/
def tabs (k : Nat) : Array Value := ((List.range 256).map fun i => if i < k then vw (Crc.tab i) else .int .u64 0).toArray
theorem size_tabs (k : Nat) : (tabs k).size = 256 := by simp [tabs]
theorem tabs_zero : tabs 0 = z256 := by kernel_rfl
theorem get_tabs (k i : Nat) (h : i < 256) : (tabs k)[i]? = some (if i < k then vw (Crc.tab i) else .int .u64 0) := by
  simp [tabs, h]
theorem tabs_succ (k : Nat) (h : k < 256) : (tabs k).setIfInBounds k (vw (Crc.tab k)) = tabs (k + 1) := by
  apply Array.ext_getElem?
  intro i
  rw [Array.getElem?_setIfInBounds]
  by_cases hi : i < 256
  · rw [get_tabs _ _ hi, get_tabs _ _ hi]
    by_cases hk : k = i
    · subst hk; simp [size_tabs, h]
    · rw [if_neg hk]
      by_cases h1 : i < k
      · rw [if_pos h1, if_pos (by omega)]
      · rw [if_neg h1, if_neg (by omega)]
  · rw [if_neg (by omega)]
    simp [tabs, hi]
theorem tabs_one (k : Nat) : (tabs k).all (·.oneCell') = true := by
  rw [Array.all_eq_true_iff_forall_mem]
  intro v hv
  simp only [tabs, List.mem_toArray, List.mem_map] at hv
  obtain ⟨i, _, rfl⟩ := hv
  split <;> rfl
theorem info_arr : (Try.prog.info? 43).map (fun i => (i.zero, i.size)) = some (some (.agg z256), 256) := by kernel_rfl

set_option maxRecDepth 100000 in
theorem tableOf_calls (w : World) :
    Calls Try.prog 23 #[] w fun e w' => e = .returned (.agg (tabs 256)) ∧ Below w.heap.size w w' := by
  obtain ⟨hz, hsz⟩ := zero_of_info info_arr
  have HS := Lib.hid hsz
  clear hsz
  go_enter Try.func23, Try.ntmps23
  go_wp2_with fail
  clear hz
  go_loopw [4] (fun i wr => ∃ k : Nat, k ≤ 256 ∧ i = .int .i64 k ∧ wr.heap[w.heap.size]? = some (.cells z256 43 (0, 0)) ∧ wr.heap[w.heap.size + 1]? = some (.cells (tabs k) 43 (0, 0)) ∧ Below w.heap.size w wr) (fun i _ => 256 - (intOf i).toNat)
  case atStart => 
    refine ⟨0, by omega, rfl, ?_, ?_, ?_⟩
    · exact heap_alloc2_old _ _ _
    · rw [tabs_zero]; exact heap_alloc2_new _ _ _
    · exact ((Below.refl _ _).alloc (Nat.le_refl _) _).alloc (by simp) _
  case round =>
    obtain ⟨k, hk, rfl, h0, h1, hb⟩ := hrel
    by_cases hlt : k < 256
    · have hB := Lib.hid hb
      have H0 := Lib.hid h0
      have H1 := Lib.hid h1
      have hc : wr.cell? ⟨w.heap.size + 1, k, none⟩ = some (.int .u64 0) := by
        rw [cell_of_row _ _ _ _ _ _ h1, get_tabs _ _ hlt, if_neg (by omega)]
      have hf : wr.frozen? ⟨w.heap.size + 1, k, none⟩ = false := frozen_of_row _ _ _ _ _ h1
      clear hb h0 h1
      have hd : decide ((k : Int) < 256) = true := by simp; omega
      go_wp2_with fail
      go_loop [9, 3] (fun i c => ∃ j : Nat, j ≤ 8 ∧ i = .int .i64 j ∧ c = vw (Crc.shN j (BitVec.ofNat 64 k))) (fun i _ => 8 - (intOf i).toNat)
      case atStart => 
        refine ⟨0, by omega, rfl, ?_⟩
        show Value.int .u64 k = .int .u64 ((BitVec.ofNat 64 k).toNat : Int)
        rw [BitVec.toNat_ofNat, Nat.mod_eq_of_lt (by omega)]
      case round =>
        obtain ⟨j, hj, rfl, rfl⟩ := hrel
        by_cases hj8 : j < 8
        · have hd2 : decide ((j : Int) < 8) = true := by simp; omega
          go_wp2_with (go_at_call 27; refine (shift_calls _ _).mono ?_; rintro e w' ⟨rfl, rfl⟩)
          go_round
          case rel => exact ⟨j + 1, by omega, by go_num, by rw [Crc.shN_succ]⟩
          case measure => simp [intOf]; omega
        · go_wp2
          go_roundw
          case rel =>
            obtain rfl : j = 8 := by omega
            refine ⟨k + 1, by omega, by go_num, ?_, ?_, hB.out.setCell (by simp) _⟩
            · rw [heap_setCell_other _ _ _ _ (by simp)]; exact H0.out
            · rw [heap_setCell_same _ _ _ _ _ _ H1.out]
              exact congrArg (fun c => some (Obj.cells c 43 (0, 0))) (tabs_succ k hlt)
          case measure => simp [intOf]; omega
    · obtain rfl : k = 256 := by omega
      have hB := Lib.hid hb
      go_wp2_with (first | (refine wpList_load_row rfl 43 _ rfl (w.heap.size + 1) rfl 43 _ (0, 0) _ h1 Try.underlying43 rfl (by rw [size_tabs]; exact HS.out) ?_) | (refine wpList_store_row rfl 43 _ _ rfl w.heap.size _ rfl rfl 43 _ h0 (by rw [size_tabs]; exact HS.out) (by rw [size_tabs]; rfl) (tabs_one _) ?_))
      refine bodyPost_ret (results_cell_row rfl _ _ w.heap.size 43 (tabs 256) (0, 0) _ rfl (setRow_heap _ _ _ _ _ _ h0) Try.underlying43 rfl (by rw [size_tabs]; exact HS.out)) rfl ⟨rfl, below_setRow hb (Nat.le_refl _) _⟩
end Ck
end Go.Proofs.Ytgmeppjpiljifaa
