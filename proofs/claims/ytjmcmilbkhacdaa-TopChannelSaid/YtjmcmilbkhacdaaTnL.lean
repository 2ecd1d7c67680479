/- The walks of slices.Clone of byte strings, acknowledge, Unacked of an empty row. -/
import Derived.Test.YtjmcmilbkhacdaaTnK
namespace Go.Proofs.Ytjmcmilbkhacdaa
open Go.RowKit Go.Shelf
open Wi Wr
namespace Tc
set_option maxRecDepth 100000 in
set_option maxHeartbeats 1000000 in
theorem sclone_calls (A : Option Addr) (n c : Nat) (l : List Bs) (w : World) (hn : l.length = n) (hr : Rd w A (l.map bv)) (hm : n ≤ 100000) :
    Calls Try.prog 39 #[.slice A n c] w fun e w' => ∃ X cX, e = .returned (.slice X n cX) ∧ w'.ownsRow w.heap.size 32 1 (.slice X n cX) n (l.map bv) ∧ Below w.heap.size w w' := by
  have HN := Lib.hid hn
  have HR := Lib.hid hr
  clear hn hr
  cases A with
  | none =>
    have hl : l = [] := by
      cases l with
      | nil => rfl
      | cons x l => obtain ⟨_, _, e, _⟩ := HR.out 0 (bv x) rfl; cases e
    subst hl
    obtain rfl : n = 0 := HN.out.symm
    have hq := fun w' => Lib.run_eql_slice_nil (P := Try.prog) w' 28 32 none 0 c 0 0 Try.underlying28
    go_enter Try.func39, Try.ntmps39
    go_wp2_with fail
    go_ret
    exact ⟨none, 0, rfl, ⟨rfl, .inl ⟨rfl, rfl⟩⟩, Below.refl _ _⟩
  | some a =>
    have hq := fun w' => Lib.run_eql_slice_nil (P := Try.prog) w' 28 32 (some a) n c 0 0 Try.underlying28
    go_enter Try.func39, Try.ntmps39
    go_wp2_with (at_builtin; refine wpList_apps _ rfl (.tmp 5) (.tmp 6) 28 rfl w.heap.size 32 (.slice none 0 0) 24 Try.underlying28 info_yy rfl (.slice (some ⟨w.heap.size, 0, none⟩) 0 0) 0 [] rfl (own_empty _ _ _ _ rfl (Nat.le_refl _)) (some a) n c (l.map bv) rfl (by simp; exact HN.out) (Rd.alloc HR.out _) (bv_one _) (by simp only [maxLen]; omega) (by omega) (by simp) ?_; intro X cX w5 hown5 happ5; have HO5 := Lib.hid hown5; have HP5 := Lib.hid happ5; clear hown5 happ5)
    go_ret
    have hb5 : Below w.heap.size w w5 := (below1 w _).trans (HP5.out.below (own_empty w.heap.size _ _ _ rfl (Nat.le_refl _)) (by simp))
    refine ⟨X, cX, by simp, ?_, hb5⟩
    have := HO5.out
    simpa using this
/-- an acknowledgement was taken -/
def AckP (B g : Nat) (A : Option Addr) (m : Value) (S k N : Nat) (l : List Bs) (w : World) (e : Ending) (w' : World) : Prop :=
  e = .returned (.int .i64 0) ∧ ∃ A' n' c', IsA B w' g A' n' c' m S (max k N) (l.drop (N - k)) ∧ Chg (aS g A) w w' ∧ ∀ b ∈ rowS A', b ∈ rowS A ∨ w.heap.size ≤ b
set_option maxRecDepth 100000 in
set_option maxHeartbeats 2000000 in
theorem acknowledge_calls (B g n c : Nat) (A : Option Addr) (m : Value) (S k N : Nat) (l : List Bs) (w : World) (h : IsA B w g A n c m S k l) (hB : B ≤ w.heap.size) (hS : S ≤ 100000000) (hn : n ≤ 100000) (hN : N ≤ S) (hk : k + n = S) :
    Calls Try.prog 33 #[.pointer (some ⟨g, 0, none⟩), .int .u64 (N : Int)] w (AckP B g A m S k N l w) := by
  have HI := Lib.hid h
  have c0 : w.cell? ⟨g, 0, none⟩ = some (.int .i64 (S : Int)) := (cell_of_row _ _ 0 _ _ _ h.hd).trans rfl
  have c1 : w.cell? ⟨g, 1, none⟩ = some (.int .i64 (k : Int)) := (cell_of_row _ _ 1 _ _ _ h.hd).trans rfl
  have c3 : w.cell? ⟨g, 3, none⟩ = some (.slice A n c) := (cell_of_row _ _ 3 _ _ _ h.hd).trans rfl
  have d0 : decide ((S : Int) < (N : Int)) = false := by rw [decide_eq_false_iff_not]; omega
  have d0' : ¬ S < N := by omega
  have HU1 : Hid (IntKind.u64.wrap (S : Int) = (S : Int)) := Lib.hid (u64_of (by omega))
  have HU2 : Hid (IntKind.i64.wrap (N : Int) = (N : Int)) := Lib.hid (by rw [IntWalk.i64_in _ (by omega)])
  have HU3 : Hid (wrap64 (N : Int) = (N : Int)) := Lib.hid (by unfold wrap64; omega)
  have HU4 : Hid (wrap64 ((N : Int) - (k : Int)) = (N : Int) - (k : Int)) := Lib.hid (by unfold wrap64; omega)
  have HU5 : Hid (IntKind.i64.wrap ((N : Int) - (k : Int)) = (N : Int) - (k : Int)) := Lib.hid (by rw [IntWalk.i64_in _ (by omega)])
  clear h
  by_cases hkn : N ≤ k
  · have d1 : decide (0 < (N : Int) - (k : Int)) = false := by rw [decide_eq_false_iff_not]; omega
    have d1' : ¬ k < N := by omega
    have HF : Hid (AckP B g A m S k N l w (.returned (.int .i64 0)) w) := Lib.hid ⟨rfl, A, n, c, by rw [Nat.max_eq_left hkn, Nat.sub_eq_zero_of_le hkn]; exact HI.out, Chg.refl _ _, fun b hb => .inl hb⟩
    have hu1 := HU1.out
    have hu2 := HU2.out
    have hu3 := HU3.out
    have hu4 := HU4.out
    have hu5 := HU5.out
    go_enter Try.func33, Try.ntmps33
    go_wp2_with fail
    go_ret
    exact HF.out
  · have d1 : decide (0 < (N : Int) - (k : Int)) = true := by rw [decide_eq_true_eq]; omega
    have d1' : k < N := by omega
    have hcut : ∀ w', (Instr.slice 28 (.slice A n c) (some (.int .i64 ((N : Int) - (k : Int)))) none none).run Try.prog w' = .ok (.slice (cutA A (N - k) c) (n - (N - k)) (c - (N - k))) w' := fun w' => by
      rw [show (N : Int) - (k : Int) = ((N - k : Nat) : Int) by omega]
      exact run_cut_l Try.underlying28 (by kernel_rfl) size_yy A n c (N - k) (by omega) w'
    obtain ⟨hnc, hcm, hrd⟩ := HI.out.br.rd
    have HCL : Hid (Calls Try.prog 39 #[.slice (cutA A (N - k) c) (n - (N - k)) (c - (N - k))] w fun e w' => ∃ X cX, e = .returned (.slice X (n - (N - k)) cX) ∧ w'.ownsRow w.heap.size 32 1 (.slice X (n - (N - k)) cX) (n - (N - k)) ((l.drop (N - k)).map bv) ∧ Below w.heap.size w w') := Lib.hid (sclone_calls _ _ _ (l.drop (N - k)) w (by rw [List.length_drop, HI.out.br.hn]) (by rw [List.map_drop]; exact Rd.cut hrd (N - k) c (by rw [List.length_map, HI.out.br.hn]; exact hnc)) (by omega))
    have hmax : max k N = N := Nat.max_eq_right (by omega)
    unfold AckP
    rw [hmax]
    clear hmax
    obtain ⟨j, HJ⟩ : ∃ y, Hid (N - k = y) := ⟨_, Lib.hid rfl⟩
    rw [HJ.out] at hcut HCL ⊢
    have hgl : g < w.heap.size := block_lt_of_cell c0
    have hu1 := HU1.out
    have hu2 := HU2.out
    have hu3 := HU3.out
    have hu4 := HU4.out
    have hu5 := HU5.out
    go_enter Try.func33, Try.ntmps33
    go_wp2_with fail
    refine HCL.out.mono ?_
    rintro e w2 ⟨X, cX, rfl, ho, hb⟩
    have HO := Lib.hid ho
    have HB := Lib.hid hb
    have HK2 := Lib.hid ((Chg.of_below hb []).blk HI.out.hd (by simp))
    clear ho hb c0 c1 c3
    have e3 : w2.cell? ⟨g, 3, none⟩ = some (.slice A n c) := (cell_of_row _ _ 3 _ _ _ HK2.out).trans rfl
    have f3 : w2.frozen? ⟨g, 3, none⟩ = false := frozen_of_row _ _ 3 _ _ HK2.out
    have hc3 : Chg [g] w2 (w2.setCell ⟨g, 3, none⟩ (.slice X (n - j) cX)) := (Chg.refl [g] w2).setCell (p := ⟨g, 3, none⟩) (.inl (by simp)) _
    have hk3 : (w2.setCell ⟨g, 3, none⟩ (.slice X (n - j) cX)).heap[g]? = some (Obj.cells #[.int .i64 (S : Int), .int .i64 (k : Int), .int .i64 0, .slice X (n - j) cX, m] 45 (0, 0)) := heap_setCell_same _ _ _ _ _ _ HK2.out
    have HC3 := Lib.hid hc3
    have HK3 := Lib.hid hk3
    clear hc3 hk3
    go_upto_region 6 with (fail)
    generalize w2.setCell _ _ = w3 at *
    clear f3 e3 hcut
    have e1 : w3.cell? ⟨g, 1, none⟩ = some (.int .i64 (k : Int)) := (cell_of_row _ _ 1 _ _ _ HK3.out).trans rfl
    have f1 : w3.frozen? ⟨g, 1, none⟩ = false := frozen_of_row _ _ 1 _ _ HK3.out
    have hc4 : Chg [g] w3 (w3.setCell ⟨g, 1, none⟩ (.int .i64 (N : Int))) := (Chg.refl [g] w3).setCell (p := ⟨g, 1, none⟩) (.inl (by simp)) _
    have hk4 : (w3.setCell ⟨g, 1, none⟩ (.int .i64 (N : Int))).heap[g]? = some (Obj.cells #[.int .i64 (S : Int), .int .i64 (N : Int), .int .i64 0, .slice X (n - j) cX, m] 45 (0, 0)) := heap_setCell_same _ _ _ _ _ _ HK3.out
    have HC4 := Lib.hid hc4
    have HK4 := Lib.hid hk4
    clear hc4 hk4
    go_upto_region 7 with (fail)
    generalize w3.setCell _ _ = w4 at *
    clear f1 e1
    have HF : Hid (∃ A' n' c', IsA B w4 g A' n' c' m S N (l.drop j) ∧ Chg (aS g A) w w4 ∧ ∀ b ∈ rowS A', b ∈ rowS A ∨ w.heap.size ≤ b) := Lib.hid (by
      have hc24 : Chg [g] w2 w4 := HC3.out.trans' HC4.out
      have hc : Chg (aS g A) w w4 := (Chg.of_below HB.out _).trans' (hc24.mono (by simp [aS]))
      have hrow : ∀ b ∈ rowS X, w.heap.size ≤ b := fun b hb => (HO.out.lt b ((mem_rowS _ _).1 hb)).1
      have hf := HI.out.nb.fz hB hc
      refine ⟨X, n - j, cX, ⟨HK4.out, HI.out.gB, ⟨?_, fun x hx => (HI.out.br.ok x (List.mem_of_mem_drop hx)).st hf⟩⟩, hc, fun b hb => .inr (hrow b hb)⟩
      exact own_baseS (hc24.ownS HO.out (fun b hb hm => by have := (HO.out.lt b hb).1; rw [List.mem_singleton.1 hm] at this; omega)) hB)
    go_wp2_with fail
    go_ret
    exact ⟨rfl, HF.out⟩
set_option maxRecDepth 100000 in
set_option maxHeartbeats 1000000 in
theorem unacked_calls (g : Nat) (v0 v1 v2 v4 : Value) (A : Option Addr) (c : Nat) (w : World) (h : w.heap[g]? = some (Obj.cells #[v0, v1, v2, .slice A 0 c, v4] 45 (0, 0))) :
    Calls Try.prog 11 #[.pointer (some ⟨g, 0, none⟩)] w fun e w' => e = .returned (.slice none 0 0) ∧ w = w' := by
  have c3 : w.cell? ⟨g, 3, none⟩ = some (.slice A 0 c) := (cell_of_row _ _ 3 _ _ _ h).trans rfl
  clear h
  go_enter Try.func11, Try.ntmps11
  go_wp2_with fail
  go_loopw [3, 11] (fun v i wr => v = .slice none 0 0 ∧ i = .int .i64 0 ∧ w = wr) (fun _ _ _ => 0)
  case atStart => exact ⟨rfl, rfl, rfl⟩
  case round =>
    obtain ⟨rfl, rfl, rfl⟩ := hrel
    go_wp2_with fail
    go_ret
    exact ⟨rfl, rfl⟩
end Tc
end Go.Proofs.Ytjmcmilbkhacdaa
