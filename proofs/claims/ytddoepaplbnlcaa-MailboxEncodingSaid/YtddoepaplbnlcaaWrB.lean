/- The walks of slices.Grow on bytes and wire.AppendString. -/
import Derived.Test.YtddoepaplbnlcaaWrA
import Derived.Lib.AppendZerosOnto
import Derived.Lib.AppendZeros
import Derived.Lib.AppendStr
import Derived.Laws.CopyRow
namespace Go.Proofs.Ytddoepaplbnlcaa
open Go.RowKit
namespace Wi
open Wr

theorem run_copy_str {P : Program} (w : World) (dT sT ty elem : TypeId) (g o dLen dCap : Nat) (s : ByteArray) (cur : Array Value) (t : TypeId)
    (hu : P.underlying dT = some (.slice elem)) (hs : (P.info? elem).map (·.size) = some 1) (hg : w.heap[g]? = some (.cells cur t (0, 0))) (hn : s.size ≤ dLen) (hfit : o + s.size ≤ cur.size) :
    (Builtin.copy_ #[dT, sT] ty #[.slice (some ⟨g, o, none⟩) dLen dCap, .string s]).run P w =
      .ok (goInt s.size) (w.setRow g (cur.toList.take o ++ Lib.strCells s ++ cur.toList.drop (o + s.size)).toArray) := by
  have hst := run_storeCells_at P g o t (Lib.strCells s) 0 cur w hg (by simpa [Lib.strCells_length] using hfit) (Lib.strCells_oneCell s)
  simp only [Nat.add_zero, Lib.strCells_length] at hst
  have hfc : (Builtin.firstCells 1 s.size (.string s)).run P w = .ok (Lib.strCells s).toArray w := Lib.run_firstCells_string w 1 s
  cases hq : P.info? elem with
  | none => simp [hq] at hs
  | some i =>
    have hi : i.size = 1 := by simpa [hq] using hs
    have hmin : Nat.min s.size dLen = s.size := Nat.min_eq_left hn
    simp [Builtin.copy_, run_underlying hu, Builtin.lenOf, sizeOf, typeInfo, hq, hi, hmin, hfc, hst]

theorem wpList_copy_str {P : Program} {w : World} {ops : Array Oper} {rest : List Oper} {o : Oper} {a : Act} {Q : Exit → Act → World → Prop} (hgd : o.guard = none) (d s : Operand) (dT sT : TypeId)
    (ho : o.op = .call { callee := .builtin .copy, args := #[d, s], argTypes := #[dT, sT] }) (elem : TypeId) (hu : P.underlying dT = some (.slice elem)) (hsz : (P.info? elem).map (·.size) = some 1)
    (g off dLen dCap : Nat) (str : ByteArray) (hd : a.eval d = .slice (some ⟨g, off, none⟩) dLen dCap) (hs : a.eval s = .string str)
    (cur : Array Value) (t : TypeId) (hg : w.heap[g]? = some (.cells cur t (0, 0))) (hn : str.size ≤ dLen) (hfit : off + str.size ≤ cur.size)
    (h : wpList P ops Q rest (a.put o.dst (goInt str.size)) (w.setRow g (cur.toList.take off ++ Lib.strCells str ++ cur.toList.drop (off + str.size)).toArray)) : wpList P ops Q (o :: rest) a w := by
  refine wpList_plain hgd fun K hK => ?_
  have hrun := run_copy_str (P := P) w dT sT o.type elem g off dLen dCap str cur t hu hsz hg hn hfit
  unfold Oper.wp
  simp only [execOp, ho, resolve, invoke, builtin, Sem.run_bind, Sem.run_pure, Result.andThen_ok, List.map_toArray, List.map_cons, List.map_nil, hd, hs, hrun]
  exact hK _ _ h

/-- what Grow leaves -/
def GrowPost (w : World) (B g n m : Nat) (l : List UInt8) (e : Ending) (w' : World) : Prop :=
  ∃ g' c' cur, e = .returned (.slice (some ⟨g', 0, none⟩) n c') ∧ n + m ≤ c' ∧ c' ≤ maxLen ∧ w'.heap[g']? = some (.cells cur 5 (0, 0)) ∧ cur.size = c' ∧ cur.toList.take n = l.map vb ∧ (g' = g ∨ w.heap.size ≤ g') ∧ B ≤ g' ∧ Chg [] w w'

set_option maxRecDepth 100000 in
set_option maxHeartbeats 1000000 in
theorem grow_calls (B g n c m : Nat) (l : List UInt8) (cur : Array Value) (w : World) (hg : w.heap[g]? = some (.cells cur 5 (0, 0))) (hc : cur.size = c) (hnc : n ≤ c) (hcm : c ≤ maxLen) (hl : cur.toList.take n = l.map vb) (hB : B ≤ g) (hn : n ≤ 1000100) (hm : m ≤ 1000000) :
    Calls Try.prog 84 #[.slice (some ⟨g, 0, none⟩) n c, .int .i64 m] w (GrowPost w B g n m l) := by
  have hcm' := hcm
  unfold maxLen at hcm'
  have hgl := (Array.getElem?_eq_some_iff.1 hg).1
  by_cases hroom : n + m ≤ c
  · have HP : Hid (GrowPost w B g n m l (.returned (.slice (some ⟨g, 0, none⟩) n c)) w) := ⟨g, c, cur, rfl, hroom, hcm, hg, hc, hl, .inl rfl, hB, Chg.refl _ _⟩
    clear hg hc hl hcm
    go_enter Try.func84, Try.ntmps84
    go_wp2_with fail
    go_ret
    exact HP.out
  · obtain ⟨i0, hi0, hz0, hz1, hz2⟩ := info_parts info_u8
    have hold : (Builtin.firstCells i0.size c (.slice (some ⟨g, 0, none⟩) c c)).run Try.prog w.drew = .ok cur.toList.toArray w.drew := by
      refine run_firstCells_some w.drew i0.size c ⟨g, 0, none⟩ c c cur.toList (by simp [hc, hz1]) (fun j v hj => ?_)
      rw [addr_add, Nat.zero_add]
      exact (cell_of_row _ _ j _ _ _ hg).trans (by simpa using hj)
    have hck : c + (n + m - c) = n + m := by omega
    have hrz : ∀ ty, (Builtin.append_ #[58, 3] ty #[.slice (some ⟨g, 0, none⟩) c c, .int .i64 ((m : Int) - ((c : Int) - (n : Int)))]).run Try.prog w =
        .ok (.slice (some ⟨w.heap.size, 0, none⟩) (n + m) (grownCap w (n + m) c 5)) (w.drew.alloc (.cells (cur.toList.toArray ++ Builtin.zeroCells (Value.int .u8 0).cells (n + m - c) ++ Builtin.zeroCells (Value.int .u8 0).cells (grownCap w (n + m) c 5 - (n + m))) 5)) := fun ty => by
      have h := Lib.run_append_grow_zeros (P := Try.prog) w 58 3 ty 5 i0 (.int .u8 0) .i64 .i64 Try.underlying58 Try.underlying3 hi0 hz0 (some ⟨g, 0, none⟩) c c cur.toList hold (n + m - c) (by omega) (by rw [hz1]; omega) (by omega) (by omega)
        (by rw [hz2]; omega) (by rw [hck]; exact growslice_fits (by omega) (by rw [hz2]; omega))
      rw [hck] at h
      rw [show (m : Int) - ((c : Int) - (n : Int)) = ((n + m - c : Nat) : Int) by omega]
      exact h
    have hGn : n + m ≤ grownCap w (n + m) c 5 := grownCap_ge w _ _ _
    have hGm := grownCap_le_maxLen w (n + m) c 5 (by unfold maxLen; omega)
    generalize grownCap w (n + m) c 5 = G at *
    have hGm' := hGm
    unfold maxLen at hGm'
    have HP : Hid (GrowPost w B g n m l (.returned (.slice (some ⟨w.heap.size, 0, none⟩) n G)) (w.drew.alloc (.cells (cur.toList.toArray ++ Builtin.zeroCells (Value.int .u8 0).cells (n + m - c) ++ Builtin.zeroCells (Value.int .u8 0).cells (G - (n + m))) 5))) := by
      refine ⟨w.heap.size, G, _, rfl, hGn, hGm, heap_alloc_new w.drew _, ?_, ?_, .inr (Nat.le_refl _), by omega, (Chg.refl [] w).drew.alloc _⟩
      · simp [Builtin.zeroCells, Value.cells, hc]; omega
      · simp only [Array.toList_append, List.append_assoc]
        rw [List.take_append_of_le_length (by simp; omega)]
        exact hl
    generalize cur.toList.toArray ++ Builtin.zeroCells (Value.int .u8 0).cells (n + m - c) ++ Builtin.zeroCells (Value.int .u8 0).cells (G - (n + m)) = big at *
    clear hg hc hl hcm hold hck hi0 hz0 hz1 hz2 hGm
    have HRZ := Lib.hid hrz
    clear hrz
    go_enter Try.func84, Try.ntmps84
    go_wp2_with (at_builtin; refine Lib.wpList_append_run _ rfl _ _ _ _ rfl _ _ rfl rfl _ _ (HRZ.out _) ?_)
    all_goals
      go_ret
      exact HP.out
end Wi
end Go.Proofs.Ytddoepaplbnlcaa
