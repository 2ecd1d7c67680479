/- The walks of slices.Grow on bytes and wire.AppendString. -/
import Derived.Test.YtjmcmilbkhacdaaWrA
import Derived.Lib.AppendZerosOnto
import Derived.Lib.AppendZeros
import Derived.Lib.AppendStr
import Derived.Laws.CopyRow
namespace Go.Proofs.Ytjmcmilbkhacdaa
open Go.RowKit
namespace Wi
open Wr

theorem run_copy_str {P : Program} (w : World) (dT sT ty elem : TypeId) (g o dLen dCap : Nat) (s : ByteArray) (cur : Array Value) (t : TypeId)
    (hu : P.underlying dT = some (.slice elem)) (hs : (P.info? elem).map (·.size) = some 1) (hg : w.heap[g]? = some (.cells cur t (0, 0))) (hn : s.size ≤ dLen) (hfit : o + s.size ≤ cur.size) :
    (Builtin.copy_ #[dT, sT] ty #[.slice (some ⟨g, o, none⟩) dLen dCap, .string s]).run P w =
      .ok (goInt s.size) (w.setRow g (cur.toList.take o ++ Lib.strCells s ++ cur.toList.drop (o + s.size)).toArray) := by
  have hst := run_storeCells_at P g o t (Lib.strCells s) 0 cur w hg (by simpa [Lib.strCells_length] using hfit) (Lib.strCells_oneCell s)
  simp only [Nat.add_zero, Lib.strCells_length] at hst
  have hfc : (Builtin.firstCells 1 s.size (.string s)).run P w = .ok (Lib.strCells s).toArray w := Lib.run_firstCells_string w 1 s
  cases hq : P.info? elem with
  | none => simp [hq] at hs
  | some i =>
    have hi : i.size = 1 := by simpa [hq] using hs
    have hmin : Nat.min s.size dLen = s.size := Nat.min_eq_left hn
    simp [Builtin.copy_, run_underlying hu, Builtin.lenOf, sizeOf, typeInfo, hq, hi, hmin, hfc, hst]

theorem wpList_copy_str {P : Program} {w : World} {ops : Array Oper} {rest : List Oper} {o : Oper} {a : Act} {Q : Exit → Act → World → Prop} (hgd : o.guard = none) (d s : Operand) (dT sT : TypeId)
    (ho : o.op = .call { callee := .builtin .copy, args := #[d, s], argTypes := #[dT, sT] }) (elem : TypeId) (hu : P.underlying dT = some (.slice elem)) (hsz : (P.info? elem).map (·.size) = some 1)
    (g off dLen dCap : Nat) (str : ByteArray) (hd : a.eval d = .slice (some ⟨g, off, none⟩) dLen dCap) (hs : a.eval s = .string str)
    (cur : Array Value) (t : TypeId) (hg : w.heap[g]? = some (.cells cur t (0, 0))) (hn : str.size ≤ dLen) (hfit : off + str.size ≤ cur.size)
    (h : wpList P ops Q rest (a.put o.dst (goInt str.size)) (w.setRow g (cur.toList.take off ++ Lib.strCells str ++ cur.toList.drop (off + str.size)).toArray)) : wpList P ops Q (o :: rest) a w := by
  refine wpList_plain hgd fun K hK => ?_
  have hrun := run_copy_str (P := P) w dT sT o.type elem g off dLen dCap str cur t hu hsz hg hn hfit
  unfold Oper.wp
  simp only [execOp, ho, resolve, invoke, builtin, Sem.run_bind, Sem.run_pure, Result.andThen_ok, List.map_toArray, List.map_cons, List.map_nil, hd, hs, hrun]
  exact hK _ _ h

/-- what Grow leaves -/
def GrowPost (w : World) (B g n m : Nat) (l : List UInt8) (e : Ending) (w' : World) : Prop :=
  ∃ g' c' cur, e = .returned (.slice (some ⟨g', 0, none⟩) n c') ∧ n + m ≤ c' ∧ c' ≤ maxLen ∧ w'.heap[g']? = some (.cells cur 5 (0, 0)) ∧ cur.size = c' ∧ cur.toList.take n = l.map vb ∧ (g' = g ∨ w.heap.size ≤ g') ∧ B ≤ g' ∧ Chg [] w w'

end Wi
end Go.Proofs.Ytjmcmilbkhacdaa
