/- Appends of bytes: the laws that the walks of byte slices use. -/
import Derived.Test.YtddoepaplbnlcaaWrM
namespace Go.Proofs.Ytddoepaplbnlcaa
open Go.RowKit
namespace Wi
open Wr

/-- the slice v of the call's own holds the bytes l -/
def OB (w : World) (B : Nat) (v : Value) (l : List UInt8) : Prop := w.ownsRow B 5 1 v l.length (l.map vb)
theorem OB.below {w w' : World} {B : Nat} {v : Value} {l : List UInt8} (h : OB w B v l) (hb : Below w.heap.size w w') : OB w' B v l := own_below h hb
theorem OB.base {w : World} {B B' : Nat} {v : Value} {l : List UInt8} (h : OB w B v l) (hb : B' ≤ B) : OB w B' v l := own_base h hb
theorem OB.rb {w : World} {B k c : Nat} {X : Option Addr} {l : List UInt8} (h : OB w B (.slice X k c) l) : RB w X l ∧ k = l.length ∧ k ≤ c ∧ c ≤ maxLen := by
  obtain ⟨A, cap, e, h1, h2, h3, h4⟩ := own_form h
  cases e
  exact ⟨h4, rfl, h1, h2⟩
theorem own_one (B : Nat) (e : TypeId) (u : World) (n : Nat) (v : Value) (hn : u.heap.size = n) (hB : B ≤ n) : (u.alloc (.cells #[v] e)).ownsRow B e 1 (.slice (some ⟨n, 0, none⟩) 1 1) 1 [v] := by
  subst hn
  exact own_of_blk hB (heap_alloc_new _ _) (Nat.le_refl _) (by simp [maxLen]) rfl rfl

section
variable {ops : Array Oper} {rest : List Oper} {o : Oper} {a : Act} {Q : Exit → Act → World → Prop} {K : Act → World → Prop} {E : Prop}
/-- bytes appended -/
theorem wp_appB (w : World) (s x : Operand) (ho : o.op = .call { callee := .builtin .append, args := #[s, x], argTypes := #[58, 58] })
    (B : Nat) (v : Value) (l l2 : List UInt8) (hs : a.eval s = v) (hown : OB w B v l) (A : Option Addr) (m c : Nat) (hx : a.eval x = .slice A m c) (hm : l2.length = m) (hr : RB w A l2)
    (hlen : l.length + m ≤ 100000000) (hbase : B ≤ w.heap.size)
    (h : ∀ X cap k w', Hid (k = (l ++ l2).length) → k ≤ l.length + m → l.length + m ≤ k → Hid (OB w' B (.slice X k cap) (l ++ l2)) → Hid (App w v w' (.slice X k cap)) → Hid (Below B w w') → w.heap.size ≤ w'.heap.size → K (a.put o.dst (.slice X k cap)) w') :
    o.wp Try.prog a w K Q := by
  refine wp_app w s x 58 ho B 5 (.int .u8 0) 1 Try.underlying58 info_u8 rfl v l.length (l.map vb) hs hown A m c (l2.map vb) hx (by simpa using hm) hr (vb_one _) (by unfold maxLen; omega) (by omega) hbase ?_
  intro v' w' h2 h3
  obtain ⟨X, cap, rfl, _⟩ := own_form h2
  have hl : (l ++ l2).length = l.length + m := by simp [hm]
  refine h X cap (l.length + m) w' hl.symm (Nat.le_refl _) (Nat.le_refl _) ?_ h3 (h3.below hown hbase) h3.size
  show OB _ _ _ _
  unfold OB
  rw [hl, List.map_append]; exact h2
theorem appB (w : World) (hgd : o.guard = none) (s x : Operand) (ho : o.op = .call { callee := .builtin .append, args := #[s, x], argTypes := #[58, 58] })
    (B : Nat) (v : Value) (l l2 : List UInt8) (hs : a.eval s = v) (hown : OB w B v l) (A : Option Addr) (m c : Nat) (hx : a.eval x = .slice A m c) (hm : l2.length = m) (hr : RB w A l2)
    (hlen : l.length + m ≤ 100000000) (hbase : B ≤ w.heap.size)
    (h : ∀ X cap k w', Hid (k = (l ++ l2).length) → k ≤ l.length + m → l.length + m ≤ k → Hid (OB w' B (.slice X k cap) (l ++ l2)) → Hid (App w v w' (.slice X k cap)) → Hid (Below B w w') → w.heap.size ≤ w'.heap.size → wpList Try.prog ops Q rest (a.put o.dst (.slice X k cap)) w') :
    wpList Try.prog ops Q (o :: rest) a w :=
  wpList_plain hgd fun _ hK => wp_appB w s x ho B v l l2 hs hown A m c hx hm hr hlen hbase fun X cap k w' h1 h2 h3 h4 h5 h6 h7 => hK _ _ (h X cap k w' h1 h2 h3 h4 h5 h6 h7)
/-- 'append(b, x)': one byte -/
theorem app1 (w : World) (hgd : o.guard = none) (s x : Operand) (ho : o.op = .call { callee := .builtin .append, args := #[s, x], argTypes := #[58, 58] })
    (B : Nat) (v : Value) (l : List UInt8) (y : UInt8) (z : Int) (hs : a.eval s = v) (hown : OB w B v l) (hx : a.eval x = .slice (some ⟨w.heap.size, 0, none⟩) 1 1) (hz : Value.int .u8 z = vb y)
    (hlen : l.length + 1 ≤ 100000000) (hbase : B ≤ w.heap.size)
    (h : ∀ X cap k w', Hid (k = (l ++ [y]).length) → k ≤ l.length + 1 → l.length + 1 ≤ k → Hid (OB w' B (.slice X k cap) (l ++ [y])) → Hid (App w v w' (.slice X k cap)) → Hid (Below B w w') → w.heap.size ≤ w'.heap.size → wpList Try.prog ops Q rest (a.put o.dst (.slice X k cap)) w') :
    wpList Try.prog ops Q (o :: rest) a (w.alloc (.cells #[.int .u8 z] 5)) :=
  appB _ hgd s x ho B v l [y] hs (hown.below (below1 w _)) _ 1 1 hx rfl (by rw [hz]; exact Rd.one w _ _) hlen (Nat.le_trans hbase (by simp))
    fun X cap k w' h1 h2 h3 h4 h5 h6 h7 => h X cap k w' h1 h2 h3 h4 h5.out.alloc_left ((Below.refl _ _).alloc hbase _ |>.trans h6.out) (Nat.le_trans (by simp) h7)
/-- 'append([]byte{}, b...)': a copy -/
theorem app0 (w : World) (hgd : o.guard = none) (s x : Operand) (ho : o.op = .call { callee := .builtin .append, args := #[s, x], argTypes := #[58, 58] })
    (l : List UInt8) (hs : a.eval s = .slice (some ⟨w.heap.size, 0, none⟩) 0 0) (A : Option Addr) (m c : Nat) (hx : a.eval x = .slice A m c) (hm : l.length = m) (hr : RB w A l) (hlen : m ≤ 100000000)
    (h : ∀ X cap k w', Hid (k = l.length) → k ≤ m → m ≤ k → Hid (OB w' w.heap.size (.slice X k cap) l) → Hid (Below w.heap.size w w') → w.heap.size ≤ w'.heap.size → wpList Try.prog ops Q rest (a.put o.dst (.slice X k cap)) w') :
    wpList Try.prog ops Q (o :: rest) a (w.alloc (.cells #[] 5)) :=
  appB _ hgd s x ho w.heap.size _ [] l hs (own_empty _ _ _ _ rfl (Nat.le_refl _)) A m c hx hm (hr.alloc _) (by simpa using hlen) (by simp)
    fun X cap k w' h1 h2 h3 h4 h5 h6 h7 => h X cap k w' h1 (by simpa using h2) (by simpa using h3) h4 ((below1 w _).trans h6.out) (Nat.le_trans (by simp) h7)
/-- the same two in a region that draws its order -/
theorem st_appB (w : World) (hgd : o.guard = none) (s x : Operand) (ho : o.op = .call { callee := .builtin .append, args := #[s, x], argTypes := #[58, 58] })
    (B : Nat) (v : Value) (l l2 : List UInt8) (hs : a.eval s = v) (hown : OB w B v l) (A : Option Addr) (m c : Nat) (hx : a.eval x = .slice A m c) (hm : l2.length = m) (hr : RB w A l2)
    (hlen : l.length + m ≤ 100000000) (hbase : B ≤ w.heap.size)
    (h : ∀ X cap k w', Hid (k = (l ++ l2).length) → k ≤ l.length + m → l.length + m ≤ k → Hid (OB w' B (.slice X k cap) (l ++ l2)) → Hid (App w v w' (.slice X k cap)) → Hid (Below B w w') → w.heap.size ≤ w'.heap.size → K (a.put o.dst (.slice X k cap)) w') :
    if Region.wanted o (yielded ops a.tmps) = true then Oper.wp Try.prog o a w K Q else E := by
  have hw : Region.wanted o (yielded ops a.tmps) = true := by simp [Region.wanted, hgd]
  rw [if_pos hw]
  exact wp_appB w s x ho B v l l2 hs hown A m c hx hm hr hlen hbase h
theorem st_app0 (w : World) (hgd : o.guard = none) (s x : Operand) (ho : o.op = .call { callee := .builtin .append, args := #[s, x], argTypes := #[58, 58] })
    (l : List UInt8) (hs : a.eval s = .slice (some ⟨w.heap.size, 0, none⟩) 0 0) (A : Option Addr) (m c : Nat) (hx : a.eval x = .slice A m c) (hm : l.length = m) (hr : RB w A l) (hlen : m ≤ 100000000)
    (h : ∀ X cap k w', Hid (k = l.length) → k ≤ m → m ≤ k → Hid (OB w' w.heap.size (.slice X k cap) l) → Hid (Below w.heap.size w w') → w.heap.size ≤ w'.heap.size → K (a.put o.dst (.slice X k cap)) w') :
    if Region.wanted o (yielded ops a.tmps) = true then Oper.wp Try.prog o a (w.alloc (.cells #[] 5)) K Q else E :=
  st_appB _ hgd s x ho w.heap.size _ [] l hs (own_empty _ _ _ _ rfl (Nat.le_refl _)) A m c hx hm (hr.alloc _) (by simpa using hlen) (by simp)
    fun X cap k w' h1 h2 h3 h4 h5 h6 h7 => h X cap k w' h1 (by simpa using h2) (by simpa using h3) h4 ((below1 w _).trans h6.out) (Nat.le_trans (by simp) h7)
end

/-- a new slice with these bytes -/
def NewB (w : World) (l : List UInt8) (e : Ending) (w' : World) : Prop :=
  ∃ X c k, e = .returned (.slice X k c) ∧ k = l.length ∧ OB w' w.heap.size (.slice X k c) l ∧ Below w.heap.size w w'
end Wi
end Go.Proofs.Ytddoepaplbnlcaa
