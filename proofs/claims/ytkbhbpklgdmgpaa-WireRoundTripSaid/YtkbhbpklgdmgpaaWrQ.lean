/- The walks of refmeshlaw02.write and model. -/
import Derived.Test.YtkbhbpklgdmgpaaWrP
namespace Go.Proofs.Ytkbhbpklgdmgpaa
open Go.RowKit
namespace Wi
open Wr

/-- an item of the law -/
structure It where
  kd : UInt8
  n : BitVec 64
  i : Int
  s : ByteArray
  m : Int
  q : Int
  b : Bool
def It.cells (x : It) : List Value := [vb x.kd, vw x.n, .int .i64 x.i, .string x.s, .int .i64 x.m, .int .i64 x.q, .bool x.b]
def It.val (x : It) : Value := .agg x.cells.toArray
def It.fits (x : It) : Prop := -9223372036854775808 ≤ x.i ∧ x.i ≤ 9223372036854775807
/-- the encoding of an item -/
def encIt (x : It) : List UInt8 :=
  if x.kd.toNat % 5 = 0 then enc x.n.toNat else if x.kd.toNat % 5 = 1 then enc (zig x.i) else if x.kd.toNat % 5 = 2 then enc x.s.size ++ strB x.s else if x.kd.toNat % 5 = 3 then encID x.m x.q else [if x.b then 1 else 0]

theorem beq_mod (k j c : Nat) (h : k % 5 = j) : (((k : Int) % 5) == (c : Int)) = decide (j = c) := by
  subst h
  by_cases hc : k % 5 = c
  · rw [decide_eq_true hc, beq_iff_eq]; omega
  · rw [decide_eq_false hc, beq_eq_false_iff_ne]; omega


set_option maxRecDepth 100000 in
set_option maxHeartbeats 1000000 in
theorem write_calls (B : Nat) (v0 : Value) (l : List UInt8) (x : It) (w : World) (ho : Ext w B v0 l v0 w) (hl : l.length ≤ 900000) (hB : B ≤ w.heap.size) (hf : x.fits) (hs : x.s.size ≤ 100000) :
    Calls Try.prog 14 #[v0, x.val] w (ExtPost w B v0 (l ++ encIt x)) := by
  obtain ⟨kd, n, i, s, m, q, b⟩ := x
  obtain ⟨hf1, hf2⟩ := hf
  have HO := Lib.hid ho
  obtain ⟨X0, c0, e0, _, _⟩ := ho
  subst e0
  simp only at hf1 hf2 hs
  unfold It.val It.cells encIt
  simp only
  have HB1 := Lib.hid (below1 w (.cells #[vb kd, .int .u64 (n.toNat : Int), .int .i64 i, .string s, .int .i64 m, .int .i64 q, .bool b] 34))
  have HE := Lib.hid (HO.out.start HB1.out)
  have hB1 : B ≤ (w.alloc (.cells #[vb kd, .int .u64 (n.toNat : Int), .int .i64 i, .string s, .int .i64 m, .int .i64 q, .bool b] 34)).heap.size := Nat.le_trans hB HB1.out.size
  have HFIN : Hid (∀ L e w', ExtPost (w.alloc (.cells #[vb kd, .int .u64 (n.toNat : Int), .int .i64 i, .string s, .int .i64 m, .int .i64 q, .bool b] 34)) B (.slice X0 l.length c0) L e w' → ExtPost w B (.slice X0 l.length c0) L e w') := by
    rintro L e w' ⟨v, e1, h⟩
    exact ⟨v, e1, Ext.from HB1.out h⟩
  have hcase : kd.toNat % 5 = 0 ∨ kd.toNat % 5 = 1 ∨ kd.toNat % 5 = 2 ∨ kd.toNat % 5 = 3 ∨ kd.toNat % 5 = 4 := by omega
  rcases hcase with hj | hj | hj | hj | hj
  · rw [if_pos hj]
    have d0 := beq_mod kd.toNat _ 0 hj; have d1 := beq_mod kd.toNat _ 1 hj; have d2 := beq_mod kd.toNat _ 2 hj; have d3 := beq_mod kd.toNat _ 3 hj; simp at d0 d1 d2 d3
    have HU := Lib.hid (appendUint_calls B _ l n _ HE.out (by omega) hB1)
    clear hj hB1
    go_enter Try.func14, Try.ntmps14
    go_wp2_with fail
    refine HU.out.mono ?_
    rintro e w4 h4
    have HP := Lib.hid (HFIN.out _ _ _ h4)
    obtain ⟨v4, rfl, _⟩ := h4
    go_wp2_with fail
    go_ret
    exact HP.out
  · rw [if_neg (by omega), if_pos hj]
    have d0 := beq_mod kd.toNat _ 0 hj; have d1 := beq_mod kd.toNat _ 1 hj; have d2 := beq_mod kd.toNat _ 2 hj; have d3 := beq_mod kd.toNat _ 3 hj; simp at d0 d1 d2 d3
    have HU := Lib.hid (appendInt_calls B _ l i _ HE.out (by omega) hB1 hf1 hf2)
    clear hj hB1
    go_enter Try.func14, Try.ntmps14
    go_wp2_with fail
    refine HU.out.mono ?_
    rintro e w4 h4
    have HP := Lib.hid (HFIN.out _ _ _ h4)
    obtain ⟨v4, rfl, _⟩ := h4
    go_wp2_with fail
    go_ret
    exact HP.out
  · rw [if_neg (by omega), if_neg (by omega), if_pos hj]
    have d0 := beq_mod kd.toNat _ 0 hj; have d1 := beq_mod kd.toNat _ 1 hj; have d2 := beq_mod kd.toNat _ 2 hj; have d3 := beq_mod kd.toNat _ 3 hj; simp at d0 d1 d2 d3
    have HU := Lib.hid (appendString_calls B _ l s _ HE.out (by omega) hB1 hs)
    clear hj hB1
    go_enter Try.func14, Try.ntmps14
    go_wp2_with fail
    refine HU.out.mono ?_
    rintro e w4 h4
    have HP := Lib.hid (HFIN.out _ _ _ h4)
    obtain ⟨v4, rfl, _⟩ := h4
    go_wp2_with fail
    go_ret
    exact HP.out
  · rw [if_neg (by omega), if_neg (by omega), if_neg (by omega), if_pos hj]
    have d0 := beq_mod kd.toNat _ 0 hj; have d1 := beq_mod kd.toNat _ 1 hj; have d2 := beq_mod kd.toNat _ 2 hj; have d3 := beq_mod kd.toNat _ 3 hj; simp at d0 d1 d2 d3
    have HU := Lib.hid (appendID_calls B _ l m q _ HE.out (by omega) hB1)
    clear hj hB1
    go_enter Try.func14, Try.ntmps14
    go_wp2_with fail
    refine HU.out.mono ?_
    rintro e w4 h4
    have HP := Lib.hid (HFIN.out _ _ _ h4)
    obtain ⟨v4, rfl, _⟩ := h4
    go_wp2_with fail
    go_ret
    exact HP.out
  · rw [if_neg (by omega), if_neg (by omega), if_neg (by omega), if_neg (by omega)]
    have d0 := beq_mod kd.toNat _ 0 hj; have d1 := beq_mod kd.toNat _ 1 hj; have d2 := beq_mod kd.toNat _ 2 hj; have d3 := beq_mod kd.toNat _ 3 hj; simp at d0 d1 d2 d3
    have HU := Lib.hid (appendBool_calls B _ l b _ HE.out (by omega) hB1)
    clear hj hB1
    cases b
    all_goals
      go_enter Try.func14, Try.ntmps14
      go_wp2_with fail
      refine HU.out.mono ?_
      rintro e w4 h4
      have HP := Lib.hid (HFIN.out _ _ _ h4)
      obtain ⟨v4, rfl, _⟩ := h4
      go_wp2_with fail
      go_ret
      exact HP.out

set_option maxRecDepth 100000 in
set_option maxHeartbeats 1000000 in
theorem model_calls (A : Option Addr) (k cap : Nat) (l : List UInt8) (x : It) (w : World) (hl : l.length = k) (hr : RB w A l) (hm : k ≤ 900000) (hf : x.fits) (hs : x.s.size ≤ 100000) :
    Calls Try.prog 15 #[.slice A k cap, x.val] w (NewB w (l ++ encIt x)) := by
  obtain ⟨kd, n, i, s, m, q, b⟩ := x
  obtain ⟨hf1, hf2⟩ := hf
  simp only at hf1 hf2 hs
  unfold It.val It.cells encIt
  simp only
  have HB1 := Lib.hid (below1 w (.cells #[vb kd, .int .u64 (n.toNat : Int), .int .i64 i, .string s, .int .i64 m, .int .i64 q, .bool b] 34))
  have HE := Lib.hid (RB.below hr HB1.out)
  have HL := Lib.hid hl
  have HFIN : Hid (∀ L e w', NewB (w.alloc (.cells #[vb kd, .int .u64 (n.toNat : Int), .int .i64 i, .string s, .int .i64 m, .int .i64 q, .bool b] 34)) L e w' → NewB w L e w') := fun L e w' h => h.of HB1.out
  clear hl hr
  have hcase : kd.toNat % 5 = 0 ∨ kd.toNat % 5 = 1 ∨ kd.toNat % 5 = 2 ∨ kd.toNat % 5 = 3 ∨ kd.toNat % 5 = 4 := by omega
  rcases hcase with hj | hj | hj | hj | hj
  · rw [if_pos hj]
    have d0 := beq_mod kd.toNat _ 0 hj; have d1 := beq_mod kd.toNat _ 1 hj; have d2 := beq_mod kd.toNat _ 2 hj; have d3 := beq_mod kd.toNat _ 3 hj; simp at d0 d1 d2 d3
    have HU := Lib.hid (ruint_calls A k cap l n.toNat _ HL.out HE.out (by omega) n.isLt)
    clear hj
    go_enter Try.func15, Try.ntmps15
    go_wp2_with fail
    refine HU.out.mono ?_
    rintro e w4 h4
    have HP := Lib.hid (HFIN.out _ _ _ h4)
    obtain ⟨X4, c4, k4, rfl, hk4, hx4⟩ := h4; clear hk4 hx4
    go_wp2_with fail
    go_ret
    exact HP.out
  · rw [if_neg (by omega), if_pos hj]
    have d0 := beq_mod kd.toNat _ 0 hj; have d1 := beq_mod kd.toNat _ 1 hj; have d2 := beq_mod kd.toNat _ 2 hj; have d3 := beq_mod kd.toNat _ 3 hj; simp at d0 d1 d2 d3
    have HU := Lib.hid (rint_calls A k cap l i _ HL.out HE.out (by omega) hf1 hf2)
    clear hj
    go_enter Try.func15, Try.ntmps15
    go_wp2_with fail
    refine HU.out.mono ?_
    rintro e w4 h4
    have HP := Lib.hid (HFIN.out _ _ _ h4)
    obtain ⟨X4, c4, k4, rfl, hk4, hx4⟩ := h4; clear hk4 hx4
    go_wp2_with fail
    go_ret
    exact HP.out
  · rw [if_neg (by omega), if_neg (by omega), if_pos hj]
    have d0 := beq_mod kd.toNat _ 0 hj; have d1 := beq_mod kd.toNat _ 1 hj; have d2 := beq_mod kd.toNat _ 2 hj; have d3 := beq_mod kd.toNat _ 3 hj; simp at d0 d1 d2 d3
    have HU := Lib.hid (rstring_calls A k cap l s _ HL.out HE.out (by omega) hs)
    clear hj
    go_enter Try.func15, Try.ntmps15
    go_wp2_with fail
    refine HU.out.mono ?_
    rintro e w4 h4
    have HP := Lib.hid (HFIN.out _ _ _ h4)
    obtain ⟨X4, c4, k4, rfl, hk4, hx4⟩ := h4; clear hk4 hx4
    go_wp2_with fail
    go_ret
    exact HP.out
  · rw [if_neg (by omega), if_neg (by omega), if_neg (by omega), if_pos hj]
    have d0 := beq_mod kd.toNat _ 0 hj; have d1 := beq_mod kd.toNat _ 1 hj; have d2 := beq_mod kd.toNat _ 2 hj; have d3 := beq_mod kd.toNat _ 3 hj; simp at d0 d1 d2 d3
    have HU := Lib.hid (rid_calls A k cap l m q _ HL.out HE.out (by omega))
    clear hj
    go_enter Try.func15, Try.ntmps15
    go_wp2_with fail
    refine HU.out.mono ?_
    rintro e w4 h4
    have HP := Lib.hid (HFIN.out _ _ _ h4)
    obtain ⟨X4, c4, k4, rfl, hk4, hx4⟩ := h4; clear hk4 hx4
    go_wp2_with fail
    go_ret
    exact HP.out
  · rw [if_neg (by omega), if_neg (by omega), if_neg (by omega), if_neg (by omega)]
    have d0 := beq_mod kd.toNat _ 0 hj; have d1 := beq_mod kd.toNat _ 1 hj; have d2 := beq_mod kd.toNat _ 2 hj; have d3 := beq_mod kd.toNat _ 3 hj; simp at d0 d1 d2 d3
    have HU := Lib.hid (rbool_calls A k cap l b _ HL.out HE.out (by omega))
    clear hj
    cases b
    all_goals
      go_enter Try.func15, Try.ntmps15
      go_wp2_with fail
      refine HU.out.mono ?_
      rintro e w4 h4
      have HP := Lib.hid (HFIN.out _ _ _ h4)
      obtain ⟨X4, c4, k4, rfl, hk4, hx4⟩ := h4; clear hk4 hx4
      go_wp2_with fail
      go_ret
      exact HP.out
end Wi
end Go.Proofs.Ytkbhbpklgdmgpaa
