/- The walk of refmeshlaw02.awake, and the law WirePrefixes. -/
import Derived.Test.YtkbhbpklgdmgpaaWrK
namespace Go.Proofs.Ytkbhbpklgdmgpaa
open Go.RowKit
namespace Wi
open Wr

theorem Ext.self {w w' : World} {B : Nat} {v0 v : Value} {l : List UInt8} (h : Ext w B v0 l v w') : Ext w' B v l v w' := by
  obtain ⟨X, c, rfl, ho, _⟩ := h
  exact ⟨X, c, rfl, ho, App.refl _ _⟩
theorem Ext.nil (w : World) : Ext w w.heap.size (.slice none 0 0) [] (.slice none 0 0) w := ⟨none, 0, rfl, ⟨rfl, .inl ⟨rfl, rfl⟩⟩, App.refl _ _⟩
theorem Ext.below {w w1 w' : World} {B : Nat} {v0 v : Value} {l0 l : List UInt8} (h0 : Ext w1 B v0 l0 v0 w) (hB : B ≤ w.heap.size) (h : Ext w B v0 l v w') : Below B w w' := by
  obtain ⟨X0, c0, rfl, ho, _⟩ := h0
  obtain ⟨X, c, rfl, _, ha⟩ := h
  exact ha.below ho hB
theorem Ext.read {w w' : World} {B : Nat} {v0 v : Value} {l : List UInt8} (h : Ext w B v0 l v w') : ∃ X c, v = .slice X l.length c ∧ l.length ≤ c ∧ c ≤ maxLen ∧ RB w' X l := by
  obtain ⟨X, c, rfl, ho, _⟩ := h
  obtain ⟨_, _, e, h1, h2, _, h3⟩ := own_form ho
  cases e
  exact ⟨X, c, rfl, h1, h2, h3⟩

def awL : List UInt8 := [0, 2, 1, 2, 1, 1, 1, 2, 97, 98]

set_option maxRecDepth 100000 in
set_option maxHeartbeats 1000000 in
theorem awake_calls (w : World) : Calls Try.prog 10 #[] w fun e w' => e = .returned (.bool true) ∧ Below w.heap.size w w' := by
  go_enter Try.func10, Try.ntmps10
  go_wp2_with fail
  refine (appendNat_calls w.heap.size (.slice none 0 0) [] 0 (by omega) w (Ext.nil w) (by simp) (Nat.le_refl _)).mono ?_
  rintro e w1 ⟨v1, rfl, hx1⟩
  have X1 := Lib.hid hx1.self
  have B1 := Lib.hid (Ext.below (Ext.nil w) (Nat.le_refl _) hx1)
  clear hx1
  rw [show ([] ++ enc 0 : List UInt8) = [0] by decide +kernel] at X1
  obtain ⟨Z1, c1, e1, _⟩ := X1.out.read
  subst e1
  have hs1 : w.heap.size ≤ w1.heap.size := B1.out.size
  go_wp2_with fail
  refine (appendNat_calls w.heap.size _ [0] 258 (by omega) w1 X1.out (by simp) hs1).mono ?_
  rintro e w2 ⟨v2, rfl, hx2⟩
  have X2 := Lib.hid hx2.self
  have B2 := Lib.hid (B1.out.trans (Ext.below X1.out hs1 hx2))
  clear hx2 X1
  rw [show ([0] ++ enc 258 : List UInt8) = [0, 2, 1, 2] by decide +kernel] at X2
  obtain ⟨Z2, c2, e2, _⟩ := X2.out.read
  subst e2
  have hs2 : w.heap.size ≤ w2.heap.size := B2.out.size
  go_wp2_with fail
  refine (appendInt_calls w.heap.size _ [0, 2, 1, 2] (-1) w2 X2.out (by simp) hs2 (by omega) (by omega)).mono ?_
  rintro e w3 ⟨v3, rfl, hx3⟩
  have X3 := Lib.hid hx3.self
  have B3 := Lib.hid (B2.out.trans (Ext.below X2.out hs2 hx3))
  clear hx3 X2
  rw [show ([0, 2, 1, 2] ++ enc (zig (-1)) : List UInt8) = [0, 2, 1, 2, 1, 1] by decide +kernel] at X3
  obtain ⟨Z3, c3, e3, _⟩ := X3.out.read
  subst e3
  have hs3 : w.heap.size ≤ w3.heap.size := B3.out.size
  go_wp2_with fail
  refine (appendString_calls w.heap.size _ [0, 2, 1, 2, 1, 1] ⟨#[97, 98]⟩ w3 X3.out (by simp) hs3 (by decide)).mono ?_
  rintro e w4 ⟨v4, rfl, hx4⟩
  have X4 := Lib.hid hx4.self
  have B4 := Lib.hid (B3.out.trans (Ext.below X3.out hs3 hx4))
  clear hx4 X3
  rw [show ([0, 2, 1, 2, 1, 1] ++ (enc (ByteArray.mk #[97, 98]).size ++ strB ⟨#[97, 98]⟩) : List UInt8) = awL by decide +kernel] at X4
  obtain ⟨Z4, c4, e4, h4a, h4b, h4⟩ := X4.out.read
  have H4 := Lib.hid h4
  subst e4
  clear h4 X4
  have hs4 : w.heap.size ≤ w4.heap.size := B4.out.size
  go_wp2_with fail
  have B5 := Lib.hid (B4.out.alloc hs4 (.cells #[.int .u8 0, .int .u8 2, .int .u8 1, .int .u8 2, .int .u8 1, .int .u8 1, .int .u8 1, .int .u8 2, .int .u8 97, .int .u8 98] 5))
  have H5 := Lib.hid (RB.alloc H4.out (.cells #[.int .u8 0, .int .u8 2, .int .u8 1, .int .u8 2, .int .u8 1, .int .u8 1, .int .u8 1, .int .u8 2, .int .u8 97, .int .u8 98] 5))
  have hn5 : Rd (w4.alloc (.cells #[.int .u8 0, .int .u8 2, .int .u8 1, .int .u8 2, .int .u8 1, .int .u8 1, .int .u8 1, .int .u8 2, .int .u8 97, .int .u8 98] 5)) (some ⟨w4.heap.size, 0, none⟩) (awL.map vb) := Rd.new w4 (awL.map vb) _ (0, 0)
  have N5 := Lib.hid hn5
  clear hn5
  generalize w4.alloc (.cells #[.int .u8 0, .int .u8 2, .int .u8 1, .int .u8 2, .int .u8 1, .int .u8 1, .int .u8 1, .int .u8 2, .int .u8 97, .int .u8 98] 5) = w5 at *
  refine (same_calls Z4 _ 10 10 c4 10 awL awL w5 rfl rfl H5.out N5.out).mono ?_
  rintro e w5' ⟨rfl, rfl⟩
  rw [show sameB awL awL = true by decide +kernel]
  clear H4 B4
  go_wp2_with fail
  refine (newReader_calls Z4 10 c4 awL w5 rfl H5.out (by omega)).mono ?_
  rintro e w6 ⟨g, rfl, hr, hg, hb⟩
  have R6 := Lib.hid hr
  have B6 := Lib.hid (B5.out.trans (hb.mono B5.out.size))
  have hgw : w.heap.size ≤ g := by have := B5.out.size; omega
  clear hr hb hg H5 B5
  go_wp2_with fail
  refine (uint_calls g _ w6 R6.out).mono ?_
  rintro e w7 ⟨rfl, hr, hc⟩
  rw [show uintR ⟨awL, 0⟩ = (0, ⟨[2, 1, 2, 1, 1, 1, 2, 97, 98], 0⟩) by kernel_rfl] at hr ⊢
  have R7 := Lib.hid hr
  have B7 := Lib.hid (B6.out.trans (hc.below B6.out.size (by simpa using hgw)))
  clear hr hc R6 B6
  go_wp2_with fail
  refine (uint_calls g _ w7 R7.out).mono ?_
  rintro e w8 ⟨rfl, hr, hc⟩
  rw [show uintR ⟨[2, 1, 2, 1, 1, 1, 2, 97, 98], 0⟩ = (258, ⟨[1, 1, 1, 2, 97, 98], 0⟩) by kernel_rfl] at hr ⊢
  have R8 := Lib.hid hr
  have B8 := Lib.hid (B7.out.trans (hc.below B7.out.size (by simpa using hgw)))
  clear hr hc R7 B7
  go_wp2_with fail
  refine (int_calls g _ w8 R8.out).mono ?_
  rintro e w9 ⟨rfl, hr, hc⟩
  rw [show uintR ⟨[1, 1, 1, 2, 97, 98], 0⟩ = (1, ⟨[1, 2, 97, 98], 0⟩) by kernel_rfl] at hr ⊢
  rw [show unzig 1 = -1 by decide +kernel]
  have R9 := Lib.hid hr
  have B9 := Lib.hid (B8.out.trans (hc.below B8.out.size (by simpa using hgw)))
  clear hr hc R8 B8
  go_wp2_with fail
  refine (left_calls g _ w9 R9.out).mono ?_
  rintro e w10 ⟨rfl, rfl⟩
  go_wp2_with fail
  refine (string_calls g _ w9 R9.out).mono ?_
  rintro e wA ⟨rfl, hr, hc⟩
  rw [show stringR ⟨[1, 2, 97, 98], 0⟩ = ([97, 98], ⟨[], 0⟩) by kernel_rfl] at hr ⊢
  have RA := Lib.hid hr
  have BA := Lib.hid (B9.out.trans (hc.below B9.out.size (by simpa using hgw)))
  clear hr hc R9 B9
  go_wp2_with fail
  refine (done_calls g _ wA RA.out).mono ?_
  rintro e wB ⟨rfl, rfl⟩
  rw [show doneR ⟨[], 0⟩ = 0 by decide +kernel]
  go_wp2_with fail
  go_ret
  exact ⟨rfl, BA.out⟩
end Wi
end Go.Proofs.Ytkbhbpklgdmgpaa
