/- The walks of capability.Encode, Decode, its reference, and the law CapabilityDecoding. -/
import Derived.Test.YtnmgapokamkhpaaCpE
import Derived.Test.YtnmgapokamkhpaaRrE
namespace Go.Proofs.Ytnmgapokamkhpaa
open Go.RowKit
namespace Cp
open Sip Wi Wr

/-- the counter with an encoding -/
def good (l : List UInt8) (n : Nat) : Prop := doneR (uintR ⟨l, 0⟩).2 = 0 ∧ (uintR ⟨l, 0⟩).1 = n ∧ n ≤ 1048576
def bad (l : List UInt8) : Prop := doneR (uintR ⟨l, 0⟩).2 ≠ 0 ∨ 1048576 < (uintR ⟨l, 0⟩).1
theorem good_or (l : List UInt8) : (∃ n, good l n) ∨ bad l := by
  unfold bad good
  by_cases h : doneR (uintR ⟨l, 0⟩).2 = 0
  · by_cases h2 : (uintR ⟨l, 0⟩).1 ≤ 1048576
    · exact .inl ⟨_, h, rfl, h2⟩
    · exact .inr (.inr (by omega))
  · exact .inr (.inl h)
theorem good_enc (l : List UInt8) (n : Nat) (h : good l n) : l = enc n := by
  obtain ⟨h1, h2, _⟩ := h
  cases hp : parse l with
  | none =>
    rw [uintR_none ⟨l, 0⟩ rfl hp] at h1
    exact absurd h1 (by decide)
  | some p =>
    obtain ⟨v, k⟩ := p
    rw [uintR_some ⟨l, 0⟩ rfl hp] at h1 h2
    simp only at h2
    obtain ⟨_, _, _, h6⟩ := parse_some l v k hp
    have : l.drop k = [] := by
      cases hd : l.drop k with
      | nil => rfl
      | cons y t =>
        exfalso
        have h1' : doneR ⟨y :: t, 0⟩ = 0 := by have := h1; simp only [hd] at this; exact this
        unfold doneR at h1'
        simp at h1'
    rw [this, List.append_nil, h2] at h6
    exact h6

theorem encode_calls (k0 k1 : BitVec 64) (g n : Nat) (w : World) (hg : IsB w g k0 k1 n) (hn : n ≤ 1048576) :
    Calls Try.prog 16 #[.pointer (some ⟨g, 0, none⟩)] w fun e w' => ∃ X c, e = .returned (.slice X (enc n).length c) ∧ RB w' X (enc n) ∧ Below w.heap.size w w' := by
  have g2 : w.cell? ⟨g, 2, none⟩ = some (.int .i64 (n : Int)) := (cell_of_row _ _ 2 _ _ _ hg).trans rfl
  have HA := Lib.hid (appendNat_calls w.heap.size (.slice none 0 0) [] n (by omega) w (Ext.nil w) (by simp) (Nat.le_refl _))
  clear hg
  go_enter Try.func16, Try.ntmps16
  go_wp2_with fail
  refine HA.out.mono ?_
  rintro e w1 ⟨v1, rfl, hx1⟩
  have B1 := Lib.hid (Ext.below (Ext.nil w) (Nat.le_refl _) hx1)
  obtain ⟨X, c, rfl, _, _, hr⟩ := hx1.read
  rw [List.nil_append] at hr ⊢
  have HR := Lib.hid hr
  clear hx1 hr HA g2
  go_wp2_with fail
  go_ret
  exact ⟨X, c, rfl, HR.out, B1.out⟩

set_option maxRecDepth 100000 in
theorem decode_bad (k0 k1 : BitVec 64) (A : Option Addr) (n c : Nat) (l : List UInt8) (w : World) (hn : l.length = n) (hr : RB w A l) (hm : n ≤ 1000000) (hb : bad l) :
    Calls Try.prog 13 #[.agg #[vw k0, vw k1], .slice A n c] w fun e w' => e = .returned (.tuple #[.pointer none, .int .i64 11]) ∧ Below w.heap.size w w' := by
  have HN := Lib.hid hn
  have HR := Lib.hid hr
  have HBD := Lib.hid hb
  clear hn hr hb
  go_enter Try.func13, Try.ntmps13
  go_wp2_with fail
  refine (newReader_calls A n c l _ HN.out (HR.out.alloc _) hm).mono ?_
  rintro e w1 ⟨g, rfl, hg, hgl, hb1⟩
  have HG := Lib.hid hg
  have B1 := Lib.hid ((below1 w _).trans (hb1.mono (by simp)))
  have hgw : w.heap.size ≤ g := by simp at hgl; omega
  clear hg hgl hb1
  go_wp2_with fail
  refine (uint_calls g ⟨l, 0⟩ w1 HG.out).mono ?_
  rintro e w2 ⟨rfl, hg2, hc2⟩
  have HG2 := Lib.hid hg2
  have B2 := Lib.hid (B1.out.trans (hc2.below B1.out.size (by simpa using hgw)))
  have hd := HBD.out
  unfold bad at hd
  clear hg2 hc2 HG B1
  generalize uintR ⟨l, 0⟩ = r at *
  obtain ⟨v, r⟩ := r
  simp only at *
  go_wp2_with fail
  refine (done_calls g r w2 HG2.out).mono ?_
  rintro e w3 ⟨rfl, rfl⟩
  by_cases h0 : doneR r = 0
  · have hv : 1048576 < v := by rcases hd with h | h; exact absurd h0 h; exact h
    have d1 : decide ((1048576 : Int) < (v : Int)) = true := by simp; omega
    rw [h0]
    clear hd h0
    go_wp2_with fail
    go_ret2
    exact ⟨rfl, B2.out⟩
  · have d1 : ((doneR r != 0) : Bool) = true := by simpa using h0
    clear hd h0
    generalize doneR r = z at *
    go_wp2_with fail
    go_ret2
    exact ⟨rfl, B2.out⟩

set_option maxRecDepth 100000 in
theorem decode_good (k0 k1 : BitVec 64) (A : Option Addr) (n c : Nat) (l : List UInt8) (v : Nat) (w : World) (hn : l.length = n) (hr : RB w A l) (hm : n ≤ 1000000) (hb : good l v) :
    Calls Try.prog 13 #[.agg #[vw k0, vw k1], .slice A n c] w fun e w' => ∃ g, e = .returned (.tuple #[.pointer (some ⟨g, 0, none⟩), .int .i64 0]) ∧ IsB w' g k0 k1 v ∧ Below w.heap.size w w' := by
  have HN := Lib.hid hn
  have HR := Lib.hid hr
  obtain ⟨hb1, hb2, hv⟩ := hb
  have HB1 := Lib.hid hb1
  have HB2 := Lib.hid hb2
  clear hn hr hb1 hb2
  go_enter Try.func13, Try.ntmps13
  go_wp2_with fail
  refine (newReader_calls A n c l _ HN.out (HR.out.alloc _) hm).mono ?_
  rintro e w1 ⟨g, rfl, hg, hgl, hb1⟩
  have HG := Lib.hid hg
  have B1 := Lib.hid ((below1 w _).trans (hb1.mono (by simp)))
  have HK1 := Lib.hid ((hb1.block _ (by simp)).trans (heap_alloc_new w (.cells #[vw k0, vw k1] 24)))
  have hgw : w.heap.size < g := by simp at hgl; omega
  clear hg hgl hb1
  go_wp2_with fail
  refine (uint_calls g ⟨l, 0⟩ w1 HG.out).mono ?_
  rintro e w2 ⟨rfl, hg2, hc2⟩
  rw [HB2.out]
  have HG2 := Lib.hid hg2
  have HK2 := Lib.hid (hc2.blk HK1.out (by simp; omega))
  have B2 := Lib.hid (B1.out.trans (hc2.below B1.out.size (by simp; omega)))
  clear hg2 hc2 HG B1 HK1
  go_wp2_with fail
  refine (done_calls g _ w2 HG2.out).mono ?_
  rintro e w3 ⟨rfl, rfl⟩
  rw [HB1.out]
  have d1 : decide ((1048576 : Int) < (v : Int)) = false := by simp; omega
  have m0 : w2.cell? ⟨w.heap.size, 0, none⟩ = some (vw k0) := (cell_of_row _ _ 0 _ _ _ HK2.out).trans rfl
  have m1 : w2.cell? ⟨w.heap.size, 1, none⟩ = some (vw k1) := (cell_of_row _ _ 1 _ _ _ HK2.out).trans rfl
  have hw2 : w.heap.size ≤ w2.heap.size := B2.out.size
  go_wp2_with fail
  go_ret2
  exact ⟨_, rfl, heap_alloc_new _ _, B2.out.alloc hw2 _⟩
end Cp
end Go.Proofs.Ytnmgapokamkhpaa
