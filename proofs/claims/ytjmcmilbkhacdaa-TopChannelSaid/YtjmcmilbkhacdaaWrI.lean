/- The walks of Reader.Int, String, NewReader. -/
import Derived.Test.YtjmcmilbkhacdaaWrH
namespace Go.Proofs.Ytjmcmilbkhacdaa
open Go.RowKit
namespace Wi
open Wr

/-- the integer of a number -/
def unzig (n : Nat) : Int := if n % 2 = 0 then ((n / 2 : Nat) : Int) else -((n / 2 : Nat) : Int) - 1

theorem and_one (n : Nat) (h : n < 18446744073709551616) : bits .and .u64 (n : Int) 1 = ((n % 2 : Nat) : Int) := by
  have h1 := and_bv (BitVec.ofNat 64 n) 1#64
  rw [BitVec.toNat_and, BitVec.toNat_ofNat, Nat.mod_eq_of_lt (by omega), show (1#64 : BitVec 64).toNat = 1 from rfl, Nat.and_one_is_mod] at h1
  exact h1
theorem unzig_eq (n : Nat) (h : n < 18446744073709551616) : bits .xor .i64 ((n : Int) / 2) (wrap64 (-wrap64 (bits .and .u64 (n : Int) 1))) = unzig n := by
  rw [and_one n h]
  show IntKind.i64.wrap ((BitVec.ofInt 64 ((n : Int) / 2) ^^^ BitVec.ofInt 64 _).toNat : Int) = _
  have e1 : ((n : Int) / 2) = ((n / 2 : Nat) : Int) := by omega
  have e2 : (BitVec.ofInt 64 ((n / 2 : Nat) : Int)) = BitVec.ofNat 64 (n / 2) := BitVec.ofInt_natCast ..
  unfold unzig
  by_cases hp : n % 2 = 0
  · rw [if_pos hp, hp, e1, e2, show wrap64 (-wrap64 (((0 : Nat)) : Int)) = 0 by unfold wrap64; omega, show BitVec.ofInt 64 0 = 0#64 from rfl, BitVec.xor_zero, BitVec.toNat_ofNat, Nat.mod_eq_of_lt (by omega), IntKind.wrap_i64]
    omega
  · have h1 : n % 2 = 1 := by omega
    rw [if_neg hp, h1, e1, e2, show wrap64 (-wrap64 (((1 : Nat)) : Int)) = -1 by unfold wrap64; omega, show BitVec.ofInt 64 (-1) = BitVec.allOnes 64 from rfl, BitVec.xor_allOnes, BitVec.toNat_not, BitVec.toNat_ofNat, Nat.mod_eq_of_lt (by omega), IntKind.wrap_i64]
    omega

set_option maxRecDepth 100000 in
set_option maxHeartbeats 1000000 in
theorem clone_calls (A : Option Addr) (n c : Nat) (l : List UInt8) (w : World) (hn : l.length = n) (hr : RB w A l) (hm : n ≤ 1000000) :
    Calls Try.prog 35 #[.slice A n c] w fun e w' => ∃ X cx, e = .returned (.slice X n cx) ∧ w'.ownsRow w.heap.size 5 1 (.slice X n cx) n (l.map vb) ∧ Below w.heap.size w w' := by
  have HN := Lib.hid hn
  have HR := Lib.hid hr
  clear hn hr
  cases A with
  | none =>
    have hl : l = [] := by
      cases l with
      | nil => rfl
      | cons x l => obtain ⟨_, _, e, _⟩ := HR.out 0 (vb x) rfl; cases e
    subst hl
    obtain rfl : n = 0 := HN.out.symm
    have hq := fun w' => Lib.run_eql_slice_nil (P := Try.prog) w' 32 5 none 0 c 0 0 Try.underlying32
    go_enter Try.func35, Try.ntmps35
    go_wp2_with fail
    go_ret
    exact ⟨none, 0, rfl, ⟨rfl, .inl ⟨rfl, rfl⟩⟩, Below.refl _ _⟩
  | some a =>
    have hq := fun w' => Lib.run_eql_slice_nil (P := Try.prog) w' 32 5 (some a) n c 0 0 Try.underlying32
    go_enter Try.func35, Try.ntmps35
    go_wp2_with (at_builtin; refine wpList_apps _ rfl (.tmp 5) (.tmp 6) 32 rfl w.heap.size 5 (.int .u8 0) 1 Try.underlying32 info_u8 rfl (.slice (some ⟨w.heap.size, 0, none⟩) 0 0) 0 [] rfl (own_empty _ _ _ _ rfl (Nat.le_refl _)) (some a) n c (l.map vb) rfl (by simp; exact HN.out) (Rd.alloc HR.out _) (vb_one _) (by simp only [maxLen]; omega) (by omega) (by simp) ?_; intro X cX w5 hown5 happ5; have HO5 := Lib.hid hown5; have HP5 := Lib.hid happ5; clear hown5 happ5)
    go_ret
    have hb5 : Below w.heap.size w w5 := (below1 w _).trans (HP5.out.below (own_empty w.heap.size _ _ _ rfl (Nat.le_refl _)) (by simp))
    refine ⟨X, cX, by simp, ?_, hb5⟩
    have := HO5.out
    simpa using this

set_option maxRecDepth 100000 in
theorem newReader_calls (A : Option Addr) (n c : Nat) (l : List UInt8) (w : World) (hn : l.length = n) (hr : RB w A l) (hm : n ≤ 1000000) :
    Calls Try.prog 28 #[.slice A n c] w fun e w' => ∃ g, e = .returned (.pointer (some ⟨g, 0, none⟩)) ∧ IsRd w' g ⟨l, 0⟩ ∧ w.heap.size ≤ g ∧ Below w.heap.size w w' := by
  have HC := Lib.hid (clone_calls A n c l w hn hr hm)
  have HN := Lib.hid hn
  clear hn hr
  go_enter Try.func28, Try.ntmps28
  go_wp2_with fail
  refine HC.out.mono ?_
  rintro e w1 ⟨X, cx, rfl, ho, hb⟩
  obtain ⟨_, _, e1, hnc, hcm, _, hrd⟩ := own_form ho
  cases e1
  have hs := hb.size
  have HB := Lib.hid hb
  have HRD := Lib.hid hrd
  have HNE : Hid (∀ b off, X = some ⟨b, off, none⟩ → b < w1.heap.size) := by
    rintro b off rfl
    rcases ho.2 with ⟨e, _⟩ | ⟨g, _, _, e, _, hg, _⟩
    · cases e
    · cases e; exact (Array.getElem?_eq_some_iff.1 hg).1
  clear ho hb hrd HC
  go_wp2_with fail
  go_ret
  refine ⟨w1.heap.size, rfl, ⟨X, cx, ?_, ?_, hcm, RB.alloc HRD.out _, fun _ b off e => by have := HNE.out b off e; omega⟩, hs, HB.out.alloc hs _⟩
  · rw [show (Rs.mk l 0).l.length = n from HN.out]; exact heap_alloc_new _ _
  · rw [show (Rs.mk l 0).l.length = n from HN.out]; exact hnc
end Wi
end Go.Proofs.Ytjmcmilbkhacdaa
