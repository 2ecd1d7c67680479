/- The walk of the closure in Reader.Uint. -/
import Derived.Test.YtjmcmilbkhacdaaWrE
import Derived.Test.YtjmcmilbkhacdaaWp
namespace Go.Proofs.Ytjmcmilbkhacdaa
open Go.RowKit
namespace Wi
open Wr

theorem elem_u8 : Try.prog.elem 32 = 5 := by kernel_rfl

/-- what the closure of Uint leaves -/
def UR (w : World) (N0 g : Nat) (A : Option Addr) (c : Nat) (l : List UInt8) (ec : Int) (sl : Value) (w' : World) : Prop :=
  (parse l = none ∧ ec = 11 ∧ Chg [] w w') ∨ (∃ v k, parse l = some (v, k) ∧ ec = 0 ∧ sl = .slice (cutA A k c) (l.length - k) (c - k) ∧ w'.heap[N0]? = some (.cells #[.int .u64 (v : Int)] 65 (0, 0)) ∧ Chg [N0, g] w w')
def UPost (w : World) (N0 g : Nat) (A : Option Addr) (c : Nat) (l : List UInt8) (e : Ending) (w' : World) : Prop :=
  ∃ ec sl, e = .returned (.int .i64 ec) ∧ w'.heap[g]? = some (.cells #[sl, .int .i64 0] 72 (0, 0)) ∧ UR w N0 g A c l ec sl w'

set_option maxRecDepth 100000 in
set_option maxHeartbeats 2000000 in
theorem uint1_bad (R0 N0 g : Nat) (A : Option Addr) (c : Nat) (l : List UInt8) (w : World) (hR : w.heap[R0]? = some (.cells #[.pointer (some ⟨g, 0, none⟩)] 63 (0, 0)))
    (hg : w.heap[g]? = some (.cells #[.slice A l.length c, .int .i64 0] 72 (0, 0))) (hr : RB w A l) (hlc : l.length ≤ c) (_hcm : c ≤ maxLen) (hp : parse l = none) :
    Calls Try.prog 37 #[.pointer (some ⟨R0, 0, none⟩), .pointer (some ⟨N0, 0, none⟩)] w (UPost w N0 g A c l) := by
  have r0 : w.cell? ⟨R0, 0, none⟩ = some (.pointer (some ⟨g, 0, none⟩)) := (cell_of_row _ _ 0 _ _ _ hR).trans rfl
  have g0 : w.cell? ⟨g, 0, none⟩ = some (.slice A l.length c) := (cell_of_row _ _ 0 _ _ _ hg).trans rfl
  have HG := Lib.hid hg
  have HP := Lib.hid hp
  have fin_ : Hid (∀ n, UPost w N0 g A c l (.returned (.int .i64 11)) (w.drewN n)) := fun n => ⟨11, _, rfl, HG.out, .inl ⟨HP.out, rfl, (Chg.refl _ _).drewN n⟩⟩
  unfold maxLen at _hcm
  cases l with
  | nil =>
    clear hR hg hr hp HP
    have e0 : ((0 : Int) == 0) = true := rfl
    go_enter Try.func37, Try.ntmps37
    go_wp2_with fail
    go_quiet (fail)
    go_wp2_with fail
    go_ret
    exact fin_.out _
  | cons k t =>
    rw [parse_cons] at hp
    obtain ⟨b, off, rfl, _, hcl⟩ := RB.cells hr (by simp)
    have b0 : w.cell? ⟨b, off, none⟩ = some (vb k) := by have := hcl 0 (by simp); simpa using this
    have hk255 : k.toNat ≤ 255 := by have := k.toNat_lt; omega
    have b1 : t.head? = some 0 → w.cell? ⟨b, off + 1, none⟩ = some (.int .u8 0) := by
      intro h
      cases t with
      | nil => simp at h
      | cons y t =>
        have hy : y = 0 := by simpa using h
        subst hy
        exact hcl 1 (by simp)
    have hpos : t.head? = some 0 → 1 ≤ t.length := by intro h; cases t <;> simp at h ⊢
    simp only [List.length_cons] at g0 hlc HG fin_
    clear hR hg hr HP hcl
    generalize t.length = n at *
    have e0 : (((n + 1 : Nat) : Int) == 0) = false := by simp; omega
    have e0' : ((n : Int) + 1 == 0) = false := by simp; omega
    have i1 : (0 : Int) < (n : Int) + 1 := by omega
    by_cases h8 : 8 < k.toNat
    · have d8 : decide ((8 : Int) < (k.toNat : Int)) = true := by simp; omega
      clear hp b1
      go_enter Try.func37, Try.ntmps37
      go_wp2_with fail
      go_quiet (fail)
      go_wp2_with fail
      go_ret
      exact fin_.out _
    · have d8 : decide ((8 : Int) < (k.toNat : Int)) = false := by simp; omega
      rw [if_neg h8] at hp
      by_cases hl : n < k.toNat
      · have dl : decide (((n : Int) + 1) ≤ (k.toNat : Int)) = true := by simp; omega
        clear hp b1
        go_enter Try.func37, Try.ntmps37
        go_wp2_with fail
        go_quiet (fail)
        go_wp2_with fail
        go_ret
        exact fin_.out _
      · have dl : decide (((n : Int) + 1) ≤ (k.toNat : Int)) = false := by simp; omega
        rw [if_neg hl] at hp
        by_cases hz : 0 < k.toNat ∧ t.head? = some 0
        · obtain ⟨hz1, hz2⟩ := hz
          have d0 : decide ((0 : Int) < (k.toNat : Int)) = true := by simp; omega
          have b1' := b1 hz2
          have hpos' := hpos hz2
          have i2 : (1 : Int) < (n : Int) + 1 := by omega
          have z0 : ((0 : Int) == 0) = true := rfl
          clear hp b1 hpos hz2
          go_enter Try.func37, Try.ntmps37
          go_wp2_with fail
          go_quiet (fail)
          go_wp2_with fail
          go_ret
          exact fin_.out _
        · rw [if_neg hz] at hp; cases hp
end Wi
end Go.Proofs.Ytjmcmilbkhacdaa
