/- The walks of refmeshref02's number and fail. -/
import Derived.Test.YtnmgapokamkhpaaWrH
namespace Go.Proofs.Ytnmgapokamkhpaa
open Go.RowKit
namespace Wi
open Wr

def numR (l : List UInt8) : Nat × Int := match parse l with
  | none => (0, -1)
  | some (n, k) => (n, k)
def NumPost (l : List UInt8) (w : World) (e : Ending) (w' : World) : Prop := e = .returned (.tuple #[.int .u64 ((numR l).1 : Int), .int .i64 (numR l).2]) ∧ Chg [] w w'

set_option maxRecDepth 100000 in
set_option maxHeartbeats 2000000 in
theorem number_bad (A : Option Addr) (n c : Nat) (l : List UInt8) (w : World) (hn : l.length = n) (hr : RB w A l) (hlc : n ≤ c) (_hcm : c ≤ maxLen) (hp : parse l = none) :
    Calls Try.prog 33 #[.slice A n c] w (NumPost l w) := by
  have HF : Hid (NumPost l w (.returned (.tuple #[.int .u64 0, .int .i64 (-1)])) w) := by
    refine ⟨?_, Chg.refl _ _⟩
    unfold numR; rw [hp]; rfl
  unfold maxLen at _hcm
  cases l with
  | nil =>
    obtain rfl : n = 0 := hn.symm
    clear hr hp hn
    have e0 : ((0 : Int) == 0) = true := rfl
    go_enter Try.func33, Try.ntmps33
    go_wp2_with fail
    go_ret2
    exact HF.out
  | cons k t =>
    rw [parse_cons] at hp
    obtain ⟨b, off, rfl, _, hcl⟩ := RB.cells hr (by simp)
    have b0 : w.cell? ⟨b, off, none⟩ = some (vb k) := by have := hcl 0 (by simp); simpa using this
    have hk255 : k.toNat ≤ 255 := by have := k.toNat_lt; omega
    have b1 : t.head? = some 0 → w.cell? ⟨b, off + 1, none⟩ = some (.int .u8 0) := by
      intro h
      cases t with
      | nil => simp at h
      | cons y t =>
        have hy : y = 0 := by simpa using h
        subst hy
        exact hcl 1 (by simp)
    have hpos : t.head? = some 0 → 1 ≤ t.length := by intro h; cases t <;> simp at h ⊢
    obtain ⟨m, HM⟩ : ∃ m, Hid (m = t.length) := ⟨_, rfl⟩
    obtain rfl : n = m + 1 := by rw [HM.out]; exact hn.symm
    rw [← HM.out] at hp hpos
    clear hr hcl hn
    have e0 : (((m + 1 : Nat) : Int) == 0) = false := by simp; omega
    have e0' : ((m : Int) + 1 == 0) = false := by simp; omega
    have i1 : (0 : Int) < (m : Int) + 1 := by omega
    by_cases h8 : 8 < k.toNat
    · have d8 : decide ((8 : Int) < (k.toNat : Int)) = true := by simp; omega
      clear hp b1
      go_enter Try.func33, Try.ntmps33
      go_wp2_with fail
      go_ret2
      exact HF.out
    · have d8 : decide ((8 : Int) < (k.toNat : Int)) = false := by simp; omega
      rw [if_neg h8] at hp
      by_cases hl : m < k.toNat
      · have dl : decide (((m : Int) + 1) < 1 + (k.toNat : Int)) = true := by simp; omega
        clear hp b1
        go_enter Try.func33, Try.ntmps33
        go_wp2_with fail
        go_ret2
        exact HF.out
      · have dl : decide (((m : Int) + 1) < 1 + (k.toNat : Int)) = false := by simp; omega
        rw [if_neg hl] at hp
        by_cases hz : 0 < k.toNat ∧ t.head? = some 0
        · obtain ⟨hz1, hz2⟩ := hz
          have d0 : decide ((0 : Int) < (k.toNat : Int)) = true := by simp; omega
          have b1' := b1 hz2
          have hpos' := hpos hz2
          have i2 : (1 : Int) < (m : Int) + 1 := by omega
          have z0 : ((0 : Int) == 0) = true := rfl
          clear hp b1 hpos hz2
          go_enter Try.func33, Try.ntmps33
          go_wp2_with fail
          go_ret2
          exact HF.out
        · rw [if_neg hz] at hp; cases hp
end Wi
end Go.Proofs.Ytnmgapokamkhpaa
