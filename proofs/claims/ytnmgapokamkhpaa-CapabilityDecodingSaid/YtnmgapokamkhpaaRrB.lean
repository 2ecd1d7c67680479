/- The walks of refmeshref02's number, fail and Uint. -/
import Derived.Test.YtnmgapokamkhpaaRrA
namespace Go.Proofs.Ytnmgapokamkhpaa
open Go.RowKit
namespace Wi
open Wr

set_option maxRecDepth 100000 in
set_option maxHeartbeats 4000000 in
theorem number_good (A : Option Addr) (N c : Nat) (l : List UInt8) (w : World) (hn : l.length = N) (hr : RB w A l) (hlc : N ≤ c) (hcm : c ≤ maxLen) (v kk : Nat) (hp : parse l = some (v, kk)) :
    Calls Try.prog 33 #[.slice A N c] w (NumPost l w) := by
  have HF : Hid (∀ k, NumPost l w (.returned (.tuple #[.int .u64 (v : Int), .int .i64 (kk : Int)])) (w.drewN k)) := by
    refine fun k => ⟨?_, (Chg.refl _ _).drewN k⟩
    unfold numR; rw [hp]
  have hcm' := hcm
  unfold maxLen at hcm'
  cases l with
  | nil => cases hp
  | cons k t =>
    rw [parse_cons] at hp
    by_cases h8 : 8 < k.toNat
    · rw [if_pos h8] at hp; cases hp
    rw [if_neg h8] at hp
    by_cases hl : t.length < k.toNat
    · rw [if_pos hl] at hp; cases hp
    rw [if_neg hl] at hp
    by_cases hz : 0 < k.toNat ∧ t.head? = some 0
    · rw [if_pos hz] at hp; cases hp
    rw [if_neg hz] at hp
    simp only [Option.some.injEq, Prod.mk.injEq] at hp
    obtain ⟨hv, hkk⟩ := hp
    have HV := Lib.hid hv
    have HKK := Lib.hid hkk
    clear hv hkk
    obtain ⟨b, off, rfl, hbw, hcl⟩ := RB.cells hr (by simp)
    have b0 : w.cell? ⟨b, off, none⟩ = some (vb k) := by have := hcl 0 (by simp); simpa using this
    have HT : Hid (∀ j (hj : j < t.length), w.cell? ⟨b, off + (1 + j), none⟩ = some (vb t[j])) := fun j hj => by
      have := hcl (j + 1) (by simp; omega)
      rw [Nat.add_comm 1 j]; exact this
    have hy : 0 < k.toNat → ∃ y : UInt8, y ≠ 0 ∧ w.cell? ⟨b, off + 1, none⟩ = some (vb y) := by
      intro h0
      cases t with
      | nil => simp at hl; omega
      | cons y t =>
        refine ⟨y, ?_, hcl 1 (by simp)⟩
        rintro rfl
        exact hz ⟨h0, rfl⟩
    have hk255 : k.toNat ≤ 8 := by omega
    obtain ⟨q, HQ⟩ : ∃ q, Hid (q = k.toNat) := ⟨_, rfl⟩
    have hvb : vb k = .int .u8 (q : Int) := by rw [HQ.out]
    rw [hvb] at b0
    rw [← HQ.out] at h8 hl hy hk255 HV HKK
    obtain ⟨n, HLn⟩ : ∃ n, Hid (n = t.length) := ⟨_, rfl⟩
    rw [← HLn.out] at hl
    obtain rfl : N = n + 1 := by rw [HLn.out]; exact hn.symm
    clear hr hcl hvb hz hn
    have e0 : (((n + 1 : Nat) : Int) == 0) = false := by simp; omega
    have e0' : ((n : Int) + 1 == 0) = false := by simp; omega
    have i1 : (0 : Int) < (n : Int) + 1 := by omega
    have d8 : decide ((8 : Int) < (q : Int)) = false := by simp; omega
    have dl : decide (((n : Int) + 1) < 1 + (q : Int)) = false := by simp; omega
    have hqn : q ≤ n := by omega
    have HKI : Hid ((1 : Int) + (q : Int) = (kk : Int)) := by show _ = _; rw [← HKK.out]; omega
    by_cases hq0 : 0 < q
    · obtain ⟨y, hy1, hy2⟩ := hy hq0
      have dy : ((y.toNat : Int) == 0) = false := by rw [beq_eq_false_iff_ne]; intro hc; exact hy1 (UInt8.toNat_inj.1 (by simp; omega))
      have i2 : (1 : Int) < (n : Int) + 1 := by omega
      have d0 : decide ((0 : Int) < (q : Int)) = true := by simp; omega
      clear hy hy1
      go_enter Try.func33, Try.ntmps33
      go_wp2_with fail
      clear dy d0 i2
      go_loop [4, 5] (fun r i => ∃ j : Nat, j ≤ q ∧ i = .int .i64 j ∧ r = .int .u64 ((val (t.take j) : Nat) : Int)) (fun _ i => q - (intOf i).toNat)
      case atStart => exact ⟨0, Nat.zero_le _, rfl, rfl⟩
      case round =>
        obtain ⟨j, hj, rfl, rfl⟩ := hrel
        by_cases hlt : j < q
        · have hjt : j < t.length := by have := HLn.out; omega
          have tj := HT.out j hjt
          have HVT := Lib.hid (val_take t j hjt)
          have hva : val (t.take j) < 72057594037927936 := by
            have h1 := val_lt (t.take j)
            have h2 : (t.take j).length ≤ 7 := by simp; omega
            have h3 : 256 ^ (t.take j).length ≤ 256 ^ 7 := Nat.pow_le_pow_right (by omega) h2
            omega
          have j0 : (0 : Int) ≤ (j : Int) := by omega
          have j1 : (j : Int) < (q : Int) := by omega
          have s1 : IntKind.i64.wrap (1 + (j : Int)) = 1 + (j : Int) := IntWalk.i64_in _ (by omega)
          have s2 : (0 : Int) ≤ 1 + (j : Int) := by omega
          have s3 : 1 + (j : Int) < (n : Int) + 1 := by omega
          have s4 : (1 + (j : Int)).toNat = 1 + j := by omega
          generalize val (t.take j) = a at *
          generalize t[j] = x at *
          have hx255 : x.toNat ≤ 255 := by have := x.toNat_lt; omega
          go_wp2_with fail
          go_round
          case rel => exact ⟨j + 1, by omega, by go_num, by rw [HVT.out]; go_num⟩
          case measure => simp [intOf]; omega
        · have HJ : Hid (j = q) := by show _ = _; omega
          have HVV : Hid (val (t.take j) = v) := by show _ = _; rw [HJ.out]; exact HV.out
          rw [HVV.out]
          have d1 : decide ((j : Int) < (q : Int)) = false := by simp; omega
          go_wp2_with fail
          go_quiet (fail)
          go_wp2_with fail
          go_ret2
          rw [HKI.out]
          exact HF.out _
    · obtain rfl : q = 0 := by omega
      have HV0 : Hid (v = 0) := HV.out.symm
      have d0 : decide ((0 : Int) < 0) = false := rfl
      clear hy
      go_enter Try.func33, Try.ntmps33
      go_wp2_with fail
      go_loop [4, 5] (fun r i => r = .int .u64 0 ∧ i = .int .i64 0) (fun _ i => 0)
      case atStart => exact ⟨rfl, rfl⟩
      case round =>
        obtain ⟨rfl, rfl⟩ := hrel
        go_wp2_with fail
        go_quiet (fail)
        go_wp2_with fail
        go_ret2
        have h := HF.out
        rw [HV0.out, ← HKI.out] at h
        exact h _

theorem number_calls (A : Option Addr) (N c : Nat) (l : List UInt8) (w : World) (hn : l.length = N) (hr : RB w A l) (hlc : N ≤ c) (hcm : c ≤ maxLen) :
    Calls Try.prog 33 #[.slice A N c] w (NumPost l w) := by
  cases hp : parse l with
  | none => exact number_bad A N c l w hn hr hlc hcm hp
  | some p => obtain ⟨v, k⟩ := p; exact number_good A N c l w hn hr hlc hcm v k hp
end Wi
end Go.Proofs.Ytnmgapokamkhpaa
