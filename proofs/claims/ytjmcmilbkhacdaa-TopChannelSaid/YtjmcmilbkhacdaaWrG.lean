/- The walk of the closure in Reader.Uint: a number is read. -/
import Derived.Test.YtjmcmilbkhacdaaWrF
namespace Go.Proofs.Ytjmcmilbkhacdaa
open Go.RowKit
namespace Wi
open Wr

theorem or_byte (a : Nat) (x : UInt8) (ha : a < 72057594037927936) : bits .or .u64 ((a : Int) * 256) (x.toNat : Int) = ((a * 256 + x.toNat : Nat) : Int) := by
  have hx := x.toNat_lt
  have h := or_bv (BitVec.ofNat 64 (a * 256)) (BitVec.ofNat 64 x.toNat)
  rw [BitVec.toNat_or, BitVec.toNat_ofNat, BitVec.toNat_ofNat, Nat.mod_eq_of_lt (by omega), Nat.mod_eq_of_lt (by omega)] at h
  rw [show ((a : Int) * 256) = ((a * 256 : Nat) : Int) by omega, h]
  congr 1
  have := Nat.two_pow_add_eq_or_of_lt (i := 8) (b := x.toNat) (by omega) a
  rw [show a * 256 = 2 ^ 8 * a by omega]
  exact this.symm

set_option maxRecDepth 100000 in
set_option maxHeartbeats 4000000 in
theorem uint1_good (R0 N0 g : Nat) (A : Option Addr) (c : Nat) (l : List UInt8) (w : World) (hR : w.heap[R0]? = some (.cells #[.pointer (some ⟨g, 0, none⟩)] 63 (0, 0)))
    (hg : w.heap[g]? = some (.cells #[.slice A l.length c, .int .i64 0] 72 (0, 0))) (hN : w.heap[N0]? = some (.cells #[.int .u64 0] 65 (0, 0))) (hr : RB w A l) (hlc : l.length ≤ c) (hcm : c ≤ maxLen)
    (hbN : 0 < l.length → ∀ b off, A = some ⟨b, off, none⟩ → b ≠ N0) (hRN : R0 ≠ N0) (hgN : g ≠ N0) (v kk : Nat) (hp : parse l = some (v, kk)) :
    Calls Try.prog 37 #[.pointer (some ⟨R0, 0, none⟩), .pointer (some ⟨N0, 0, none⟩)] w (UPost w N0 g A c l) := by
  unfold maxLen at hcm
  cases l with
  | nil => cases hp
  | cons k t =>
    have HP := Lib.hid hp
    rw [parse_cons] at hp
    by_cases h8 : 8 < k.toNat
    · rw [if_pos h8] at hp; cases hp
    rw [if_neg h8] at hp
    by_cases hl : t.length < k.toNat
    · rw [if_pos hl] at hp; cases hp
    rw [if_neg hl] at hp
    by_cases hz : 0 < k.toNat ∧ t.head? = some 0
    · rw [if_pos hz] at hp; cases hp
    rw [if_neg hz] at hp
    simp only [Option.some.injEq, Prod.mk.injEq] at hp
    obtain ⟨hv, hkk⟩ := hp
    have HV := Lib.hid hv
    have HKK := Lib.hid hkk
    clear hv hkk
    obtain ⟨b, off, rfl, hbw, hcl⟩ := RB.cells hr (by simp)
    have hbN' : b ≠ N0 := hbN (by simp) b off rfl
    have b0 : w.cell? ⟨b, off, none⟩ = some (vb k) := by have := hcl 0 (by simp); simpa using this
    have HT : Hid (∀ j (hj : j < t.length), w.cell? ⟨b, off + (j + 1), none⟩ = some (vb t[j])) := fun j hj => hcl (j + 1) (by simp; omega)
    have hy : 0 < k.toNat → ∃ y : UInt8, y ≠ 0 ∧ w.cell? ⟨b, off + 1, none⟩ = some (vb y) := by
      intro h0
      cases t with
      | nil => simp at hl; omega
      | cons y t =>
        refine ⟨y, ?_, hcl 1 (by simp)⟩
        rintro rfl
        exact hz ⟨h0, rfl⟩
    have r0 : w.cell? ⟨R0, 0, none⟩ = some (.pointer (some ⟨g, 0, none⟩)) := (cell_of_row _ _ 0 _ _ _ hR).trans rfl
    have g0 : w.cell? ⟨g, 0, none⟩ = some (.slice (some ⟨b, off, none⟩) (t.length + 1) c) := (cell_of_row _ _ 0 _ _ _ hg).trans rfl
    have HR := Lib.hid hR
    have HG := Lib.hid hg
    have HN := Lib.hid hN
    simp only [List.length_cons] at hlc HG
    have hk255 : k.toNat ≤ 8 := by omega
    obtain ⟨q, HQ⟩ : ∃ q, Hid (q = k.toNat) := ⟨_, rfl⟩
    have hvb : vb k = .int .u8 (q : Int) := by rw [HQ.out]
    rw [hvb] at b0
    rw [← HQ.out] at h8 hl hz hy hk255 HV HKK
    have HTL : Hid ((k :: t).length = t.length + 1) := rfl
    obtain ⟨n, HLn⟩ : ∃ n, Hid (n = t.length) := ⟨_, rfl⟩
    rw [← HLn.out] at hl hlc HG g0 HTL
    clear hR hg hN hr hcl hbN hvb hz
    have e0 : (((n + 1 : Nat) : Int) == 0) = false := by simp; omega
    have e0' : ((n : Int) + 1 == 0) = false := by simp; omega
    have i1 : (0 : Int) < (n : Int) + 1 := by omega
    have d8 : decide ((8 : Int) < (q : Int)) = false := by simp; omega
    have dl : decide (((n : Int) + 1) ≤ (q : Int)) = false := by simp; omega
    have hqn : q ≤ n := by omega
    by_cases hq0 : 0 < q
    · obtain ⟨y, hy1, hy2⟩ := hy hq0
      have dy : ((y.toNat : Int) == 0) = false := by rw [beq_eq_false_iff_ne]; intro hc; exact hy1 (UInt8.toNat_inj.1 (by simp; omega))
      have i2 : (1 : Int) < (n : Int) + 1 := by omega
      have d0 : decide ((0 : Int) < (q : Int)) = true := by simp; omega
      have hc1 : ¬ c = 1 := by omega
      clear hy hy1
      go_enter Try.func37, Try.ntmps37
      go_wp2_with fail
      go_quiet (fail)
      go_wp2_with fail
      go_loopw [69] (fun i wr => ∃ j : Nat, j ≤ q ∧ i = .int .i64 j ∧ wr.heap[N0]? = some (.cells #[.int .u64 ((val (t.take j) : Nat) : Int)] 65 (0, 0)) ∧ Chg [N0] w wr) (fun i _ => q - (intOf i).toNat)
      case atStart => exact ⟨0, Nat.zero_le _, rfl, HN.out, (Chg.refl _ _).drewN _⟩
      case round =>
        obtain ⟨j, hj, rfl, hn0, hch⟩ := hrel
        have HN0 := Lib.hid hn0
        have HCH := Lib.hid hch
        by_cases hlt : j < q
        · have hjt : j < t.length := by have := HLn.out; omega
          have n0 : wr.cell? ⟨N0, 0, none⟩ = some (.int .u64 ((val (t.take j) : Nat) : Int)) := (cell_of_row _ _ 0 _ _ _ hn0).trans rfl
          have f0 : wr.frozen? ⟨N0, 0, none⟩ = false := frozen_of_row _ _ _ _ _ hn0
          have tj : wr.cell? ⟨b, off + 1 + j, none⟩ = some (vb t[j]) := by
            rw [World.cell?_of_block (hch.block b hbw (by simpa using hbN')), show off + 1 + j = off + (j + 1) by omega]; exact HT.out j hjt
          have HVT := Lib.hid (val_take t j hjt)
          have hva : val (t.take j) < 72057594037927936 := by
            have h1 := val_lt (t.take j)
            have h2 : (t.take j).length ≤ 7 := by simp; omega
            have h3 : 256 ^ (t.take j).length ≤ 256 ^ 7 := Nat.pow_le_pow_right (by omega) h2
            omega
          have j0 : (0 : Int) ≤ (j : Int) := by omega
          have j1 : (j : Int) < (q : Int) := by omega
          clear hn0 hch
          generalize val (t.take j) = a at *
          generalize t[j] = x at *
          have hx255 : x.toNat ≤ 255 := by have := x.toNat_lt; omega
          go_wp2_with fail
          rw [or_byte a x hva]
          have hn2 := heap_setCell_same wr N0 0 _ _ (.int .u64 ((a * 256 + x.toNat : Nat) : Int)) HN0.out
          have HN2 := Lib.hid hn2
          have HC2 := Lib.hid (HCH.out.setCell (p := ⟨N0, 0, none⟩) (.inl (by simp)) (.int .u64 ((a * 256 + x.toNat : Nat) : Int)))
          clear hn2
          go_roundw
          case rel => exact ⟨j + 1, by omega, by go_num, by rw [HVT.out]; exact HN2.out, HC2.out⟩
          case measure => simp [intOf]; omega
        · have HJ : Hid (j = q) := by show _ = _; omega
          have r1 : wr.cell? ⟨R0, 0, none⟩ = some (.pointer (some ⟨g, 0, none⟩)) := (hch.cellAt HR.out (by simpa using hRN)).trans rfl
          have hg1 := hch.blk HG.out (by simpa using hgN)
          have HG1 := Lib.hid hg1
          have g1 : wr.cell? ⟨g, 0, none⟩ = some (.slice (some ⟨b, off, none⟩) (n + 1) c) := (cell_of_row _ _ 0 _ _ _ hg1).trans rfl
          have fg : wr.frozen? ⟨g, 0, none⟩ = false := frozen_of_row _ _ _ _ _ hg1
          have k0 : (0 : Int) ≤ 1 + (q : Int) := by omega
          have k1 : 1 + (q : Int) ≤ (n : Int) + 1 := by omega
          have k2 : IntKind.i64.wrap (1 + (q : Int)) = 1 + (q : Int) := by rw [IntKind.wrap_i64]; omega
          have HF : Hid (∀ sl, sl = Value.slice (cutA (some ⟨b, off, none⟩) (1 + q) c) (n + 1 - (1 + q)) (c - (1 + q)) → UPost w N0 g (some ⟨b, off, none⟩) c (k :: t) (.returned (.int .i64 0)) (wr.setCell ⟨g, 0, none⟩ sl).drew) := by
            intro sl hsl
            refine ⟨0, sl, rfl, heap_setCell_same wr g 0 _ _ sl HG1.out, .inr ⟨v, kk, HP.out, rfl, ?_, ?_, ?_⟩⟩
            · rw [hsl, ← HKK.out, HTL.out]
            · refine (heap_setCell_other wr ⟨g, 0, none⟩ N0 sl (by show N0 ≠ g; omega)).trans ?_
              rw [← HV.out, ← HJ.out]; exact HN0.out
            · exact ((HCH.out.mono (S' := [N0, g]) (by simp)).setCell (p := ⟨g, 0, none⟩) (.inl (by simp)) sl).drew
          clear hn0 hch hg1
          by_cases hcq : c = 1 + q
          · have HC := Lib.hid hcq
            have hcA : Hid (cutA (some ⟨b, off, none⟩) (1 + q) c = some ⟨b, off, none⟩) := by show _ = _; unfold cutA; rw [if_pos hcq]
            go_wp2_with fail
            go_region
            all_goals
              go_wp2_with fail
              go_ret
              exact HF.out _ (by rw [hcA.out]; first | rfl | (have := HC.out; congr 1 <;> omega))
          · have hcA : Hid (cutA (some ⟨b, off, none⟩) (1 + q) c = some ⟨b, off + (1 + q), none⟩) := by show _ = _; unfold cutA; rw [if_neg hcq]; simp [addr_add]
            go_wp2_with fail
            go_region
            all_goals
              go_wp2_with fail
              go_ret
              exact HF.out _ (by rw [hcA.out])
    · have d0 : decide ((0 : Int) < (q : Int)) = false := by simp; omega
      clear hy
      by_cases hc1 : c = 1
      · subst hc1
        go_enter Try.func37, Try.ntmps37
        go_wp2_with fail
        go_quiet (fail)
        go_wp2_with fail
        go_loopw [69] (fun i wr => ∃ j : Nat, j ≤ q ∧ i = .int .i64 j ∧ wr.heap[N0]? = some (.cells #[.int .u64 ((val (t.take j) : Nat) : Int)] 65 (0, 0)) ∧ Chg [N0] w wr) (fun i _ => q - (intOf i).toNat)
        case atStart => exact ⟨0, Nat.zero_le _, rfl, HN.out, (Chg.refl _ _).drewN _⟩
        case round =>
          obtain ⟨j, hj, rfl, hn0, hch⟩ := hrel
          have HN0 := Lib.hid hn0
          have HCH := Lib.hid hch
          by_cases hlt : j < q
          · exact absurd hlt (by omega)
          · have HJ : Hid (j = q) := by show _ = _; omega
            have r1 : wr.cell? ⟨R0, 0, none⟩ = some (.pointer (some ⟨g, 0, none⟩)) := (hch.cellAt HR.out (by simpa using hRN)).trans rfl
            have hg1 := hch.blk HG.out (by simpa using hgN)
            have HG1 := Lib.hid hg1
            have g1 : wr.cell? ⟨g, 0, none⟩ = some (.slice (some ⟨b, off, none⟩) (n + 1) 1) := (cell_of_row _ _ 0 _ _ _ hg1).trans rfl
            have fg : wr.frozen? ⟨g, 0, none⟩ = false := frozen_of_row _ _ _ _ _ hg1
            have k0 : (0 : Int) ≤ 1 + (q : Int) := by omega
            have k1 : 1 + (q : Int) ≤ (n : Int) + 1 := by omega
            have k2 : IntKind.i64.wrap (1 + (q : Int)) = 1 + (q : Int) := by rw [IntKind.wrap_i64]; omega
            have HF : Hid (∀ sl, sl = Value.slice (cutA (some ⟨b, off, none⟩) (1 + q) 1) (n + 1 - (1 + q)) (1 - (1 + q)) → UPost w N0 g (some ⟨b, off, none⟩) 1 (k :: t) (.returned (.int .i64 0)) (wr.setCell ⟨g, 0, none⟩ sl).drew) := by
              intro sl hsl
              refine ⟨0, sl, rfl, heap_setCell_same wr g 0 _ _ sl HG1.out, .inr ⟨v, kk, HP.out, rfl, ?_, ?_, ?_⟩⟩
              · rw [hsl, ← HKK.out, HTL.out]
              · refine (heap_setCell_other wr ⟨g, 0, none⟩ N0 sl (by show N0 ≠ g; omega)).trans ?_
                rw [← HV.out, ← HJ.out]; exact HN0.out
              · exact ((HCH.out.mono (S' := [N0, g]) (by simp)).setCell (p := ⟨g, 0, none⟩) (.inl (by simp)) sl).drew
            clear hn0 hch hg1
            have hcq : 1 = 1 + q := by omega
            have HC := Lib.hid hcq
            have hcA : Hid (cutA (some ⟨b, off, none⟩) (1 + q) 1 = some ⟨b, off, none⟩) := by show _ = _; unfold cutA; rw [if_pos hcq]
            have hif : ∀ x y : Option Addr, (if 1 = 1 + q then x else y) = x := fun x y => if_pos hcq
            have hif2 : ∀ x y : Option Addr, (if q = 0 then x else y) = x := fun x y => if_pos (by omega)
            clear hcq
            go_wp2_with fail
            go_region
            all_goals
              go_wp2_with fail
              go_ret
              exact HF.out _ (by rw [hcA.out]; first | rfl | (have := HC.out; congr 1 <;> omega))

      · go_enter Try.func37, Try.ntmps37
        go_wp2_with fail
        go_quiet (fail)
        go_wp2_with fail
        go_loopw [69] (fun i wr => ∃ j : Nat, j ≤ q ∧ i = .int .i64 j ∧ wr.heap[N0]? = some (.cells #[.int .u64 ((val (t.take j) : Nat) : Int)] 65 (0, 0)) ∧ Chg [N0] w wr) (fun i _ => q - (intOf i).toNat)
        case atStart => exact ⟨0, Nat.zero_le _, rfl, HN.out, (Chg.refl _ _).drewN _⟩
        case round =>
          obtain ⟨j, hj, rfl, hn0, hch⟩ := hrel
          have HN0 := Lib.hid hn0
          have HCH := Lib.hid hch
          by_cases hlt : j < q
          · exact absurd hlt (by omega)
          · have HJ : Hid (j = q) := by show _ = _; omega
            have r1 : wr.cell? ⟨R0, 0, none⟩ = some (.pointer (some ⟨g, 0, none⟩)) := (hch.cellAt HR.out (by simpa using hRN)).trans rfl
            have hg1 := hch.blk HG.out (by simpa using hgN)
            have HG1 := Lib.hid hg1
            have g1 : wr.cell? ⟨g, 0, none⟩ = some (.slice (some ⟨b, off, none⟩) (n + 1) c) := (cell_of_row _ _ 0 _ _ _ hg1).trans rfl
            have fg : wr.frozen? ⟨g, 0, none⟩ = false := frozen_of_row _ _ _ _ _ hg1
            have k0 : (0 : Int) ≤ 1 + (q : Int) := by omega
            have k1 : 1 + (q : Int) ≤ (n : Int) + 1 := by omega
            have k2 : IntKind.i64.wrap (1 + (q : Int)) = 1 + (q : Int) := by rw [IntKind.wrap_i64]; omega
            have HF : Hid (∀ sl, sl = Value.slice (cutA (some ⟨b, off, none⟩) (1 + q) c) (n + 1 - (1 + q)) (c - (1 + q)) → UPost w N0 g (some ⟨b, off, none⟩) c (k :: t) (.returned (.int .i64 0)) (wr.setCell ⟨g, 0, none⟩ sl).drew) := by
              intro sl hsl
              refine ⟨0, sl, rfl, heap_setCell_same wr g 0 _ _ sl HG1.out, .inr ⟨v, kk, HP.out, rfl, ?_, ?_, ?_⟩⟩
              · rw [hsl, ← HKK.out, HTL.out]
              · refine (heap_setCell_other wr ⟨g, 0, none⟩ N0 sl (by show N0 ≠ g; omega)).trans ?_
                rw [← HV.out, ← HJ.out]; exact HN0.out
              · exact ((HCH.out.mono (S' := [N0, g]) (by simp)).setCell (p := ⟨g, 0, none⟩) (.inl (by simp)) sl).drew
            clear hn0 hch hg1
            have hcq : ¬ c = 1 + q := by omega
            have hcA : Hid (cutA (some ⟨b, off, none⟩) (1 + q) c = some ⟨b, off + (1 + q), none⟩) := by show _ = _; unfold cutA; rw [if_neg hcq]; simp [addr_add]
            go_wp2_with fail
            go_region
            all_goals
              go_wp2_with fail
              go_ret
              exact HF.out _ (by rw [hcA.out])

end Wi
end Go.Proofs.Ytjmcmilbkhacdaa
