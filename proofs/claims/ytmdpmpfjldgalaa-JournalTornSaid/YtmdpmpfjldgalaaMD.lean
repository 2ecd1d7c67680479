/- Merged: WrG WrH WrI WrJ WrK WrL WrM Ap WrN WrO WrP CkA CkB CkC CkD. -/
import Derived.Shelf.Abstract
import Derived.Outline
import Derived.WalkLawsBesides
import Derived.WalkSpells
import Derived.Deep.DeepFit
import Derived.Deep.WholeRow
import Derived.Laws.CopyOwn
import Derived.Test.YtmdpmpfjldgalaaMC
import Derived.Test.YtmdpmpfjldgalaaRows
import Derived.Test.YtmdpmpfjldgalaaMA
/- The walk of the closure in Reader.Uint: a number is read. -/
namespace Go.Proofs.Ytmdpmpfjldgalaa
open Go.RowKit
namespace Wi
open Wr

theorem or_byte (a : Nat) (x : UInt8) (ha : a < 72057594037927936) : bits .or .u64 ((a : Int) * 256) (x.toNat : Int) = ((a * 256 + x.toNat : Nat) : Int) := by
  have hx := x.toNat_lt
  have h := or_bv (BitVec.ofNat 64 (a * 256)) (BitVec.ofNat 64 x.toNat)
  rw [BitVec.toNat_or, BitVec.toNat_ofNat, BitVec.toNat_ofNat, Nat.mod_eq_of_lt (by omega), Nat.mod_eq_of_lt (by omega)] at h
  rw [show ((a : Int) * 256) = ((a * 256 : Nat) : Int) by omega, h]
  congr 1
  have := Nat.two_pow_add_eq_or_of_lt (i := 8) (b := x.toNat) (by omega) a
  rw [show a * 256 = 2 ^ 8 * a by omega]
  exact this.symm

set_option maxRecDepth 100000 in
set_option maxHeartbeats 4000000 in
theorem uint1_good (R0 N0 g : Nat) (A : Option Addr) (c : Nat) (l : List UInt8) (w : World) (hR : w.heap[R0]? = some (.cells #[.pointer (some ⟨g, 0, none⟩)] 116 (0, 0)))
    (hg : w.heap[g]? = some (.cells #[.slice A l.length c, .int .i64 0] 126 (0, 0))) (hN : w.heap[N0]? = some (.cells #[.int .u64 0] 100 (0, 0))) (hr : RB w A l) (hlc : l.length ≤ c) (hcm : c ≤ maxLen)
    (hbN : 0 < l.length → ∀ b off, A = some ⟨b, off, none⟩ → b ≠ N0) (hRN : R0 ≠ N0) (hgN : g ≠ N0) (v kk : Nat) (hp : parse l = some (v, kk)) :
    Calls Try.prog 83 #[.pointer (some ⟨R0, 0, none⟩), .pointer (some ⟨N0, 0, none⟩)] w (UPost w N0 g A c l) := by
  unfold maxLen at hcm
  cases l with
  | nil => cases hp
  | cons k t =>
    have HP := Lib.hid hp
    rw [parse_cons] at hp
    by_cases h8 : 8 < k.toNat
    · rw [if_pos h8] at hp; cases hp
    rw [if_neg h8] at hp
    by_cases hl : t.length < k.toNat
    · rw [if_pos hl] at hp; cases hp
    rw [if_neg hl] at hp
    by_cases hz : 0 < k.toNat ∧ t.head? = some 0
    · rw [if_pos hz] at hp; cases hp
    rw [if_neg hz] at hp
    simp only [Option.some.injEq, Prod.mk.injEq] at hp
    obtain ⟨hv, hkk⟩ := hp
    have HV := Lib.hid hv
    have HKK := Lib.hid hkk
    clear hv hkk
    obtain ⟨b, off, rfl, hbw, hcl⟩ := RB.cells hr (by simp)
    have hbN' : b ≠ N0 := hbN (by simp) b off rfl
    have b0 : w.cell? ⟨b, off, none⟩ = some (vb k) := by have := hcl 0 (by simp); simpa using this
    have HT : Hid (∀ j (hj : j < t.length), w.cell? ⟨b, off + (j + 1), none⟩ = some (vb t[j])) := fun j hj => hcl (j + 1) (by simp; omega)
    have hy : 0 < k.toNat → ∃ y : UInt8, y ≠ 0 ∧ w.cell? ⟨b, off + 1, none⟩ = some (vb y) := by
      intro h0
      cases t with
      | nil => simp at hl; omega
      | cons y t =>
        refine ⟨y, ?_, hcl 1 (by simp)⟩
        rintro rfl
        exact hz ⟨h0, rfl⟩
    have r0 : w.cell? ⟨R0, 0, none⟩ = some (.pointer (some ⟨g, 0, none⟩)) := (cell_of_row _ _ 0 _ _ _ hR).trans rfl
    have g0 : w.cell? ⟨g, 0, none⟩ = some (.slice (some ⟨b, off, none⟩) (t.length + 1) c) := (cell_of_row _ _ 0 _ _ _ hg).trans rfl
    have HR := Lib.hid hR
    have HG := Lib.hid hg
    have HN := Lib.hid hN
    simp only [List.length_cons] at hlc HG
    have hk255 : k.toNat ≤ 8 := by omega
    obtain ⟨q, HQ⟩ : ∃ q, Hid (q = k.toNat) := ⟨_, rfl⟩
    have hvb : vb k = .int .u8 (q : Int) := by rw [HQ.out]
    rw [hvb] at b0
    rw [← HQ.out] at h8 hl hz hy hk255 HV HKK
    have HTL : Hid ((k :: t).length = t.length + 1) := rfl
    obtain ⟨n, HLn⟩ : ∃ n, Hid (n = t.length) := ⟨_, rfl⟩
    rw [← HLn.out] at hl hlc HG g0 HTL
    clear hR hg hN hr hcl hbN hvb hz
    have e0 : (((n + 1 : Nat) : Int) == 0) = false := by simp; omega
    have e0' : ((n : Int) + 1 == 0) = false := by simp; omega
    have i1 : (0 : Int) < (n : Int) + 1 := by omega
    have d8 : decide ((8 : Int) < (q : Int)) = false := by simp; omega
    have dl : decide (((n : Int) + 1) ≤ (q : Int)) = false := by simp; omega
    have hqn : q ≤ n := by omega
    by_cases hq0 : 0 < q
    · obtain ⟨y, hy1, hy2⟩ := hy hq0
      have dy : ((y.toNat : Int) == 0) = false := by rw [beq_eq_false_iff_ne]; intro hc; exact hy1 (UInt8.toNat_inj.1 (by simp; omega))
      have i2 : (1 : Int) < (n : Int) + 1 := by omega
      have d0 : decide ((0 : Int) < (q : Int)) = true := by simp; omega
      have hc1 : ¬ c = 1 := by omega
      clear hy hy1
      go_enter Try.func83, Try.ntmps83
      go_wp2_with fail
      go_quiet (fail)
      go_wp2_with fail
      go_loopw [69] (fun i wr => ∃ j : Nat, j ≤ q ∧ i = .int .i64 j ∧ wr.heap[N0]? = some (.cells #[.int .u64 ((val (t.take j) : Nat) : Int)] 100 (0, 0)) ∧ Chg [N0] w wr) (fun i _ => q - (intOf i).toNat)
      case atStart => exact ⟨0, Nat.zero_le _, rfl, HN.out, (Chg.refl _ _).drewN _⟩
      case round =>
        obtain ⟨j, hj, rfl, hn0, hch⟩ := hrel
        have HN0 := Lib.hid hn0
        have HCH := Lib.hid hch
        by_cases hlt : j < q
        · have hjt : j < t.length := by have := HLn.out; omega
          have n0 : wr.cell? ⟨N0, 0, none⟩ = some (.int .u64 ((val (t.take j) : Nat) : Int)) := (cell_of_row _ _ 0 _ _ _ hn0).trans rfl
          have f0 : wr.frozen? ⟨N0, 0, none⟩ = false := frozen_of_row _ _ _ _ _ hn0
          have tj : wr.cell? ⟨b, off + 1 + j, none⟩ = some (vb t[j]) := by
            rw [World.cell?_of_block (hch.block b hbw (by simpa using hbN')), show off + 1 + j = off + (j + 1) by omega]; exact HT.out j hjt
          have HVT := Lib.hid (val_take t j hjt)
          have hva : val (t.take j) < 72057594037927936 := by
            have h1 := val_lt (t.take j)
            have h2 : (t.take j).length ≤ 7 := by simp; omega
            have h3 : 256 ^ (t.take j).length ≤ 256 ^ 7 := Nat.pow_le_pow_right (by omega) h2
            omega
          have j0 : (0 : Int) ≤ (j : Int) := by omega
          have j1 : (j : Int) < (q : Int) := by omega
          clear hn0 hch
          generalize val (t.take j) = a at *
          generalize t[j] = x at *
          have hx255 : x.toNat ≤ 255 := by have := x.toNat_lt; omega
          go_wp2_with fail
          rw [or_byte a x hva]
          have hn2 := heap_setCell_same wr N0 0 _ _ (.int .u64 ((a * 256 + x.toNat : Nat) : Int)) HN0.out
          have HN2 := Lib.hid hn2
          have HC2 := Lib.hid (HCH.out.setCell (p := ⟨N0, 0, none⟩) (.inl (by simp)) (.int .u64 ((a * 256 + x.toNat : Nat) : Int)))
          clear hn2
          go_roundw
          case rel => exact ⟨j + 1, by omega, by go_num, by rw [HVT.out]; exact HN2.out, HC2.out⟩
          case measure => simp [intOf]; omega
        · have HJ : Hid (j = q) := by show _ = _; omega
          have r1 : wr.cell? ⟨R0, 0, none⟩ = some (.pointer (some ⟨g, 0, none⟩)) := (hch.cellAt HR.out (by simpa using hRN)).trans rfl
          have hg1 := hch.blk HG.out (by simpa using hgN)
          have HG1 := Lib.hid hg1
          have g1 : wr.cell? ⟨g, 0, none⟩ = some (.slice (some ⟨b, off, none⟩) (n + 1) c) := (cell_of_row _ _ 0 _ _ _ hg1).trans rfl
          have fg : wr.frozen? ⟨g, 0, none⟩ = false := frozen_of_row _ _ _ _ _ hg1
          have k0 : (0 : Int) ≤ 1 + (q : Int) := by omega
          have k1 : 1 + (q : Int) ≤ (n : Int) + 1 := by omega
          have k2 : IntKind.i64.wrap (1 + (q : Int)) = 1 + (q : Int) := by rw [IntKind.wrap_i64]; omega
          have HF : Hid (∀ sl, sl = Value.slice (cutA (some ⟨b, off, none⟩) (1 + q) c) (n + 1 - (1 + q)) (c - (1 + q)) → UPost w N0 g (some ⟨b, off, none⟩) c (k :: t) (.returned (.int .i64 0)) (wr.setCell ⟨g, 0, none⟩ sl).drew) := by
            intro sl hsl
            refine ⟨0, sl, rfl, heap_setCell_same wr g 0 _ _ sl HG1.out, .inr ⟨v, kk, HP.out, rfl, ?_, ?_, ?_⟩⟩
            · rw [hsl, ← HKK.out, HTL.out]
            · refine (heap_setCell_other wr ⟨g, 0, none⟩ N0 sl (by show N0 ≠ g; omega)).trans ?_
              rw [← HV.out, ← HJ.out]; exact HN0.out
            · exact ((HCH.out.mono (S' := [N0, g]) (by simp)).setCell (p := ⟨g, 0, none⟩) (.inl (by simp)) sl).drew
          clear hn0 hch hg1
          by_cases hcq : c = 1 + q
          · have HC := Lib.hid hcq
            have hcA : Hid (cutA (some ⟨b, off, none⟩) (1 + q) c = some ⟨b, off, none⟩) := by show _ = _; unfold cutA; rw [if_pos hcq]
            go_wp2_with fail
            go_region
            all_goals
              go_wp2_with fail
              go_ret
              exact HF.out _ (by rw [hcA.out]; first | rfl | (have := HC.out; congr 1 <;> omega))
          · have hcA : Hid (cutA (some ⟨b, off, none⟩) (1 + q) c = some ⟨b, off + (1 + q), none⟩) := by show _ = _; unfold cutA; rw [if_neg hcq]; simp [addr_add]
            go_wp2_with fail
            go_region
            all_goals
              go_wp2_with fail
              go_ret
              exact HF.out _ (by rw [hcA.out])
    · have d0 : decide ((0 : Int) < (q : Int)) = false := by simp; omega
      clear hy
      by_cases hc1 : c = 1
      · subst hc1
        go_enter Try.func83, Try.ntmps83
        go_wp2_with fail
        go_quiet (fail)
        go_wp2_with fail
        go_loopw [69] (fun i wr => ∃ j : Nat, j ≤ q ∧ i = .int .i64 j ∧ wr.heap[N0]? = some (.cells #[.int .u64 ((val (t.take j) : Nat) : Int)] 100 (0, 0)) ∧ Chg [N0] w wr) (fun i _ => q - (intOf i).toNat)
        case atStart => exact ⟨0, Nat.zero_le _, rfl, HN.out, (Chg.refl _ _).drewN _⟩
        case round =>
          obtain ⟨j, hj, rfl, hn0, hch⟩ := hrel
          have HN0 := Lib.hid hn0
          have HCH := Lib.hid hch
          by_cases hlt : j < q
          · exact absurd hlt (by omega)
          · have HJ : Hid (j = q) := by show _ = _; omega
            have r1 : wr.cell? ⟨R0, 0, none⟩ = some (.pointer (some ⟨g, 0, none⟩)) := (hch.cellAt HR.out (by simpa using hRN)).trans rfl
            have hg1 := hch.blk HG.out (by simpa using hgN)
            have HG1 := Lib.hid hg1
            have g1 : wr.cell? ⟨g, 0, none⟩ = some (.slice (some ⟨b, off, none⟩) (n + 1) 1) := (cell_of_row _ _ 0 _ _ _ hg1).trans rfl
            have fg : wr.frozen? ⟨g, 0, none⟩ = false := frozen_of_row _ _ _ _ _ hg1
            have k0 : (0 : Int) ≤ 1 + (q : Int) := by omega
            have k1 : 1 + (q : Int) ≤ (n : Int) + 1 := by omega
            have k2 : IntKind.i64.wrap (1 + (q : Int)) = 1 + (q : Int) := by rw [IntKind.wrap_i64]; omega
            have HF : Hid (∀ sl, sl = Value.slice (cutA (some ⟨b, off, none⟩) (1 + q) 1) (n + 1 - (1 + q)) (1 - (1 + q)) → UPost w N0 g (some ⟨b, off, none⟩) 1 (k :: t) (.returned (.int .i64 0)) (wr.setCell ⟨g, 0, none⟩ sl).drew) := by
              intro sl hsl
              refine ⟨0, sl, rfl, heap_setCell_same wr g 0 _ _ sl HG1.out, .inr ⟨v, kk, HP.out, rfl, ?_, ?_, ?_⟩⟩
              · rw [hsl, ← HKK.out, HTL.out]
              · refine (heap_setCell_other wr ⟨g, 0, none⟩ N0 sl (by show N0 ≠ g; omega)).trans ?_
                rw [← HV.out, ← HJ.out]; exact HN0.out
              · exact ((HCH.out.mono (S' := [N0, g]) (by simp)).setCell (p := ⟨g, 0, none⟩) (.inl (by simp)) sl).drew
            clear hn0 hch hg1
            have hcq : 1 = 1 + q := by omega
            have HC := Lib.hid hcq
            have hcA : Hid (cutA (some ⟨b, off, none⟩) (1 + q) 1 = some ⟨b, off, none⟩) := by show _ = _; unfold cutA; rw [if_pos hcq]
            have hif : ∀ x y : Option Addr, (if 1 = 1 + q then x else y) = x := fun x y => if_pos hcq
            have hif2 : ∀ x y : Option Addr, (if q = 0 then x else y) = x := fun x y => if_pos (by omega)
            clear hcq
            go_wp2_with fail
            go_region
            all_goals
              go_wp2_with fail
              go_ret
              exact HF.out _ (by rw [hcA.out]; first | rfl | (have := HC.out; congr 1 <;> omega))

      · go_enter Try.func83, Try.ntmps83
        go_wp2_with fail
        go_quiet (fail)
        go_wp2_with fail
        go_loopw [69] (fun i wr => ∃ j : Nat, j ≤ q ∧ i = .int .i64 j ∧ wr.heap[N0]? = some (.cells #[.int .u64 ((val (t.take j) : Nat) : Int)] 100 (0, 0)) ∧ Chg [N0] w wr) (fun i _ => q - (intOf i).toNat)
        case atStart => exact ⟨0, Nat.zero_le _, rfl, HN.out, (Chg.refl _ _).drewN _⟩
        case round =>
          obtain ⟨j, hj, rfl, hn0, hch⟩ := hrel
          have HN0 := Lib.hid hn0
          have HCH := Lib.hid hch
          by_cases hlt : j < q
          · exact absurd hlt (by omega)
          · have HJ : Hid (j = q) := by show _ = _; omega
            have r1 : wr.cell? ⟨R0, 0, none⟩ = some (.pointer (some ⟨g, 0, none⟩)) := (hch.cellAt HR.out (by simpa using hRN)).trans rfl
            have hg1 := hch.blk HG.out (by simpa using hgN)
            have HG1 := Lib.hid hg1
            have g1 : wr.cell? ⟨g, 0, none⟩ = some (.slice (some ⟨b, off, none⟩) (n + 1) c) := (cell_of_row _ _ 0 _ _ _ hg1).trans rfl
            have fg : wr.frozen? ⟨g, 0, none⟩ = false := frozen_of_row _ _ _ _ _ hg1
            have k0 : (0 : Int) ≤ 1 + (q : Int) := by omega
            have k1 : 1 + (q : Int) ≤ (n : Int) + 1 := by omega
            have k2 : IntKind.i64.wrap (1 + (q : Int)) = 1 + (q : Int) := by rw [IntKind.wrap_i64]; omega
            have HF : Hid (∀ sl, sl = Value.slice (cutA (some ⟨b, off, none⟩) (1 + q) c) (n + 1 - (1 + q)) (c - (1 + q)) → UPost w N0 g (some ⟨b, off, none⟩) c (k :: t) (.returned (.int .i64 0)) (wr.setCell ⟨g, 0, none⟩ sl).drew) := by
              intro sl hsl
              refine ⟨0, sl, rfl, heap_setCell_same wr g 0 _ _ sl HG1.out, .inr ⟨v, kk, HP.out, rfl, ?_, ?_, ?_⟩⟩
              · rw [hsl, ← HKK.out, HTL.out]
              · refine (heap_setCell_other wr ⟨g, 0, none⟩ N0 sl (by show N0 ≠ g; omega)).trans ?_
                rw [← HV.out, ← HJ.out]; exact HN0.out
              · exact ((HCH.out.mono (S' := [N0, g]) (by simp)).setCell (p := ⟨g, 0, none⟩) (.inl (by simp)) sl).drew
            clear hn0 hch hg1
            have hcq : ¬ c = 1 + q := by omega
            have hcA : Hid (cutA (some ⟨b, off, none⟩) (1 + q) c = some ⟨b, off + (1 + q), none⟩) := by show _ = _; unfold cutA; rw [if_neg hcq]; simp [addr_add]
            go_wp2_with fail
            go_region
            all_goals
              go_wp2_with fail
              go_ret
              exact HF.out _ (by rw [hcA.out])

end Wi
end Go.Proofs.Ytmdpmpfjldgalaa

/- The walks of Reader.Uint, Left, Done, Int. -/
namespace Go.Proofs.Ytmdpmpfjldgalaa
open Go.RowKit
namespace Wi
open Wr

theorem uint1_calls (R0 N0 g : Nat) (A : Option Addr) (c : Nat) (l : List UInt8) (w : World) (hR : w.heap[R0]? = some (.cells #[.pointer (some ⟨g, 0, none⟩)] 116 (0, 0)))
    (hg : w.heap[g]? = some (.cells #[.slice A l.length c, .int .i64 0] 126 (0, 0))) (hN : w.heap[N0]? = some (.cells #[.int .u64 0] 100 (0, 0))) (hr : RB w A l) (hlc : l.length ≤ c) (hcm : c ≤ maxLen)
    (hbN : 0 < l.length → ∀ b off, A = some ⟨b, off, none⟩ → b ≠ N0) (hRN : R0 ≠ N0) (hgN : g ≠ N0) :
    Calls Try.prog 83 #[.pointer (some ⟨R0, 0, none⟩), .pointer (some ⟨N0, 0, none⟩)] w (UPost w N0 g A c l) := by
  cases hp : parse l with
  | none => exact uint1_bad R0 N0 g A c l w hR hg hr hlc hcm hp
  | some p => obtain ⟨v, k⟩ := p; exact uint1_good R0 N0 g A c l w hR hg hN hr hlc hcm hbN hRN hgN v k hp

/-- block g holds a reader -/
def IsRd (w : World) (g : Nat) (r : Rs) : Prop :=
  ∃ A c, w.heap[g]? = some (.cells #[.slice A r.l.length c, .int .i64 r.e] 126 (0, 0)) ∧ r.l.length ≤ c ∧ c ≤ maxLen ∧ RB w A r.l ∧ (0 < r.l.length → ∀ b off, A = some ⟨b, off, none⟩ → b < g)
theorem IsRd.below {w w' : World} {g : Nat} {r : Rs} (h : IsRd w g r) (hb : Below w.heap.size w w') : IsRd w' g r := by
  obtain ⟨A, c, h1, h2, h3, h4, h5⟩ := h
  exact ⟨A, c, (hb.block g (Array.getElem?_eq_some_iff.1 h1).1).trans h1, h2, h3, RB.below h4 hb, h5⟩
theorem IsRd.chg {w w' : World} {g : Nat} {r : Rs} {S : List Nat} (h : IsRd w g r) (hc : Chg S w w') (hS : ∀ x ∈ S, g < x) : IsRd w' g r := by
  obtain ⟨A, c, h1, h2, h3, h4, h5⟩ := h
  refine ⟨A, c, hc.blk h1 (fun hm => by have := hS g hm; omega), h2, h3, ?_, h5⟩
  by_cases hl : 0 < r.l.length
  · exact hc.rd h4 fun b off e hm => by have h6 := hS b hm; have h7 := h5 hl b off e; omega
  · have : r.l = [] := List.eq_nil_of_length_eq_zero (by omega)
    rw [this]; exact RB.nil
theorem IsRd.lt {w : World} {g : Nat} {r : Rs} (h : IsRd w g r) : g < w.heap.size := by
  obtain ⟨A, c, h1, _⟩ := h; exact (Array.getElem?_eq_some_iff.1 h1).1
theorem RB.lt {w : World} {A : Option Addr} {l : List UInt8} (h : RB w A l) (hn : 0 < l.length) (b off : Nat) (e : A = some ⟨b, off, none⟩) : b < w.heap.size := by
  obtain ⟨b', off', e', hlt, _⟩ := RB.cells h hn
  rw [e'] at e; cases e; exact hlt
theorem RB.chg {w w' : World} {A : Option Addr} {l : List UInt8} {S : List Nat} (h : RB w A l) (hc : Chg S w w') (hne : 0 < l.length → ∀ b off, A = some ⟨b, off, none⟩ → b ∉ S) : RB w' A l := by
  by_cases hl : 0 < l.length
  · exact hc.rd h (hne hl)
  · have : l = [] := List.eq_nil_of_length_eq_zero (by omega)
    subst this; exact RB.nil

theorem cutA_some {b0 o0 k c b off : Nat} (h : cutA (some ⟨b0, o0, none⟩) k c = some ⟨b, off, none⟩) : b = b0 := by
  unfold cutA at h
  split at h
  · cases h; rfl
  · rw [Option.map_some, addr_add] at h; cases h; rfl

theorem enters_uint : ∀ (args : Array Value) (w' : World), (callFunc 83 args).run Try.prog w' = .ok (.enter 83 args) w' := enters_of Try.func83 (by kernel_rfl) rfl

def UintPost (w : World) (g : Nat) (r : Rs) (e : Ending) (w' : World) : Prop :=
  e = .returned (.int .u64 ((uintR r).1 : Int)) ∧ IsRd w' g (uintR r).2 ∧ Chg [g] w w'

theorem uintR_err (r : Rs) (h : r.e ≠ 0) : uintR r = (0, r) := by unfold uintR; rw [if_pos h]
theorem uintR_none (r : Rs) (h : r.e = 0) (hp : parse r.l = none) : uintR r = (0, failR 11) := by unfold uintR; rw [if_neg (by simp [h]), hp]
theorem uintR_some (r : Rs) (h : r.e = 0) {n k : Nat} (hp : parse r.l = some (n, k)) : uintR r = (n, ⟨r.l.drop k, 0⟩) := by unfold uintR; rw [if_neg (by simp [h]), hp]

set_option maxRecDepth 100000 in
set_option maxHeartbeats 1000000 in
theorem uint_calls (g : Nat) (r : Rs) (w : World) (h : IsRd w g r) : Calls Try.prog 75 #[.pointer (some ⟨g, 0, none⟩)] w (UintPost w g r) := by
  have hgl := h.lt
  have HI := Lib.hid h
  obtain ⟨l, er⟩ := r
  obtain ⟨A, c, hg, hlc, hcm, hr, hne⟩ := h
  simp only at hg hlc hr hne
  have hb2 := below2 w (.cells #[.pointer (some ⟨g, 0, none⟩)] 116) (.cells #[.int .u64 0] 100)
  have hR : ((w.alloc (.cells #[.pointer (some ⟨g, 0, none⟩)] 116)).alloc (.cells #[.int .u64 0] 100)).heap[w.heap.size]? = _ := (Below.heap_alloc _ _ _ (by simp)).trans (heap_alloc_new _ _)
  have hN : ((w.alloc (.cells #[.pointer (some ⟨g, 0, none⟩)] 116)).alloc (.cells #[.int .u64 0] 100)).heap[w.heap.size + 1]? = _ := heap_alloc2_new _ _ _
  have HR := Lib.hid hR
  have HN := Lib.hid hN
  have HB := Lib.hid hb2
  have HG := Lib.hid ((hb2.block g hgl).trans hg)
  have HRb := Lib.hid (RB.below hr hb2)
  have HLT := Lib.hid (fun hp b off e => RB.lt hr hp b off e)
  have HNE := Lib.hid hne
  clear hb2 hR hN hg hr hne
  by_cases he : er = 0
  · subst he
    go_enter Try.func75, Try.ntmps75
    go_wp2_with fail
    generalize (w.alloc (.cells #[.pointer (some ⟨g, 0, none⟩)] 116)).alloc (.cells #[.int .u64 0] 100) = w2 at *
    refine (try_calls _ _ (enters_uint _) g w2 _ HG.out (UR w2 (w.heap.size + 1) g A c l) (uint1_calls w.heap.size (w.heap.size + 1) g A c l w2 HR.out HG.out HN.out HRb.out hlc hcm (fun hp b off e => by have := HLT.out hp b off e; omega) (by omega) (by omega))).mono ?_
    rintro e w4 ⟨ec, sl, w3, hur, hg3, hcase⟩
    rcases hur with ⟨hp, rfl, hch⟩ | ⟨v, k, hp, rfl, rfl, hn3, hch⟩
    · rcases hcase with ⟨h0, _, _⟩ | ⟨_, rfl, rfl⟩
      · cases h0
      · have HF : Hid (UintPost w g ⟨l, 0⟩ (.returned (.int .u64 0)) ((w3.setCell ⟨g, 1, none⟩ (.int .i64 11)).setCell ⟨g, 0, none⟩ (.slice none 0 0))) := by
          unfold UintPost
          rw [uintR_none ⟨l, 0⟩ rfl hp]
          refine ⟨rfl, ⟨none, 0, heap_setCell_same _ _ _ _ _ _ (heap_setCell_same _ _ _ _ _ _ hg3), Nat.le_refl _, by simp [maxLen], RB.nil, fun h => by cases h⟩, ?_⟩
          have h1 : Chg [g] w w3 := (Chg.of_below HB.out [g]).trans' (hch.mono (by simp))
          exact (h1.setCell (p := ⟨g, 1, none⟩) (.inl (by simp)) _).setCell (p := ⟨g, 0, none⟩) (.inl (by simp)) _
        clear hg3 hch hp
        go_wp2_with fail
        go_ret
        exact HF.out
    · rcases hcase with ⟨_, rfl, rfl⟩ | ⟨h0, _, _⟩
      · have hps := parse_some l v k hp
        have hcg : Chg [g] w w3 := (Chg.of_below HB.out [g]).trans hch (by simp)
        have HF : Hid (UintPost w g ⟨l, 0⟩ (.returned (.int .u64 (v : Int))) (w3.setCell ⟨g, 1, none⟩ (.int .i64 0))) := by
          unfold UintPost
          rw [uintR_some ⟨l, 0⟩ rfl hp]
          have hdl : (l.drop k).length = l.length - k := by simp
          have hcs : Chg [g] w3 (w3.setCell ⟨g, 1, none⟩ (.int .i64 0)) := (Chg.refl _ _).setCell (p := ⟨g, 1, none⟩) (.inl (by simp)) _
          refine ⟨rfl, ⟨cutA A k c, c - k, ?_, by simp only [hdl]; omega, by omega, ?_, ?_⟩, hcg.trans' hcs⟩
          · simp only [hdl]; exact heap_setCell_same _ _ _ _ _ _ hg3
          · have h2 : RB w2 (cutA A k c) (l.drop k) := RB.cut HRb.out k c hlc
            have hbl : 0 < (l.drop k).length → ∀ b off, cutA A k c = some ⟨b, off, none⟩ → b < w.heap.size ∧ b < g := by
              intro hpos b off e
              have hl0 : 0 < l.length := by rw [hdl] at hpos; omega
              obtain ⟨b0, o0, rfl, _⟩ := RB.cells HRb.out hl0
              have := cutA_some e
              subst this
              exact ⟨HLT.out hl0 b o0 rfl, HNE.out hl0 b o0 rfl⟩
            refine RB.chg (RB.chg h2 hch ?_) hcs ?_
            · intro hpos b off e
              have := hbl hpos b off e
              simp; omega
            · intro hpos b off e
              have := hbl hpos b off e
              simp; omega
          · intro hpos b off e
            simp only at hpos
            have hl0 : 0 < l.length := by rw [hdl] at hpos; omega
            obtain ⟨b0, o0, rfl, _⟩ := RB.cells HRb.out hl0
            have := cutA_some e
            subst this
            exact HNE.out hl0 b o0 rfl
        have n0 : (w3.setCell ⟨g, 1, none⟩ (.int .i64 0)).cell? ⟨w.heap.size + 1, 0, none⟩ = some (.int .u64 (v : Int)) :=
          (World.cell?_setCell_other w3 ⟨g, 1, none⟩ ⟨w.heap.size + 1, 0, none⟩ _ (fun e => by cases e)).trans ((cell_of_row _ _ 0 _ _ _ hn3).trans rfl)
        clear hg3 hch hp hn3 hps hcg
        go_wp2_with fail
        go_ret
        exact HF.out
      · exact absurd rfl h0
  · have HE : Hid (uintR ⟨l, er⟩ = (0, ⟨l, er⟩)) := uintR_err ⟨l, er⟩ he
    go_enter Try.func75, Try.ntmps75
    go_wp2_with fail
    generalize (w.alloc (.cells #[.pointer (some ⟨g, 0, none⟩)] 116)).alloc (.cells #[.int .u64 0] 100) = w2 at *
    refine (try_no _ g w2 _ er HG.out he).mono ?_
    rintro e w3 ⟨rfl, rfl⟩
    have HF : Hid (UintPost w g ⟨l, er⟩ (.returned (.int .u64 0)) w2) := by
      unfold UintPost
      rw [HE.out]
      exact ⟨rfl, HI.out.below HB.out, Chg.of_below HB.out _⟩
    go_wp2_with fail
    go_ret
    exact HF.out

theorem left_calls (g : Nat) (r : Rs) (w : World) (h : IsRd w g r) : Calls Try.prog 76 #[.pointer (some ⟨g, 0, none⟩)] w fun e w' => e = .returned (.int .i64 (r.l.length : Int)) ∧ w = w' := by
  obtain ⟨A, c, hg, _⟩ := h
  have c0 : w.cell? ⟨g, 0, none⟩ = some (.slice A r.l.length c) := (cell_of_row _ _ 0 _ _ _ hg).trans rfl
  clear hg
  go_enter Try.func76, Try.ntmps76
  go_wp2_with fail
  go_ret
  exact ⟨rfl, rfl⟩

/-- what Done returns -/
def doneR (r : Rs) : Int := if r.e = 0 ∧ 0 < r.l.length then 11 else r.e
end Wi
end Go.Proofs.Ytmdpmpfjldgalaa

/- The walks of Reader.Int, String, NewReader. -/
namespace Go.Proofs.Ytmdpmpfjldgalaa
open Go.RowKit
namespace Wi
open Wr

/-- the integer of a number -/
def unzig (n : Nat) : Int := if n % 2 = 0 then ((n / 2 : Nat) : Int) else -((n / 2 : Nat) : Int) - 1

theorem and_one (n : Nat) (h : n < 18446744073709551616) : bits .and .u64 (n : Int) 1 = ((n % 2 : Nat) : Int) := by
  have h1 := and_bv (BitVec.ofNat 64 n) 1#64
  rw [BitVec.toNat_and, BitVec.toNat_ofNat, Nat.mod_eq_of_lt (by omega), show (1#64 : BitVec 64).toNat = 1 from rfl, Nat.and_one_is_mod] at h1
  exact h1
theorem unzig_eq (n : Nat) (h : n < 18446744073709551616) : bits .xor .i64 ((n : Int) / 2) (wrap64 (-wrap64 (bits .and .u64 (n : Int) 1))) = unzig n := by
  rw [and_one n h]
  show IntKind.i64.wrap ((BitVec.ofInt 64 ((n : Int) / 2) ^^^ BitVec.ofInt 64 _).toNat : Int) = _
  have e1 : ((n : Int) / 2) = ((n / 2 : Nat) : Int) := by omega
  have e2 : (BitVec.ofInt 64 ((n / 2 : Nat) : Int)) = BitVec.ofNat 64 (n / 2) := BitVec.ofInt_natCast ..
  unfold unzig
  by_cases hp : n % 2 = 0
  · rw [if_pos hp, hp, e1, e2, show wrap64 (-wrap64 (((0 : Nat)) : Int)) = 0 by unfold wrap64; omega, show BitVec.ofInt 64 0 = 0#64 from rfl, BitVec.xor_zero, BitVec.toNat_ofNat, Nat.mod_eq_of_lt (by omega), IntKind.wrap_i64]
    omega
  · have h1 : n % 2 = 1 := by omega
    rw [if_neg hp, h1, e1, e2, show wrap64 (-wrap64 (((1 : Nat)) : Int)) = -1 by unfold wrap64; omega, show BitVec.ofInt 64 (-1) = BitVec.allOnes 64 from rfl, BitVec.xor_allOnes, BitVec.toNat_not, BitVec.toNat_ofNat, Nat.mod_eq_of_lt (by omega), IntKind.wrap_i64]
    omega

set_option maxRecDepth 100000 in
set_option maxHeartbeats 1000000 in
theorem clone_calls (A : Option Addr) (n c : Nat) (l : List UInt8) (w : World) (hn : l.length = n) (hr : RB w A l) (hm : n ≤ 1000000) :
    Calls Try.prog 42 #[.slice A n c] w fun e w' => ∃ X cx, e = .returned (.slice X n cx) ∧ w'.ownsRow w.heap.size 5 1 (.slice X n cx) n (l.map vb) ∧ Below w.heap.size w w' := by
  have HN := Lib.hid hn
  have HR := Lib.hid hr
  clear hn hr
  cases A with
  | none =>
    have hl : l = [] := by
      cases l with
      | nil => rfl
      | cons x l => obtain ⟨_, _, e, _⟩ := HR.out 0 (vb x) rfl; cases e
    subst hl
    obtain rfl : n = 0 := HN.out.symm
    have hq := fun w' => Lib.run_eql_slice_nil (P := Try.prog) w' 29 5 none 0 c 0 0 Try.underlying29
    go_enter Try.func42, Try.ntmps42
    go_wp2_with fail
    go_ret
    exact ⟨none, 0, rfl, ⟨rfl, .inl ⟨rfl, rfl⟩⟩, Below.refl _ _⟩
  | some a =>
    have hq := fun w' => Lib.run_eql_slice_nil (P := Try.prog) w' 29 5 (some a) n c 0 0 Try.underlying29
    go_enter Try.func42, Try.ntmps42
    go_wp2_with (at_builtin; refine wpList_apps _ rfl (.tmp 5) (.tmp 6) 29 rfl w.heap.size 5 (.int .u8 0) 1 Try.underlying29 info_u8 rfl (.slice (some ⟨w.heap.size, 0, none⟩) 0 0) 0 [] rfl (own_empty _ _ _ _ rfl (Nat.le_refl _)) (some a) n c (l.map vb) rfl (by simp; exact HN.out) (Rd.alloc HR.out _) (vb_one _) (by simp only [maxLen]; omega) (by omega) (by simp) ?_; intro X cX w5 hown5 happ5; have HO5 := Lib.hid hown5; have HP5 := Lib.hid happ5; clear hown5 happ5)
    go_ret
    have hb5 : Below w.heap.size w w5 := (below1 w _).trans (HP5.out.below (own_empty w.heap.size _ _ _ rfl (Nat.le_refl _)) (by simp))
    refine ⟨X, cX, by simp, ?_, hb5⟩
    have := HO5.out
    simpa using this

set_option maxRecDepth 100000 in
theorem newReader_calls (A : Option Addr) (n c : Nat) (l : List UInt8) (w : World) (hn : l.length = n) (hr : RB w A l) (hm : n ≤ 1000000) :
    Calls Try.prog 74 #[.slice A n c] w fun e w' => ∃ g, e = .returned (.pointer (some ⟨g, 0, none⟩)) ∧ IsRd w' g ⟨l, 0⟩ ∧ w.heap.size ≤ g ∧ Below w.heap.size w w' := by
  have HC := Lib.hid (clone_calls A n c l w hn hr hm)
  have HN := Lib.hid hn
  clear hn hr
  go_enter Try.func74, Try.ntmps74
  go_wp2_with fail
  refine HC.out.mono ?_
  rintro e w1 ⟨X, cx, rfl, ho, hb⟩
  obtain ⟨_, _, e1, hnc, hcm, _, hrd⟩ := own_form ho
  cases e1
  have hs := hb.size
  have HB := Lib.hid hb
  have HRD := Lib.hid hrd
  have HNE : Hid (∀ b off, X = some ⟨b, off, none⟩ → b < w1.heap.size) := by
    rintro b off rfl
    rcases ho.2 with ⟨e, _⟩ | ⟨g, _, _, e, _, hg, _⟩
    · cases e
    · cases e; exact (Array.getElem?_eq_some_iff.1 hg).1
  clear ho hb hrd HC
  go_wp2_with fail
  go_ret
  refine ⟨w1.heap.size, rfl, ⟨X, cx, ?_, ?_, hcm, RB.alloc HRD.out _, fun _ b off e => by have := HNE.out b off e; omega⟩, hs, HB.out.alloc hs _⟩
  · rw [show (Rs.mk l 0).l.length = n from HN.out]; exact heap_alloc_new _ _
  · rw [show (Rs.mk l 0).l.length = n from HN.out]; exact hnc
end Wi
end Go.Proofs.Ytmdpmpfjldgalaa

/- The walk of Reader.String. -/
namespace Go.Proofs.Ytmdpmpfjldgalaa
open Go.RowKit
namespace Wi
open Wr

/-- the closure's answer: how it leaves things -/
def SR (w : World) (S0 g : Nat) (A : Option Addr) (c : Nat) (l : List UInt8) (n : Nat) (ec : Int) (sl : Value) (w' : World) : Prop :=
  (4096 < n ∧ ec = 8 ∧ Chg [] w w') ∨ (n ≤ 4096 ∧ l.length < n ∧ ec = 11 ∧ Chg [] w w') ∨
    (n ≤ 4096 ∧ n ≤ l.length ∧ ec = 0 ∧ sl = .slice (cutA A n c) (l.length - n) (c - n) ∧ w'.heap[S0]? = some (.cells #[.string ⟨(l.take n).toArray⟩] 9 (0, 0)) ∧ Chg [S0, g] w w')
def SPost (w : World) (S0 g : Nat) (A : Option Addr) (c : Nat) (l : List UInt8) (n : Nat) (e : Ending) (w' : World) : Prop :=
  ∃ ec sl, e = .returned (.int .i64 ec) ∧ w'.heap[g]? = some (.cells #[sl, .int .i64 0] 126 (0, 0)) ∧ SR w S0 g A c l n ec sl w'

end Wi
end Go.Proofs.Ytmdpmpfjldgalaa

/- The walk of Reader.String, whole. -/
namespace Go.Proofs.Ytmdpmpfjldgalaa
open Go.RowKit
namespace Wi
open Wr

/-- String -/
def stringR (r : Rs) : List UInt8 × Rs :=
  if (uintR r).2.e ≠ 0 then ([], (uintR r).2) else if 4096 < (uintR r).1 then ([], failR 8) else if (uintR r).2.l.length < (uintR r).1 then ([], failR 11) else ((uintR r).2.l.take (uintR r).1, ⟨(uintR r).2.l.drop (uintR r).1, 0⟩)

def StrPost (w : World) (g : Nat) (s : List UInt8) (r2 : Rs) (e : Ending) (w' : World) : Prop := e = .returned (.string ⟨s.toArray⟩) ∧ IsRd w' g r2 ∧ Chg [g] w w'

/-- a reader cut down, behind writes to its own block and to a new one -/
theorem IsRd.cut {w w2 w3 w4 : World} {g S0 : Nat} {A : Option Addr} {c k : Nat} {l : List UInt8} (hr : RB w A l) (hlc : l.length ≤ c) (hcm : c ≤ maxLen) (hne : 0 < l.length → ∀ b off, A = some ⟨b, off, none⟩ → b < g)
    (hb : Below w.heap.size w w2) (hS : w.heap.size ≤ S0) (hch : Chg [S0, g] w2 w3) (hc4 : Chg [g] w3 w4) (hk : k ≤ l.length)
    (hg : w4.heap[g]? = some (.cells #[.slice (cutA A k c) (l.length - k) (c - k), .int .i64 0] 126 (0, 0))) : IsRd w4 g ⟨l.drop k, 0⟩ := by
  have hdl : (l.drop k).length = l.length - k := by simp
  have hbl : 0 < (l.drop k).length → ∀ b off, cutA A k c = some ⟨b, off, none⟩ → b < w.heap.size ∧ b < g := by
    intro hpos b off e
    have hl0 : 0 < l.length := by rw [hdl] at hpos; omega
    obtain ⟨b0, o0, rfl, hlt, _⟩ := RB.cells hr hl0
    have := cutA_some e
    subst this
    exact ⟨hlt, hne hl0 b o0 rfl⟩
  refine ⟨cutA A k c, c - k, by simp only [hdl]; exact hg, by simp only [hdl]; omega, by omega, ?_, fun hpos b off e => (hbl hpos b off e).2⟩
  have h2 : RB w2 (cutA A k c) (l.drop k) := RB.cut (RB.below hr hb) k c hlc
  refine RB.chg (RB.chg h2 hch ?_) hc4 ?_
  · intro hpos b off e
    have := hbl hpos b off e
    simp; omega
  · intro hpos b off e
    have := hbl hpos b off e
    simp; omega

end Wi
end Go.Proofs.Ytmdpmpfjldgalaa

/- The walk of refmeshlaw02.awake, and the law WirePrefixes. -/
namespace Go.Proofs.Ytmdpmpfjldgalaa
open Go.RowKit
namespace Wi
open Wr

theorem Ext.self {w w' : World} {B : Nat} {v0 v : Value} {l : List UInt8} (h : Ext w B v0 l v w') : Ext w' B v l v w' := by
  obtain ⟨X, c, rfl, ho, _⟩ := h
  exact ⟨X, c, rfl, ho, App.refl _ _⟩
theorem Ext.nil (w : World) : Ext w w.heap.size (.slice none 0 0) [] (.slice none 0 0) w := ⟨none, 0, rfl, ⟨rfl, .inl ⟨rfl, rfl⟩⟩, App.refl _ _⟩
theorem Ext.below {w w1 w' : World} {B : Nat} {v0 v : Value} {l0 l : List UInt8} (h0 : Ext w1 B v0 l0 v0 w) (hB : B ≤ w.heap.size) (h : Ext w B v0 l v w') : Below B w w' := by
  obtain ⟨X0, c0, rfl, ho, _⟩ := h0
  obtain ⟨X, c, rfl, _, ha⟩ := h
  exact ha.below ho hB
theorem Ext.read {w w' : World} {B : Nat} {v0 v : Value} {l : List UInt8} (h : Ext w B v0 l v w') : ∃ X c, v = .slice X l.length c ∧ l.length ≤ c ∧ c ≤ maxLen ∧ RB w' X l := by
  obtain ⟨X, c, rfl, ho, _⟩ := h
  obtain ⟨_, _, e, h1, h2, _, h3⟩ := own_form ho
  cases e
  exact ⟨X, c, rfl, h1, h2, h3⟩

def awL : List UInt8 := [0, 2, 1, 2, 1, 1, 1, 2, 97, 98]

end Wi
end Go.Proofs.Ytmdpmpfjldgalaa

/- The walk of the law WirePrefixes. -/
namespace Go.Proofs.Ytmdpmpfjldgalaa
open Go.RowKit
namespace Wi
open Wr

end Wi
end Go.Proofs.Ytmdpmpfjldgalaa

/- Appends of bytes: the laws that the walks of byte slices use. -/
namespace Go.Proofs.Ytmdpmpfjldgalaa
open Go.RowKit
namespace Wi
open Wr

/-- the slice v of the call's own holds the bytes l -/
def OB (w : World) (B : Nat) (v : Value) (l : List UInt8) : Prop := w.ownsRow B 5 1 v l.length (l.map vb)
theorem OB.below {w w' : World} {B : Nat} {v : Value} {l : List UInt8} (h : OB w B v l) (hb : Below w.heap.size w w') : OB w' B v l := own_below h hb
theorem OB.base {w : World} {B B' : Nat} {v : Value} {l : List UInt8} (h : OB w B v l) (hb : B' ≤ B) : OB w B' v l := own_base h hb
theorem OB.rb {w : World} {B k c : Nat} {X : Option Addr} {l : List UInt8} (h : OB w B (.slice X k c) l) : RB w X l ∧ k = l.length ∧ k ≤ c ∧ c ≤ maxLen := by
  obtain ⟨A, cap, e, h1, h2, h3, h4⟩ := own_form h
  cases e
  exact ⟨h4, rfl, h1, h2⟩
theorem own_one (B : Nat) (e : TypeId) (u : World) (n : Nat) (v : Value) (hn : u.heap.size = n) (hB : B ≤ n) : (u.alloc (.cells #[v] e)).ownsRow B e 1 (.slice (some ⟨n, 0, none⟩) 1 1) 1 [v] := by
  subst hn
  exact own_of_blk hB (heap_alloc_new _ _) (Nat.le_refl _) (by simp [maxLen]) rfl rfl

section
variable {ops : Array Oper} {rest : List Oper} {o : Oper} {a : Act} {Q : Exit → Act → World → Prop} {K : Act → World → Prop} {E : Prop}
/-- bytes appended -/
theorem wp_appB (w : World) (s x : Operand) (ho : o.op = .call { callee := .builtin .append, args := #[s, x], argTypes := #[29, 29] })
    (B : Nat) (v : Value) (l l2 : List UInt8) (hs : a.eval s = v) (hown : OB w B v l) (A : Option Addr) (m c : Nat) (hx : a.eval x = .slice A m c) (hm : l2.length = m) (hr : RB w A l2)
    (hlen : l.length + m ≤ 100000000) (hbase : B ≤ w.heap.size)
    (h : ∀ X cap k w', Hid (k = (l ++ l2).length) → k ≤ l.length + m → l.length + m ≤ k → Hid (OB w' B (.slice X k cap) (l ++ l2)) → Hid (App w v w' (.slice X k cap)) → Hid (Below B w w') → w.heap.size ≤ w'.heap.size → K (a.put o.dst (.slice X k cap)) w') :
    o.wp Try.prog a w K Q := by
  refine wp_app w s x 29 ho B 5 (.int .u8 0) 1 Try.underlying29 info_u8 rfl v l.length (l.map vb) hs hown A m c (l2.map vb) hx (by simpa using hm) hr (vb_one _) (by unfold maxLen; omega) (by omega) hbase ?_
  intro v' w' h2 h3
  obtain ⟨X, cap, rfl, _⟩ := own_form h2
  have hl : (l ++ l2).length = l.length + m := by simp [hm]
  refine h X cap (l.length + m) w' hl.symm (Nat.le_refl _) (Nat.le_refl _) ?_ h3 (h3.below hown hbase) h3.size
  show OB _ _ _ _
  unfold OB
  rw [hl, List.map_append]; exact h2
theorem appB (w : World) (hgd : o.guard = none) (s x : Operand) (ho : o.op = .call { callee := .builtin .append, args := #[s, x], argTypes := #[29, 29] })
    (B : Nat) (v : Value) (l l2 : List UInt8) (hs : a.eval s = v) (hown : OB w B v l) (A : Option Addr) (m c : Nat) (hx : a.eval x = .slice A m c) (hm : l2.length = m) (hr : RB w A l2)
    (hlen : l.length + m ≤ 100000000) (hbase : B ≤ w.heap.size)
    (h : ∀ X cap k w', Hid (k = (l ++ l2).length) → k ≤ l.length + m → l.length + m ≤ k → Hid (OB w' B (.slice X k cap) (l ++ l2)) → Hid (App w v w' (.slice X k cap)) → Hid (Below B w w') → w.heap.size ≤ w'.heap.size → wpList Try.prog ops Q rest (a.put o.dst (.slice X k cap)) w') :
    wpList Try.prog ops Q (o :: rest) a w :=
  wpList_plain hgd fun _ hK => wp_appB w s x ho B v l l2 hs hown A m c hx hm hr hlen hbase fun X cap k w' h1 h2 h3 h4 h5 h6 h7 => hK _ _ (h X cap k w' h1 h2 h3 h4 h5 h6 h7)
/-- 'append(b, x)': one byte -/
theorem app1 (w : World) (hgd : o.guard = none) (s x : Operand) (ho : o.op = .call { callee := .builtin .append, args := #[s, x], argTypes := #[29, 29] })
    (B : Nat) (v : Value) (l : List UInt8) (y : UInt8) (z : Int) (hs : a.eval s = v) (hown : OB w B v l) (hx : a.eval x = .slice (some ⟨w.heap.size, 0, none⟩) 1 1) (hz : Value.int .u8 z = vb y)
    (hlen : l.length + 1 ≤ 100000000) (hbase : B ≤ w.heap.size)
    (h : ∀ X cap k w', Hid (k = (l ++ [y]).length) → k ≤ l.length + 1 → l.length + 1 ≤ k → Hid (OB w' B (.slice X k cap) (l ++ [y])) → Hid (App w v w' (.slice X k cap)) → Hid (Below B w w') → w.heap.size ≤ w'.heap.size → wpList Try.prog ops Q rest (a.put o.dst (.slice X k cap)) w') :
    wpList Try.prog ops Q (o :: rest) a (w.alloc (.cells #[.int .u8 z] 5)) :=
  appB _ hgd s x ho B v l [y] hs (hown.below (below1 w _)) _ 1 1 hx rfl (by rw [hz]; exact Rd.one w _ _) hlen (Nat.le_trans hbase (by simp))
    fun X cap k w' h1 h2 h3 h4 h5 h6 h7 => h X cap k w' h1 h2 h3 h4 h5.out.alloc_left ((Below.refl _ _).alloc hbase _ |>.trans h6.out) (Nat.le_trans (by simp) h7)
/-- 'append([]byte{}, b...)': a copy -/
theorem app0 (w : World) (hgd : o.guard = none) (s x : Operand) (ho : o.op = .call { callee := .builtin .append, args := #[s, x], argTypes := #[29, 29] })
    (l : List UInt8) (hs : a.eval s = .slice (some ⟨w.heap.size, 0, none⟩) 0 0) (A : Option Addr) (m c : Nat) (hx : a.eval x = .slice A m c) (hm : l.length = m) (hr : RB w A l) (hlen : m ≤ 100000000)
    (h : ∀ X cap k w', Hid (k = l.length) → k ≤ m → m ≤ k → Hid (OB w' w.heap.size (.slice X k cap) l) → Hid (Below w.heap.size w w') → w.heap.size ≤ w'.heap.size → wpList Try.prog ops Q rest (a.put o.dst (.slice X k cap)) w') :
    wpList Try.prog ops Q (o :: rest) a (w.alloc (.cells #[] 5)) :=
  appB _ hgd s x ho w.heap.size _ [] l hs (own_empty _ _ _ _ rfl (Nat.le_refl _)) A m c hx hm (hr.alloc _) (by simpa using hlen) (by simp)
    fun X cap k w' h1 h2 h3 h4 h5 h6 h7 => h X cap k w' h1 (by simpa using h2) (by simpa using h3) h4 ((below1 w _).trans h6.out) (Nat.le_trans (by simp) h7)
/-- the same two in a region that draws its order -/
theorem st_appB (w : World) (hgd : o.guard = none) (s x : Operand) (ho : o.op = .call { callee := .builtin .append, args := #[s, x], argTypes := #[29, 29] })
    (B : Nat) (v : Value) (l l2 : List UInt8) (hs : a.eval s = v) (hown : OB w B v l) (A : Option Addr) (m c : Nat) (hx : a.eval x = .slice A m c) (hm : l2.length = m) (hr : RB w A l2)
    (hlen : l.length + m ≤ 100000000) (hbase : B ≤ w.heap.size)
    (h : ∀ X cap k w', Hid (k = (l ++ l2).length) → k ≤ l.length + m → l.length + m ≤ k → Hid (OB w' B (.slice X k cap) (l ++ l2)) → Hid (App w v w' (.slice X k cap)) → Hid (Below B w w') → w.heap.size ≤ w'.heap.size → K (a.put o.dst (.slice X k cap)) w') :
    if Region.wanted o (yielded ops a.tmps) = true then Oper.wp Try.prog o a w K Q else E := by
  have hw : Region.wanted o (yielded ops a.tmps) = true := by simp [Region.wanted, hgd]
  rw [if_pos hw]
  exact wp_appB w s x ho B v l l2 hs hown A m c hx hm hr hlen hbase h
theorem st_app0 (w : World) (hgd : o.guard = none) (s x : Operand) (ho : o.op = .call { callee := .builtin .append, args := #[s, x], argTypes := #[29, 29] })
    (l : List UInt8) (hs : a.eval s = .slice (some ⟨w.heap.size, 0, none⟩) 0 0) (A : Option Addr) (m c : Nat) (hx : a.eval x = .slice A m c) (hm : l.length = m) (hr : RB w A l) (hlen : m ≤ 100000000)
    (h : ∀ X cap k w', Hid (k = l.length) → k ≤ m → m ≤ k → Hid (OB w' w.heap.size (.slice X k cap) l) → Hid (Below w.heap.size w w') → w.heap.size ≤ w'.heap.size → K (a.put o.dst (.slice X k cap)) w') :
    if Region.wanted o (yielded ops a.tmps) = true then Oper.wp Try.prog o a (w.alloc (.cells #[] 5)) K Q else E :=
  st_appB _ hgd s x ho w.heap.size _ [] l hs (own_empty _ _ _ _ rfl (Nat.le_refl _)) A m c hx hm (hr.alloc _) (by simpa using hlen) (by simp)
    fun X cap k w' h1 h2 h3 h4 h5 h6 h7 => h X cap k w' h1 (by simpa using h2) (by simpa using h3) h4 ((below1 w _).trans h6.out) (Nat.le_trans (by simp) h7)
end

/-- a new slice with these bytes -/
def NewB (w : World) (l : List UInt8) (e : Ending) (w' : World) : Prop :=
  ∃ X c k, e = .returned (.slice X k c) ∧ k = l.length ∧ OB w' w.heap.size (.slice X k c) l ∧ Below w.heap.size w w'
end Wi
end Go.Proofs.Ytmdpmpfjldgalaa

/- The walks of refmeshref02's append functions. -/
namespace Go.Proofs.Ytmdpmpfjldgalaa
open Go.RowKit
namespace Wi
open Wr

def FillD (w : World) (l : List UInt8) (v : Value) (wr : World) : Prop :=
  ∃ X c k, v = .slice X k c ∧ k = l.length ∧ OB wr w.heap.size (.slice X k c) l ∧ Below w.heap.size w wr

set_option maxRecDepth 100000 in
set_option maxHeartbeats 1000000 in
theorem ruint_calls (A : Option Addr) (m cap : Nat) (l : List UInt8) (N : Nat) (w : World) (hl : l.length = m) (hr : RB w A l) (hm : m ≤ 1000000) (hN : N < 18446744073709551616) :
    Calls Try.prog 58 #[.slice A m cap, .int .u64 (N : Int)] w (NewB w (l ++ enc N)) := by
  have HL := Lib.hid hl
  have HR := Lib.hid hr
  have h8 := digits_len_le N
  clear hl hr
  go_enter Try.func58, Try.ntmps58
  go_wp2_with fail
  go_loopw [1, 5] (fun r v wr => ∃ j : Nat, ∃ D : List UInt8, r = .int .u64 ((N / 256 ^ j : Nat) : Int) ∧ digits N = digits (N / 256 ^ j) ++ D ∧ FillD w D v wr) (fun r _ _ => (intOf r).toNat)
  case atStart => exact ⟨0, [], by simp, by simp, _, 0, 0, rfl, rfl, own_empty _ _ _ _ rfl (Nat.le_refl _), below1 _ _⟩
  case round =>
    obtain ⟨j, D, rfl, hd, X, c, q, rfl, hq, ho, hb⟩ := hrel
    have HD := Lib.hid hd
    have HO := Lib.hid ho
    have HB := Lib.hid hb
    have HQ := Lib.hid hq
    have hDl : D.length ≤ 8 := by have := congrArg List.length hd; simp at this; omega
    have hq8 : q ≤ 8 := by omega
    have RX := Lib.hid ho.rb.1
    have hws : w.heap.size ≤ wr.heap.size := hb.size
    clear hd ho hb hq
    by_cases hz : N / 256 ^ j = 0
    · have HE : Hid (enc N = [UInt8.ofNat D.length] ++ D) := by
        show _ = _
        have : digits N = D := by rw [HD.out, hz, digits_zero]; rfl
        unfold enc; rw [this]; rfl
      rw [hz]
      have e0 : Hid (Value.int .u8 (q : Int) = vb (UInt8.ofNat D.length)) := by rw [HQ.out]; exact vb_ofNat D.length (by omega)
      clear hz
      go_wp2_with (first | (at_builtin; refine app0 _ rfl (.tmp 17) (.tmp 18) rfl l rfl _ m cap rfl HL.out (RB.below HR.out HB.out) (by omega) ?_; intro X1 c1 k1 w1 HK1 hk1 hk1' HO1 HB1 hs1) | (at_builtin; refine app1 _ rfl (.tmp 19) (.tmp 23) rfl wr.heap.size _ l (UInt8.ofNat D.length) _ rfl HO1.out rfl e0.out (by have := HL.out; omega) hs1 ?_; intro X2 c2 k2 w2 HK2 hk2 hk2' HO2 HA2 HB2 hs2) | (at_builtin; refine appB _ rfl (.tmp 24) (.tmp 25) rfl wr.heap.size _ (l ++ [UInt8.ofNat D.length]) D rfl HO2.out X q c rfl HQ.out.symm (RB.below RX.out (HB1.out.trans HB2.out)) (by have := HL.out; simp; omega) (by omega) ?_; intro X3 c3 k3 w3 HK3 hk3 hk3' HO3 HA3 HB3 hs3))
      go_ret
      refine ⟨X3, c3, k3, rfl, ?_, ?_, HB.out.trans ((HB1.out.trans (HB2.out.trans HB3.out)).mono hws)⟩
      · rw [HK3.out, HE.out, List.append_assoc]
      · rw [HE.out, ← List.append_assoc]; exact HO3.out.base hws
    · have hrl : N / 256 ^ j < 18446744073709551616 := by have := Nat.div_le_self N (256 ^ j); omega
      have HQ2 : Hid (N / 256 ^ j / 256 = N / 256 ^ (j + 1)) := by show _ = _; rw [Nat.div_div_eq_div_mul, ← Nat.pow_succ]
      have HS : Hid (digits (N / 256 ^ j) = digits (N / 256 ^ (j + 1)) ++ [UInt8.ofNat (N / 256 ^ j)]) := by show _ = _; rw [digits_step _ hrl hz, HQ2.out]
      have hr0 : 0 < N / 256 ^ j := Nat.pos_of_ne_zero hz
      generalize N / 256 ^ j = r at *
      have d0 : decide ((0 : Int) < (r : Int)) = true := by simp; omega
      have HV : Hid (Value.int .u8 ((r : Int) % 256) = vb (UInt8.ofNat r)) := by
        show _ = Value.int .u8 ((UInt8.ofNat r).toNat : Int)
        rw [UInt8.toNat_ofNat']; congr 1
      clear hz
      go_wp2_with (at_builtin; refine appB _ rfl (.tmp 12) (.tmp 13) rfl w.heap.size (.slice (some ⟨wr.heap.size, 0, none⟩) 1 1) [UInt8.ofNat r] D rfl (show OB _ _ _ _ by unfold OB; rw [HV.out]; exact own_one _ _ _ _ _ rfl hws) X q c rfl HQ.out.symm (RB.alloc RX.out _) (by simp; omega) (Nat.le_trans hws (by simp)) ?_; intro X1 c1 k1 w1 HK1 hk1 hk1' HO1 HA1 HB1 hs1)
      go_roundw
      case rel =>
        exact ⟨j + 1, [UInt8.ofNat r] ++ D, by rw [← HQ2.out]; go_num, by rw [HD.out, HS.out]; simp, X1, c1, k1, rfl, HK1.out, HO1.out, (HB.out.alloc HB.out.size _).trans HB1.out⟩
      case measure => simp [intOf]; omega
end Wi
end Go.Proofs.Ytmdpmpfjldgalaa

/- The walks of refmeshref02's Int, String, ID, Bool and of wire.AppendID. -/
namespace Go.Proofs.Ytmdpmpfjldgalaa
open Go.RowKit
namespace Wi
open Wr

theorem NewB.of {w w' : World} {l : List UInt8} {e : Ending} {W : World} (h : NewB w' l e W) (hb : Below w.heap.size w w') : NewB w l e W := by
  obtain ⟨X, c, k, e1, e2, e3, e4⟩ := h
  exact ⟨X, c, k, e1, e2, e3.base hb.size, hb.trans (e4.mono hb.size)⟩

end Wi
end Go.Proofs.Ytmdpmpfjldgalaa

/- The walks of wire.AppendID and refmeshref02.ID. -/
namespace Go.Proofs.Ytmdpmpfjldgalaa
open Go.RowKit
namespace Wi
open Wr

/-- the word of an integer -/
def u64n (n : Int) : Nat := (IntKind.u64.wrap n).toNat
theorem u64n_cast (n : Int) : (u64n n : Int) = IntKind.u64.wrap n := by unfold u64n; rw [IntKind.wrap_u64]; omega
theorem u64n_lt (n : Int) : u64n n < 18446744073709551616 := by unfold u64n; rw [IntKind.wrap_u64]; omega
theorem u64n_of (n : Int) (h0 : 0 ≤ n) (h : n < 18446744073709551616) : (u64n n : Int) = n := by rw [u64n_cast, IntKind.wrap_u64]; omega
def encID (m s : Int) : List UInt8 := enc (u64n m) ++ enc (u64n s)

theorem Ext.start {w : World} {B : Nat} {v0 : Value} {l : List UInt8} (h : Ext w B v0 l v0 w) {w' : World} (hb : Below w.heap.size w w') : Ext w' B v0 l v0 w' := by
  obtain ⟨X, c, e, ho, ha⟩ := h
  exact ⟨X, c, e, own_below ho hb, e ▸ App.refl _ _⟩
theorem Ext.again {w w' : World} {B : Nat} {v0 v : Value} {l : List UInt8} (h : Ext w B v0 l v w') : Ext w' B v l v w' := by
  obtain ⟨X, c, e, ho, ha⟩ := h
  exact ⟨X, c, e, ho, e ▸ App.refl _ _⟩
theorem Ext.trans {w w1 w2 : World} {B : Nat} {v0 v1 v2 : Value} {l l2 : List UInt8} (h : Ext w B v0 l v1 w1) (k : Ext w1 B v1 l2 v2 w2) : Ext w B v0 l2 v2 w2 := by
  obtain ⟨X, c, e, ho, ha⟩ := h
  obtain ⟨X', c', e', ho', ha'⟩ := k
  subst e
  exact ⟨X', c', e', ho', ha.trans ha'⟩
theorem Ext.from {w w1 w2 : World} {B : Nat} {v0 v : Value} {l : List UInt8} (hb : Below w.heap.size w w1) (h : Ext w1 B v0 l v w2) : Ext w B v0 l v w2 := by
  obtain ⟨X, c, e, ho, ha⟩ := h
  exact ⟨X, c, e, ho, ha.below_left hb⟩
theorem Ext.chg {w w1 : World} {B : Nat} {v0 v : Value} {l : List UInt8} (h : Ext w B v0 l v w1) : Chg v0.ownBlock.toList w w1 := by
  obtain ⟨X, c, e, ho, ha⟩ := h
  exact ha.chg (by intro b hb; rw [hb]; simp)
theorem below_drew (w : World) : Below w.heap.size w w.drew := (Below.refl _ _).drew

end Wi
end Go.Proofs.Ytmdpmpfjldgalaa

/- The walks of checksum.shift, refmeshref04.shift, checksum.tableOf. -/
namespace Go.Proofs.Ytmdpmpfjldgalaa
open Go.RowKit
namespace Ck

theorem sh_test (c : BitVec 64) : (bits BinOp.and IntKind.u64 (c.toNat : Int) 1 == 1) = c.getLsbD 0 := by
  have e : (1 : Int) = ((1#64).toNat : Int) := rfl
  rw [e, and_bv]
  have h1 : (c &&& 1#64).toNat = (c.getLsbD 0).toNat := by
    rw [BitVec.toNat_and]
    show c.toNat &&& 1 = _
    rw [Nat.and_one_is_mod, ← BitVec.testBit_toNat, Nat.testBit_zero]
    rcases Nat.mod_two_eq_zero_or_one c.toNat with h | h <;> simp [h]
  rw [h1]
  cases c.getLsbD 0 <;> rfl

theorem half_bv (c : BitVec 64) : (c.toNat : Int) / (2 : Int) = ((c >>> 1).toNat : Int) := shr_bv c 1

theorem shift_calls (c : BitVec 64) (w : World) :
    Calls Try.prog 91 #[vw c] w fun e w' => e = .returned (vw (Crc.sh c)) ∧ w = w' := by
  have ht := sh_test c
  cases h : c.getLsbD 0
  all_goals
    rw [h] at ht
    have H := Lib.hid h
    clear h
    go_enter Try.func91, Try.ntmps91
    go_wp2
    go_ret
    refine ⟨?_, rfl⟩
    rw [half_bv]
  · unfold Crc.sh; rw [H.out]; rfl
  · rw [show (14514072000185962306 : Int) = (Crc.poly.toNat : Int) from rfl, xor_bv]
    unfold Crc.sh; rw [H.out]; rfl

theorem rshift_calls (c : BitVec 64) (w : World) :
    Calls Try.prog 87 #[vw c] w fun e w' => e = .returned (vw (Crc.sh c)) ∧ w = w' := by
  have hlt := c.isLt
  have ht : ((c.toNat : Int) % 2 == 1) = c.getLsbD 0 := by
    rw [← BitVec.testBit_toNat, Nat.testBit_zero]
    rcases Nat.mod_two_eq_zero_or_one c.toNat with h | h
    · rw [h]; simp; omega
    · rw [h]; simp; omega
  cases h : c.getLsbD 0
  all_goals
    rw [h] at ht
    have H := Lib.hid h
    clear h
    go_enter Try.func87, Try.ntmps87
    go_wp2
    go_ret
    refine ⟨?_, rfl⟩
    rw [half_bv]
  · unfold Crc.sh; rw [H.out]; rfl
  · rw [show (14514072000185962306 : Int) = (Crc.poly.toNat : Int) from rfl, xor_bv]
    unfold Crc.sh; rw [H.out]; rfl

def z256 : Array Value := Array.replicate 256 (.int .u64 0)
/-- the table after k rounds -/
def tabs (k : Nat) : Array Value := ((List.range 256).map fun i => if i < k then vw (Crc.tab i) else .int .u64 0).toArray
theorem size_tabs (k : Nat) : (tabs k).size = 256 := by simp [tabs]
theorem tabs_zero : tabs 0 = z256 := by kernel_rfl
theorem get_tabs (k i : Nat) (h : i < 256) : (tabs k)[i]? = some (if i < k then vw (Crc.tab i) else .int .u64 0) := by
  simp [tabs, h]
theorem tabs_succ (k : Nat) (h : k < 256) : (tabs k).setIfInBounds k (vw (Crc.tab k)) = tabs (k + 1) := by
  apply Array.ext_getElem?
  intro i
  rw [Array.getElem?_setIfInBounds]
  by_cases hi : i < 256
  · rw [get_tabs _ _ hi, get_tabs _ _ hi]
    by_cases hk : k = i
    · subst hk; simp [size_tabs, h]
    · rw [if_neg hk]
      by_cases h1 : i < k
      · rw [if_pos h1, if_pos (by omega)]
      · rw [if_neg h1, if_neg (by omega)]
  · rw [if_neg (by omega)]
    simp [tabs, hi]
theorem tabs_one (k : Nat) : (tabs k).all (·.oneCell') = true := by
  rw [Array.all_eq_true_iff_forall_mem]
  intro v hv
  simp only [tabs, List.mem_toArray, List.mem_map] at hv
  obtain ⟨i, _, rfl⟩ := hv
  split <;> rfl
theorem info_arr : (Try.prog.info? 132).map (fun i => (i.zero, i.size)) = some (some (.agg z256), 256) := by kernel_rfl

set_option maxRecDepth 100000 in
theorem tableOf_calls (w : World) :
    Calls Try.prog 88 #[] w fun e w' => e = .returned (.agg (tabs 256)) ∧ Below w.heap.size w w' := by
  obtain ⟨hz, hsz⟩ := zero_of_info info_arr
  have HS := Lib.hid hsz
  clear hsz
  go_enter Try.func88, Try.ntmps88
  go_wp2_with fail
  clear hz
  go_loopw [4] (fun i wr => ∃ k : Nat, k ≤ 256 ∧ i = .int .i64 k ∧ wr.heap[w.heap.size]? = some (.cells z256 132 (0, 0)) ∧ wr.heap[w.heap.size + 1]? = some (.cells (tabs k) 132 (0, 0)) ∧ Below w.heap.size w wr) (fun i _ => 256 - (intOf i).toNat)
  case atStart => 
    refine ⟨0, by omega, rfl, ?_, ?_, ?_⟩
    · exact heap_alloc2_old _ _ _
    · rw [tabs_zero]; exact heap_alloc2_new _ _ _
    · exact ((Below.refl _ _).alloc (Nat.le_refl _) _).alloc (by simp) _
  case round =>
    obtain ⟨k, hk, rfl, h0, h1, hb⟩ := hrel
    by_cases hlt : k < 256
    · have hB := Lib.hid hb
      have H0 := Lib.hid h0
      have H1 := Lib.hid h1
      have hc : wr.cell? ⟨w.heap.size + 1, k, none⟩ = some (.int .u64 0) := by
        rw [cell_of_row _ _ _ _ _ _ h1, get_tabs _ _ hlt, if_neg (by omega)]
      have hf : wr.frozen? ⟨w.heap.size + 1, k, none⟩ = false := frozen_of_row _ _ _ _ _ h1
      clear hb h0 h1
      have hd : decide ((k : Int) < 256) = true := by simp; omega
      go_wp2_with fail
      go_loop [9, 3] (fun i c => ∃ j : Nat, j ≤ 8 ∧ i = .int .i64 j ∧ c = vw (Crc.shN j (BitVec.ofNat 64 k))) (fun i _ => 8 - (intOf i).toNat)
      case atStart => 
        refine ⟨0, by omega, rfl, ?_⟩
        show Value.int .u64 k = .int .u64 ((BitVec.ofNat 64 k).toNat : Int)
        rw [BitVec.toNat_ofNat, Nat.mod_eq_of_lt (by omega)]
      case round =>
        obtain ⟨j, hj, rfl, rfl⟩ := hrel
        by_cases hj8 : j < 8
        · have hd2 : decide ((j : Int) < 8) = true := by simp; omega
          go_wp2_with (go_at_call 91; refine (shift_calls _ _).mono ?_; rintro e w' ⟨rfl, rfl⟩)
          go_round
          case rel => exact ⟨j + 1, by omega, by go_num, by rw [Crc.shN_succ]⟩
          case measure => simp [intOf]; omega
        · go_wp2
          go_roundw
          case rel =>
            obtain rfl : j = 8 := by omega
            refine ⟨k + 1, by omega, by go_num, ?_, ?_, hB.out.setCell (by simp) _⟩
            · rw [heap_setCell_other _ _ _ _ (by simp)]; exact H0.out
            · rw [heap_setCell_same _ _ _ _ _ _ H1.out]
              exact congrArg (fun c => some (Obj.cells c 132 (0, 0))) (tabs_succ k hlt)
          case measure => simp [intOf]; omega
    · obtain rfl : k = 256 := by omega
      have hB := Lib.hid hb
      go_wp2_with (first | (refine wpList_load_row rfl 132 _ rfl (w.heap.size + 1) rfl 132 _ (0, 0) _ h1 Try.underlying132 rfl (by rw [size_tabs]; exact HS.out) ?_) | (refine wpList_store_row rfl 132 _ _ rfl w.heap.size _ rfl rfl 132 _ h0 (by rw [size_tabs]; exact HS.out) (by rw [size_tabs]; rfl) (tabs_one _) ?_))
      refine bodyPost_ret (results_cell_row rfl _ _ w.heap.size 132 (tabs 256) (0, 0) _ rfl (setRow_heap _ _ _ _ _ _ h0) Try.underlying132 rfl (by rw [size_tabs]; exact HS.out)) rfl ⟨rfl, below_setRow hb (Nat.le_refl _) _⟩
end Ck
end Go.Proofs.Ytmdpmpfjldgalaa

/- The walks of checksum.Update, checksum.Sum and their references. -/
namespace Go.Proofs.Ytmdpmpfjldgalaa
open Go.RowKit
namespace Ck

/-- the table's index -/
def ix (c : BitVec 64) (x : UInt8) : Nat := (c.toNat % 256) ^^^ x.toNat
theorem ix_lt (c : BitVec 64) (x : UInt8) : ix c x < 256 := by
  have h1 : c.toNat % 256 < 2 ^ 8 := Nat.mod_lt _ (by omega)
  exact Nat.xor_lt_two_pow h1 x.toNat_lt

theorem u8_ofInt (x : UInt8) : BitVec.ofInt 8 (x.toNat : Int) = x.toBitVec := by
  apply BitVec.eq_of_toNat_eq; rw [BitVec.ofInt_natCast, BitVec.toNat_ofNat]
  exact Nat.mod_eq_of_lt x.toNat_lt

theorem u8_xor (x y : UInt8) : bits .xor .u8 (x.toNat : Int) (y.toNat : Int) = ((x ^^^ y).toNat : Int) := by
  have hlt : (x ^^^ y).toNat < 256 := UInt8.toNat_lt _
  show IntKind.u8.wrap ((BitVec.ofInt 8 (x.toNat : Int) ^^^ BitVec.ofInt 8 (y.toNat : Int)).toNat : Int) = _
  rw [u8_ofInt, u8_ofInt]
  show IntKind.u8.wrap (((x ^^^ y).toNat : Nat) : Int) = _
  rw [IntKind.wrap_u8]
  omega

theorem ix_bits (c : BitVec 64) (x : UInt8) : bits .xor .u8 ((c.toNat : Int) % (256 : Int)) (x.toNat : Int) = (ix c x : Int) := by
  have h1 : (c.toNat : Int) % (256 : Int) = ((c.toNat % 256 : Nat) : Int) := by omega
  have h2 : (BitVec.ofInt 8 ((c.toNat % 256 : Nat) : Int)).toNat = c.toNat % 256 := by
    rw [BitVec.ofInt_natCast, BitVec.toNat_ofNat]; exact Nat.mod_eq_of_lt (Nat.mod_lt _ (by omega))
  have hlt := ix_lt c x
  rw [h1]
  show IntKind.u8.wrap ((BitVec.ofInt 8 ((c.toNat % 256 : Nat) : Int) ^^^ BitVec.ofInt 8 (x.toNat : Int)).toNat : Int) = _
  rw [BitVec.toNat_xor, h2, u8_ofInt]
  show IntKind.u8.wrap ((ix c x : Nat) : Int) = _
  simp only [IntKind.wrap, IntKind.bits, IntKind.signed]
  simp; omega

theorem not_bits (x : BitVec 64) : bits .xor .u64 IntKind.u64.max (x.toNat : Int) = ((Crc.flip x).toNat : Int) := by
  rw [max_bv, xor_bv, BitVec.allOnes_xor]; rfl

theorem step_bits (c : BitVec 64) (x : UInt8) : bits .xor .u64 ((Crc.tab (ix c x)).toNat : Int) ((c.toNat : Int) / (256 : Int)) = ((Crc.byte c x).toNat : Int) := by
  rw [show (c.toNat : Int) / (256 : Int) = ((c >>> 8).toNat : Int) from shr_bv c 8, xor_bv, ← Crc.byte_eq]; rfl

set_option maxRecDepth 100000 in
theorem update_calls (c : BitVec 64) (A : Option Addr) (n cap : Nat) (l : List UInt8) (w : World) (hn : l.length = n) (hm : n ≤ maxLen) (hr : RB w A l) :
    Calls Try.prog 84 #[vw c, .slice A n cap] w fun e w' => e = .returned (vw (Crc.upd c l)) ∧ Below w.heap.size w w' := by
  have hm' : n ≤ 9223372036854775807 := hm
  clear hm
  obtain ⟨hz, hsz⟩ := zero_of_info info_arr
  have HS := Lib.hid hsz
  have HN := Lib.hid hn
  clear hsz hn
  have hsg := signed_u64
  have hnot := not_bits
  go_enter Try.func84, Try.ntmps84
  go_wp2_with (first | (go_at_call 88; refine (tableOf_calls _).mono ?_; rintro e w1 ⟨rfl, hb1⟩) | (refine wpList_store_row rfl 132 _ _ rfl w1.heap.size _ rfl rfl 132 _ (heap_alloc_new _ _) (by rw [size_tabs]; exact HS.out) (by rw [size_tabs]; rfl) (tabs_one _) ?_))
  have hblk : ((w1.alloc (.cells z256 132)).setRow w1.heap.size (tabs 256)).heap[w1.heap.size]? = some (.cells (tabs 256) 132 (0, 0)) := setRow_heap _ _ _ _ _ _ (heap_alloc_new _ _)
  have hb2 : Below w.heap.size w ((w1.alloc (.cells z256 132)).setRow w1.heap.size (tabs 256)) := below_setRow (hb1.alloc hb1.size _) hb1.size _
  generalize (w1.alloc (.cells z256 132)).setRow w1.heap.size (tabs 256) = w2 at *
  have hr2 := Lib.hid (hr.below hb2)
  have HB := Lib.hid hb2
  have HK := Lib.hid hblk
  clear hb1 hb2 hblk hr hz
  have HT : Hid (∀ i, i < 256 → (tabs 256)[i]? = some (vw (Crc.tab i))) := fun i hi => by rw [get_tabs _ _ hi, if_pos hi]
  generalize tabs 256 = T at *
  go_loop [13, 0] (fun i s => ∃ k : Nat, k ≤ n ∧ i = .int .i64 k ∧ s = vw (Crc.run (Crc.flip c) (l.take k))) (fun i _ => n - (intOf i).toNat)
  case atStart => exact ⟨0, by omega, rfl, rfl⟩
  case round =>
    obtain ⟨k, hk, rfl, rfl⟩ := hrel
    by_cases hlt : k < n
    · have hll : k < l.length := by rw [HN.out]; exact hlt
      obtain ⟨b, off, rfl, _, hc⟩ := hr2.out.cells (by omega)
      have hck := hc k hll
      have hx := ix_bits (Crc.run (Crc.flip c) (l.take k)) l[k]
      have hxl := ix_lt (Crc.run (Crc.flip c) (l.take k)) l[k]
      have hst := step_bits (Crc.run (Crc.flip c) (l.take k)) l[k]
      have HR := Lib.hid (Crc.run_take_succ (Crc.flip c) l k hll)
      generalize Crc.run (Crc.flip c) (l.take k) = s at *
      generalize l[k] = x at *
      have hcell : w2.cell? ⟨w1.heap.size, ix s x, none⟩ = some (vw (Crc.tab (ix s x))) := by
        rw [cell_of_row _ _ _ _ _ _ HK.out, HT.out _ hxl]
      generalize ix s x = i at *
      have hi : i < 256 := hxl
      clear hc hll hxl
      have hd : decide (k < n) = true := by simpa using hlt
      go_wp2_with fail
      go_round
      case rel => exact ⟨k + 1, by omega, by go_num, by rw [HR.out]⟩
      case measure => simp [intOf]; omega
    · obtain rfl : k = n := by omega
      go_wp2_with fail
      go_ret
      refine ⟨?_, HB.out⟩
      rw [List.take_of_length_le (by rw [HN.out]; exact Nat.le_refl _)]; rfl
end Ck
end Go.Proofs.Ytmdpmpfjldgalaa

/- The walks of refmeshref04.Update, both Sums, refmeshlaw04.few. -/
namespace Go.Proofs.Ytmdpmpfjldgalaa
open Go.RowKit
namespace Ck

theorem xor_max (x : BitVec 64) : bits .xor .u64 (x.toNat : Int) (18446744073709551615 : Int) = ((Crc.flip x).toNat : Int) := by
  rw [show (18446744073709551615 : Int) = ((BitVec.allOnes 64).toNat : Int) from by decide, xor_bv, BitVec.xor_allOnes]; rfl

/-- a byte taken in -/
def inb (s : BitVec 64) (x : UInt8) : BitVec 64 := s ^^^ BitVec.ofNat 64 x.toNat
theorem inb_bits (s : BitVec 64) (x : UInt8) : bits .xor .u64 (s.toNat : Int) (x.toNat : Int) = ((inb s x).toNat : Int) := by
  rw [lit_bv x.toNat (by have := x.toNat_lt; omega), xor_bv]; rfl

set_option maxRecDepth 100000 in
theorem rupdate_calls (c : BitVec 64) (A : Option Addr) (n cap : Nat) (l : List UInt8) (w : World) (hn : l.length = n) (hm : n ≤ maxLen) (hr : RB w A l) :
    Calls Try.prog 81 #[vw c, .slice A n cap] w fun e w' => e = .returned (vw (Crc.upd c l)) ∧ w = w' := by
  have hm' : n ≤ 9223372036854775807 := hm
  have HN := Lib.hid hn
  have HR := Lib.hid hr
  clear hm hn hr
  have hnot := xor_max
  go_enter Try.func81, Try.ntmps81
  go_wp2_with fail
  go_loop [6, 5] (fun i s => ∃ k : Nat, k ≤ n ∧ i = .int .i64 k ∧ s = vw (Crc.run (Crc.flip c) (l.take k))) (fun i _ => n - (intOf i).toNat)
  case atStart => exact ⟨0, by omega, rfl, rfl⟩
  case round =>
    obtain ⟨k, hk, rfl, rfl⟩ := hrel
    by_cases hlt : k < n
    · have hll : k < l.length := by rw [HN.out]; exact hlt
      obtain ⟨b, off, rfl, _, hc⟩ := HR.out.cells (by omega)
      have hck := hc k hll
      have HU := Lib.hid (Crc.run_take_succ (Crc.flip c) l k hll)
      generalize Crc.run (Crc.flip c) (l.take k) = s at *
      generalize l[k] = x at *
      have hst := inb_bits s x
      have hxb : x.toNat < 256 := x.toNat_lt
      have HX : Hid (inb s x = s ^^^ BitVec.ofNat 64 x.toNat) := rfl
      generalize inb s x = y at *
      clear hc hll
      have hd : decide (k < n) = true := by simpa using hlt
      go_wp2_with fail
      go_loop [7, 5] (fun i s => ∃ j : Nat, j ≤ 8 ∧ i = .int .i64 j ∧ s = vw (Crc.shN j y)) (fun i _ => 8 - (intOf i).toNat)
      case atStart => exact ⟨0, by omega, rfl, rfl⟩
      case round =>
        obtain ⟨j, hj, rfl, rfl⟩ := hrel
        by_cases hj8 : j < 8
        · have hd2 : decide ((j : Int) < 8) = true := by simp; omega
          go_wp2_with (go_at_call 87; refine (rshift_calls _ _).mono ?_; rintro e w' ⟨rfl, rfl⟩)
          go_round
          case rel => exact ⟨j + 1, by omega, by go_num, by rw [Crc.shN_succ]⟩
          case measure => simp [intOf]; omega
        · obtain rfl : j = 8 := by omega
          go_wp2
          go_round
          case rel => exact ⟨k + 1, by omega, by go_num, by rw [HU.out, HX.out]; rfl⟩
          case measure => simp [intOf]; omega
    · obtain rfl : k = n := by omega
      go_wp2_with fail
      go_ret
      refine ⟨?_, rfl⟩
      rw [List.take_of_length_le (by rw [HN.out]; exact Nat.le_refl _)]; rfl

theorem sum_calls (A : Option Addr) (n cap : Nat) (l : List UInt8) (w : World) (hn : l.length = n) (hm : n ≤ maxLen) (hr : RB w A l) :
    Calls Try.prog 78 #[.slice A n cap] w fun e w' => e = .returned (vw (Crc.sum l)) ∧ Below w.heap.size w w' := by
  have H := Lib.hid (update_calls 0#64 A n cap l w hn hm hr)
  clear hn hm hr
  go_enter Try.func78, Try.ntmps78
  go_wp2_with fail
  refine H.out.mono ?_
  rintro e w' ⟨rfl, hb⟩
  go_wp2_with fail
  go_ret
  exact ⟨rfl, hb⟩

theorem rsum_calls (A : Option Addr) (n cap : Nat) (l : List UInt8) (w : World) (hn : l.length = n) (hm : n ≤ maxLen) (hr : RB w A l) :
    Calls Try.prog 73 #[.slice A n cap] w fun e w' => e = .returned (vw (Crc.sum l)) ∧ w = w' := by
  have H := Lib.hid (rupdate_calls 0#64 A n cap l w hn hm hr)
  clear hn hm hr
  go_enter Try.func73, Try.ntmps73
  go_wp2_with fail
  refine H.out.mono ?_
  rintro e w' ⟨rfl, hb⟩
  go_wp2_with fail
  go_ret
  exact ⟨rfl, hb⟩

/-- a slice value in three parts -/
abbrev vs3 (x : Option Addr × Nat × Nat) : Value := .slice x.1 x.2.1 x.2.2

def fewB (l : List (Option Addr × Nat × Nat)) : Bool := l.all fun x => decide (x.2.1 ≤ 600)

end Ck
end Go.Proofs.Ytmdpmpfjldgalaa

/- The walks of checksum.Seal and refmeshref04.Seal. -/
namespace Go.Proofs.Ytmdpmpfjldgalaa
open Go.RowKit
namespace Ck

theorem info_u8 : (Try.prog.info? 5).map (fun i => (i.zero, i.size, i.bytes)) = some (some (.int .u8 0), 1, 1) := by kernel_rfl

theorem leb_bits (c : BitVec 64) (k : Nat) : (c.toNat : Int) / 2 ^ (8 * k) % 256 = ((Crc.leb c k).toNat : Int) := by
  rw [Crc.leb_toNat, Int.natCast_emod, Int.natCast_ediv, Int.natCast_pow]; rfl

set_option maxRecDepth 100000 in
theorem seal_calls (A : Option Addr) (n cap : Nat) (l : List UInt8) (w : World) (hn : l.length = n) (hm : n ≤ 1099511627776) (hr : RB w A l) :
    Calls Try.prog 65 #[.slice A n cap] w fun e w' => ∃ v, e = .returned v ∧ w'.ownsRow w.heap.size 5 1 v (n + 8) ((Crc.sealed l).map vb) ∧ Below w.heap.size w w' := by
  obtain ⟨i0, hi, hz0, hz1, hz2⟩ := info_parts info_u8
  have HS := fun w1 hb => Lib.hid (sum_calls A n cap l w1 hn (by simp only [maxLen]; omega) (hr.below hb))
  have HR := Lib.hid hr
  have HN := Lib.hid hn
  clear hn hr
  go_enter Try.func65, Try.ntmps65
  go_wp2_with (first
    | (at_make; refine wpList_make_own _ rfl _ _ 29 rfl w.heap.size 5 i0 (.int .u8 0) 1 Try.underlying29 hi hz0 hz1 .i64 .i64 _ (n + 8) rfl rfl (by omega) (by rw [hz2]; omega) (by simp only [maxLen]; omega) (Nat.le_refl _) ?_; intro w1 hown1 hg1)
    | (at_builtin; refine wpList_app _ rfl _ _ 29 rfl w.heap.size 5 (.int .u8 0) 1 Try.underlying29 info_u8 rfl (.slice (some ⟨w.heap.size, 0, none⟩) 0 (n + 8)) 0 [] rfl hown1 A n cap (l.map vb) rfl (by rw [List.length_map]; exact HN.out) (HR.out.below ((Below.refl _ _).grown hg1 (Nat.le_refl _) (by simp))) (vb_one _) (by simp only [maxLen]; omega) (by omega) hg1.size ?_; intro v2 w2 hown2 happ2))
  have hb2 : Below w.heap.size w w2 := (((Below.refl _ _).grown hg1 (Nat.le_refl _) (by simp)).trans (happ2.below hown1 hg1.size))
  have hown2' : w2.ownsRow w.heap.size 5 1 v2 n (l.map vb) := by simpa using hown2
  clear hown1 hown2 happ2 hg1
  refine (HS w2 hb2).out.mono ?_
  rintro e w3 ⟨rfl, hb3⟩
  have hown3 := own_below hown2' hb3
  have hb := hb2.trans (hb3.mono hb2.size)
  have HSE : Hid (Crc.sealed l = l ++ Crc.le8 (Crc.sum l)) := rfl
  generalize Crc.sum l = c at *
  clear hb2 hown2' hb3 HS
  have HB := Lib.hid hb
  have HO := Lib.hid hown3
  clear hb hown3
  go_wp2_with fail
  go_loopw [14, 3] (fun i v wr => ∃ k : Nat, k ≤ 8 ∧ i = .int .i64 k ∧ wr.ownsRow w.heap.size 5 1 v (n + k) ((l ++ (Crc.le8 c).take k).map vb) ∧ Below w.heap.size w wr) (fun i _ _ => 8 - (intOf i).toNat)
  case atStart => exact ⟨0, by omega, rfl, by simpa using HO.out, HB.out⟩
  case round =>
    obtain ⟨k, hk, rfl, hown, hbel⟩ := hrel
    clear HB HO
    by_cases hlt : k < 8
    · have hd : decide ((k : Int) < 8) = true := by simp; omega
      have hby := leb_bits c k
      have HT := Lib.hid (Crc.le8_take_succ c k hlt)
      generalize Crc.leb c k = y at *
      have HO := Lib.hid hown
      have HB := Lib.hid hbel
      clear hown hbel
      go_wp2_with (at_builtin; refine wpList_app _ rfl _ _ 29 rfl w.heap.size 5 (.int .u8 0) 1 Try.underlying29 info_u8 rfl _ _ _ rfl (HO.out.alloc _) (some ⟨wr.heap.size, 0, none⟩) 1 1 [vb y] rfl rfl (Rd.one _ _ _) (vb_one [y]) (by simp only [maxLen]; omega) (by omega) (Nat.le_trans HB.out.size (by simp)) ?_; intro v5 w5 hown5 happ5)
      have hb5 : Below w.heap.size w w5 := (HB.out.alloc HB.out.size _).trans (happ5.below (HO.out.alloc _) (Nat.le_trans HB.out.size (by simp)))
      have hown6 : w5.ownsRow w.heap.size 5 1 v5 (n + (k + 1)) ((l ++ (Crc.le8 c).take (k + 1)).map vb) := by
        rw [HT.out]; simpa [Nat.add_assoc] using hown5
      clear hown5 happ5 HO HB
      have HO := Lib.hid hown6
      have HB := Lib.hid hb5
      clear hown6 hb5
      go_wp2_with fail
      go_roundw
      case rel => exact ⟨k + 1, by omega, by go_num, HO.out, HB.out⟩
      case measure => simp [intOf]; omega
    · obtain rfl : k = 8 := by omega
      have HO := Lib.hid hown
      have HB := Lib.hid hbel
      clear hown hbel
      go_wp2_with fail
      go_ret
      have := HO.out
      rw [List.take_of_length_le (by simp [Crc.le8_length])] at this
      exact ⟨_, rfl, by rw [HSE.out]; exact this, HB.out⟩
end Ck
end Go.Proofs.Ytmdpmpfjldgalaa
