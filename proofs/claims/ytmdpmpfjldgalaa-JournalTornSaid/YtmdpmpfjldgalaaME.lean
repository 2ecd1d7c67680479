/- Merged: CkE CkF CkG JnB RrA RrB RrC JnC JnD JnE. -/
import Derived.Lib.SlBytesConst
import Derived.Deep.RegionHeld3
import Derived.Deep.QuietTactic
import Derived.BigQuiet
import Derived.Test.YtmdpmpfjldgalaaMD
import Derived.Test.YtmdpmpfjldgalaaMA
import Derived.Test.YtmdpmpfjldgalaaMC
/- The walk of refmeshlaw04.awake: the examples hold. -/
namespace Go.Proofs.Ytmdpmpfjldgalaa
open Go.RowKit
namespace Ck

theorem ex1 : vw (Crc.sum [49, 50, 51, 52, 53, 54, 55, 56, 57]) = .int .u64 11051210869376104954 := by kernel_rfl
theorem ex2 : vw (Crc.sum []) = .int .u64 0 := by kernel_rfl
end Ck
end Go.Proofs.Ytmdpmpfjldgalaa

/- The walk of checksum.Open. -/
namespace Go.Proofs.Ytmdpmpfjldgalaa
open Go.RowKit
namespace Ck

/-- what both Opens leave -/
def OpenPost (w : World) (l : List UInt8) (e : Ending) (w' : World) : Prop :=
  Below w.heap.size w w' ∧ ((Crc.opened l = none ∧ e = .returned (.tuple #[.slice none 0 0, .int .i64 11])) ∨
    ∃ x v, Crc.opened l = some x ∧ e = .returned (.tuple #[v, .int .i64 0]) ∧ w'.ownsRow w.heap.size 5 1 v x.length (x.map vb))

theorem int_ne_true {x y : UInt8} (h : x ≠ y) : ((x.toNat : Int) != (y.toNat : Int)) = true := by
  rw [bne_iff_ne]; intro hc; exact h (UInt8.toNat_inj.1 (by omega))
theorem int_ne_false {x y : UInt8} (h : x = y) : ((x.toNat : Int) != (y.toNat : Int)) = false := by
  subst h; simp

set_option maxRecDepth 100000 in
theorem open_calls (A : Option Addr) (m cap : Nat) (l : List UInt8) (w : World) (hl : l.length = m) (hmc : m ≤ cap) (hm : m ≤ 1099511627776) (hr : RB w A l) :
    Calls Try.prog 77 #[.slice A m cap] w (OpenPost w l) := by
  by_cases h8 : m < 8
  · have hd : decide ((m : Int) - 8 < 0) = true := by simp; omega
    have HN := Lib.hid (Crc.opened_short l (by omega))
    clear hl hr
    go_enter Try.func77, Try.ntmps77
    go_wp2_with fail
    go_ret2
    exact ⟨Below.refl _ _, .inl ⟨HN.out, rfl⟩⟩
  · obtain ⟨n, rfl⟩ : ∃ n, m = n + 8 := ⟨m - 8, by omega⟩
    have hd : decide ((n : Int) < 0) = false := by simp
    have hsub : ((n + 8 : Nat) : Int) - 8 = (n : Int) := by omega
    have HS := Lib.hid (sum_calls A n cap (l.take n) w (by simp; omega) (by simp only [maxLen]; omega) (hr.take n))
    have HL := Lib.hid hl
    obtain ⟨b, off, rfl, hb0, hc⟩ := hr.cells (by omega)
    have HC : Hid (∀ k (hk : k < 8), w.cell? ⟨b, off + n + k, none⟩ = some (vb (l[n + k]'(by omega)))) := fun k hk => by
      rw [Nat.add_assoc]; exact hc (n + k) (by omega)
    have HT := Lib.hid (hr.take n)
    have HY := Lib.hid (Crc.opened_yes l n hl)
    have HNo := Lib.hid (Crc.opened_no l n)
    have HM := Lib.hid (Crc.match_succ l n)
    have HMA := Lib.hid (Crc.match_all l n)
    generalize Crc.sum (l.take n) = c at *
    clear hc hr
    have hcn : ¬ cap = n := by omega
    have i1 : (n : Int) ≤ (cap : Int) := by omega
    go_enter Try.func77, Try.ntmps77
    go_wp2_with fail
    refine HS.out.mono ?_
    rintro e w1 ⟨rfl, hb1⟩
    have HB := Lib.hid hb1
    clear hb1 HS
    go_wp2_with fail
    go_loop [21] (fun i => ∃ k : Nat, k ≤ 8 ∧ i = .int .i64 k ∧ (l.drop n).take k = (Crc.le8 c).take k) (fun i => 8 - (intOf i).toNat)
    case atStart => exact ⟨0, by omega, rfl, rfl⟩
    case round =>
      obtain ⟨k, hk, rfl, hp⟩ := hrel
      have HP := Lib.hid hp
      clear hp
      by_cases hlt : k < 8
      · have hd2 : decide ((k : Int) < 8) = true := by simp; omega
        have hcell : w1.cell? ⟨b, off + n + k, none⟩ = some (vb (l[n + k]'(by omega))) := (HB.out.cell hb0).trans (HC.out k hlt)
        have hby := leb_bits c k
        have HMk := Lib.hid (HM.out k c HL.out hlt HP.out)
        have HNk := Lib.hid (HNo.out k HL.out hlt)
        generalize l[n + k]'(by omega) = x at *
        generalize Crc.leb c k = y at *
        clear HC HT HY HM HMA HNo hl
        by_cases hxy : x = y
        · have hne := int_ne_false hxy
          have HXY := Lib.hid hxy
          clear hxy
          go_wp2_with fail
          go_round
          case rel => exact ⟨k + 1, by omega, by go_num, HMk.out HXY.out⟩
          case measure => simp [intOf]; omega
        · have hne := int_ne_true hxy
          go_wp2_with fail
          go_ret2
          exact ⟨HB.out, .inl ⟨HNk.out hxy, rfl⟩⟩
      · obtain rfl : k = 8 := by omega
        have HO := Lib.hid (HY.out (HMA.out c HL.out HP.out))
        have HT2 := Lib.hid (HT.out.below HB.out)
        have HLen : Hid ((l.take n).length = n) := by show _ = n; simp; omega
        clear HC HT HY HM HMA HNo hl HP
        go_wp2_with (at_builtin; refine wpList_app _ rfl _ _ 29 rfl w1.heap.size 5 (.int .u8 0) 1 Try.underlying29 info_u8 rfl _ 0 [] rfl (World.ownsRow_made _ _ 0 (Nat.le_refl _) (by simp [maxLen]) rfl) (some ⟨b, off, none⟩) n cap ((l.take n).map vb) rfl (by rw [List.length_map]; exact HLen.out) (Rd.alloc HT2.out _) (vb_one _) (by simp only [maxLen]; omega) (by omega) (by simp) ?_; intro v5 w5 hown5 happ5)
        have hb5 : Below w1.heap.size w1 w5 := ((Below.refl _ _).alloc (Nat.le_refl _) _).trans (happ5.below (World.ownsRow_made _ _ 0 (Nat.le_refl _) (by simp [maxLen]) rfl) (by simp))
        have HO5 : Hid (w5.ownsRow w.heap.size 5 1 v5 (l.take n).length ((l.take n).map vb)) := by
          show World.ownsRow _ _ _ _ _ _ _
          rw [HLen.out]
          exact own_base (by simpa using hown5) HB.out.size
        have HB5 := Lib.hid (HB.out.trans (hb5.mono HB.out.size))
        clear hown5 happ5 hb5
        go_wp2_with fail
        go_ret2
        exact ⟨HB5.out, .inr ⟨_, v5, HO.out, rfl, HO5.out⟩⟩
end Ck
end Go.Proofs.Ytmdpmpfjldgalaa

/- The walks of refmeshref04.Seal and refmeshref04.Open. -/
namespace Go.Proofs.Ytmdpmpfjldgalaa
open Go.RowKit
namespace Ck

/-- a word without its first k bytes -/
def sr (c : BitVec 64) (k : Nat) : BitVec 64 := c >>> (8 * k)
theorem sr_mod (c : BitVec 64) (k : Nat) : ((sr c k).toNat : Int) % 256 = ((Crc.leb c k).toNat : Int) := by
  rw [Crc.leb_toNat]; unfold sr; rw [BitVec.toNat_ushiftRight, Nat.shiftRight_eq_div_pow]; omega
theorem sr_div (c : BitVec 64) (k : Nat) : ((sr c k).toNat : Int) / 256 = ((sr c (k + 1)).toNat : Int) := by
  have : (sr c (k + 1)).toNat = (sr c k).toNat / 256 := by
    unfold sr; rw [BitVec.toNat_ushiftRight, BitVec.toNat_ushiftRight, Nat.shiftRight_eq_div_pow, Nat.shiftRight_eq_div_pow, Nat.div_div_eq_div_mul]
    congr 1
    rw [show 8 * (k + 1) = 8 * k + 8 by omega, Nat.pow_add]
  rw [this]; omega

set_option maxRecDepth 100000 in
theorem rseal_calls (A : Option Addr) (n cap : Nat) (l : List UInt8) (w : World) (hn : l.length = n) (hm : n ≤ 1099511627776) (hr : RB w A l) :
    Calls Try.prog 59 #[.slice A n cap] w fun e w' => ∃ v, e = .returned v ∧ w'.ownsRow w.heap.size 5 1 v (n + 8) ((Crc.sealed l).map vb) ∧ Below w.heap.size w w' := by
  have HS := fun w1 hb => Lib.hid (rsum_calls A n cap l w1 hn (by simp only [maxLen]; omega) (hr.below hb))
  have HR := Lib.hid hr
  have HN := Lib.hid hn
  clear hn hr
  go_enter Try.func59, Try.ntmps59
  go_wp2_with (at_builtin; refine wpList_app _ rfl _ _ 29 rfl w.heap.size 5 (.int .u8 0) 1 Try.underlying29 info_u8 rfl _ 0 [] rfl (World.ownsRow_made _ _ 0 (Nat.le_refl _) (by simp [maxLen]) rfl) A n cap (l.map vb) rfl (by rw [List.length_map]; exact HN.out) (Rd.alloc HR.out _) (vb_one _) (by simp only [maxLen]; omega) (by omega) (by simp) ?_; intro v2 w2 hown2 happ2)
  have hb2 : Below w.heap.size w w2 := ((Below.refl _ _).alloc (Nat.le_refl _) _).trans (happ2.below (World.ownsRow_made _ _ 0 (Nat.le_refl _) (by simp [maxLen]) rfl) (by simp))
  have hown2' : w2.ownsRow w.heap.size 5 1 v2 n (l.map vb) := by simpa using hown2
  clear hown2 happ2
  refine (HS w2 hb2).out.mono ?_
  rintro e w3 ⟨rfl, rfl⟩
  have HSE : Hid (Crc.sealed l = l ++ Crc.le8 (Crc.sum l)) := rfl
  generalize Crc.sum l = c at *
  clear HS
  have HB := Lib.hid hb2
  have HO := Lib.hid hown2'
  clear hb2 hown2'
  go_wp2_with fail
  go_loopw [5, 3, 4] (fun i v s wr => ∃ k : Nat, k ≤ 8 ∧ i = .int .i64 k ∧ s = vw (sr c k) ∧ wr.ownsRow w.heap.size 5 1 v (n + k) ((l ++ (Crc.le8 c).take k).map vb) ∧ Below w.heap.size w wr) (fun i _ _ _ => 8 - (intOf i).toNat)
  case atStart => exact ⟨0, by omega, rfl, rfl, by simpa using HO.out, HB.out⟩
  case round =>
    obtain ⟨k, hk, rfl, rfl, hown, hbel⟩ := hrel
    clear HB HO
    have HO := Lib.hid hown
    have HB := Lib.hid hbel
    clear hown hbel
    by_cases hlt : k < 8
    · have hd : decide ((k : Int) < 8) = true := by simp; omega
      have hby := sr_mod c k
      have hdv := sr_div c k
      have HT := Lib.hid (Crc.le8_take_succ c k hlt)
      generalize Crc.leb c k = y at *
      have hyb : y.toNat < 256 := y.toNat_lt
      go_wp2_with (at_builtin; refine wpList_app _ rfl _ _ 29 rfl w.heap.size 5 (.int .u8 0) 1 Try.underlying29 info_u8 rfl _ _ _ rfl (HO.out.alloc _) (some ⟨wr.heap.size, 0, none⟩) 1 1 [vb y] rfl rfl (Rd.one _ _ _) (vb_one [y]) (by simp only [maxLen]; omega) (by omega) (Nat.le_trans HB.out.size (by simp)) ?_; intro v5 w5 hown5 happ5)
      have hb5 : Below w.heap.size w w5 := (HB.out.alloc HB.out.size _).trans (happ5.below (HO.out.alloc _) (Nat.le_trans HB.out.size (by simp)))
      have hown6 : w5.ownsRow w.heap.size 5 1 v5 (n + (k + 1)) ((l ++ (Crc.le8 c).take (k + 1)).map vb) := by
        rw [HT.out]; simpa [Nat.add_assoc] using hown5
      clear hown5 happ5 HO HB
      have HO := Lib.hid hown6
      have HB := Lib.hid hb5
      clear hown6 hb5
      go_wp2_with fail
      go_roundw
      case rel => exact ⟨k + 1, by omega, by go_num, rfl, HO.out, HB.out⟩
      case measure => simp [intOf]; omega
    · obtain rfl : k = 8 := by omega
      go_wp2_with fail
      go_ret
      have := HO.out
      rw [List.take_of_length_le (by simp [Crc.le8_length])] at this
      exact ⟨_, rfl, by rw [HSE.out]; exact this, HB.out⟩

theorem sealed_get (l : List UInt8) (n k : Nat) (hl : l.length = n) (hk : k < 8) : (Crc.sealed l)[n + k]? = some (Crc.leb (Crc.sum l) k) := by
  unfold Crc.sealed
  rw [List.getElem?_append_right (by omega), show n + k - l.length = k by omega]
  simp [Crc.le8, hk]

set_option maxRecDepth 100000 in
theorem ropen_calls (A : Option Addr) (m cap : Nat) (l : List UInt8) (w : World) (hl : l.length = m) (hmc : m ≤ cap) (hm : m ≤ 1099511627776) (hr : RB w A l) :
    Calls Try.prog 86 #[.slice A m cap] w (OpenPost w l) := by
  by_cases h8 : m < 8
  · have hd : decide ((m : Int) < 8) = true := by simp; omega
    have HN := Lib.hid (Crc.opened_short l (by omega))
    clear hl hr
    go_enter Try.func86, Try.ntmps86
    go_wp2_with fail
    go_ret2
    exact ⟨Below.refl _ _, .inl ⟨HN.out, rfl⟩⟩
  · obtain ⟨n, rfl⟩ : ∃ n, m = n + 8 := ⟨m - 8, by omega⟩
    have hd : decide ((n : Int) + 8 < 8) = false := by simp; omega
    have hsub : ((n + 8 : Nat) : Int) - 8 = (n : Int) := by omega
    have HS := Lib.hid (rseal_calls A n cap (l.take n) w (by simp; omega) (by omega) (hr.take n))
    have HG := Lib.hid (fun k => sealed_get (l.take n) n k (by simp; omega))
    have HL := Lib.hid hl
    obtain ⟨b, off, rfl, hb0, hc⟩ := hr.cells (by omega)
    have HC : Hid (∀ k (hk : k < 8), w.cell? ⟨b, off + (n + k), none⟩ = some (vb (l[n + k]'(by omega)))) := fun k hk => hc (n + k) (by omega)
    have HT := Lib.hid (hr.take n)
    have HY := Lib.hid (Crc.opened_yes l n hl)
    have HNo := Lib.hid (Crc.opened_no l n)
    have HM := Lib.hid (Crc.match_succ l n)
    have HMA := Lib.hid (Crc.match_all l n)
    generalize Crc.sealed (l.take n) = sl at *
    generalize Crc.sum (l.take n) = c at *
    clear hc hr
    have i1 : (n : Int) ≤ (cap : Int) := by omega
    go_enter Try.func86, Try.ntmps86
    go_wp2_with fail
    refine HS.out.mono ?_
    rintro e w1 ⟨v, rfl, hown, hb1⟩
    obtain ⟨X, cx, rfl, _, _, hlx, hrx⟩ := own_form hown
    obtain ⟨bx, ox, rfl, _, hcx⟩ := Rd.cells hrx (by omega)
    have HCX : Hid (∀ k, k < 8 → w1.cell? ⟨bx, ox + (n + k), none⟩ = some (vb (Crc.leb c k))) := fun k hk => by
      refine hcx (n + k) _ ?_
      rw [List.getElem?_map, HG.out k hk]; rfl
    have HB := Lib.hid hb1
    clear hb1 HS HG hcx hrx hlx hown
    go_wp2_with fail
    go_loopw [6] (fun i wr => ∃ k q : Nat, k ≤ 8 ∧ i = .int .i64 (n + k : Nat) ∧ wr = w1.drewN q ∧ (l.drop n).take k = (Crc.le8 c).take k) (fun i _ => n + 8 - (intOf i).toNat)
    case atStart => exact ⟨0, 0, by omega, rfl, rfl, rfl⟩
    case round =>
      obtain ⟨k, q, hk, rfl, rfl, hp⟩ := hrel
      have HP := Lib.hid hp
      clear hp
      by_cases hlt : k < 8
      · have hd2 : decide (n + k < n + 8) = true := by simp; omega
        have hd3 : decide ((k : Int) < 8) = true := by simp; omega
        have hcell : w1.cell? ⟨b, off + (n + k), none⟩ = some (vb (l[n + k]'(by omega))) := (HB.out.cell hb0).trans (HC.out k hlt)
        have hcx := HCX.out k hlt
        have HMk := Lib.hid (HM.out k c HL.out hlt HP.out)
        have HNk := Lib.hid (HNo.out k HL.out hlt)
        generalize l[n + k]'(by omega) = x at *
        generalize Crc.leb c k = y at *
        clear HC HT HY HM HMA HNo hl HCX
        have j0 : (0 : Int) ≤ ((n + k : Nat) : Int) := by omega
        have j1 : ((n + k : Nat) : Int) < ((n + 8 : Nat) : Int) := by omega
        by_cases hxy : x = y
        · have hne := int_ne_false hxy.symm
          have HXY := Lib.hid hxy
          clear hxy
          go_wp2_with fail
          go_quiet (fail)
          go_wp2_with fail
          go_roundw
          case rel => exact ⟨k + 1, q + nq, by omega, by go_num, rfl, HMk.out HXY.out⟩
          case measure => simp [intOf]; omega
        · have hne := int_ne_true (Ne.symm hxy)
          go_wp2_with fail
          go_quiet (fail)
          go_wp2_with fail
          go_ret2
          exact ⟨⟨HB.out.os, HB.out.tape, HB.out.output, HB.out.size, HB.out.block⟩, .inl ⟨HNk.out hxy, rfl⟩⟩
      · obtain rfl : k = 8 := by omega
        have HO := Lib.hid (HY.out (HMA.out c HL.out HP.out))
        have HT2 := Lib.hid (HT.out.below HB.out)
        have HLen : Hid ((l.take n).length = n) := by show _ = n; simp; omega
        have HBq : Hid (Below w.heap.size w (w1.drewN q)) := ⟨HB.out.os, HB.out.tape, HB.out.output, HB.out.size, HB.out.block⟩
        have HT3 : Hid (RB (w1.drewN q) (some ⟨b, off, none⟩) (l.take n)) := HT2.out
        clear HC HT HY HM HMA HNo hl HP HCX HT2 HB
        generalize w1.drewN q = w2 at *
        go_wp2_with (at_builtin; refine wpList_app _ rfl _ _ 29 rfl w2.heap.size 5 (.int .u8 0) 1 Try.underlying29 info_u8 rfl _ 0 [] rfl (World.ownsRow_made _ _ 0 (Nat.le_refl _) (by simp [maxLen]) rfl) (some ⟨b, off, none⟩) n cap ((l.take n).map vb) rfl (by rw [List.length_map]; exact HLen.out) (Rd.alloc HT3.out _) (vb_one _) (by simp only [maxLen]; omega) (by omega) (by simp) ?_; intro v5 w5 hown5 happ5)
        have hb5 : Below w2.heap.size w2 w5 := ((Below.refl _ _).alloc (Nat.le_refl _) _).trans (happ5.below (World.ownsRow_made _ _ 0 (Nat.le_refl _) (by simp [maxLen]) rfl) (by simp))
        have HO5 : Hid (w5.ownsRow w.heap.size 5 1 v5 (l.take n).length ((l.take n).map vb)) := by
          show World.ownsRow _ _ _ _ _ _ _
          rw [HLen.out]
          exact own_base (by simpa using hown5) HBq.out.size
        have HB5 := Lib.hid (HBq.out.trans (hb5.mono HBq.out.size))
        clear hown5 happ5 hb5
        go_wp2_with fail
        go_ret2
        exact ⟨HB5.out, .inr ⟨_, v5, HO.out, rfl, HO5.out⟩⟩
end Ck
end Go.Proofs.Ytmdpmpfjldgalaa

/- The walks of journal.half and journal.block, and of the reference's half, first and Block. -/
namespace Go.Proofs.Ytmdpmpfjldgalaa
open Go.RowKit
namespace Jn
open Dk Wi Wr

def slLen : Value → Nat
  | .slice _ n _ => n
  | _ => 0

theorem half_calls (g : Nat) (M E : List Nat) (D : St) (t : Nat) (w : World) (h : IsD w g M E D) (ht : t ≤ 4398046511104) :
    Calls Try.prog 50 #[.pointer (some ⟨g, 0, none⟩), .int .i64 (t : Int)] w fun e w' => e = .returned (.tuple #[.int .i64 (fst D t : Int), .int .i64 ((fst D t + half D : Nat) : Int)]) ∧ w = w' := by
  have hn := h.ok.n2
  have HS := Lib.hid (sectors_calls g M E D w h)
  obtain ⟨q, HQ⟩ : ∃ x, Hid (half D = x) := ⟨_, rfl⟩
  have hq : q ≤ 32768 := by have := HQ.out; unfold half at this; omega
  have e1 : (D.n : Int) / 2 = (q : Int) := by have := HQ.out; unfold half at this; omega
  have e2 : (t : Int) % 2 = ((t % 2 : Nat) : Int) := by omega
  obtain ⟨r, HR⟩ : ∃ x, Hid (t % 2 = x) := ⟨_, rfl⟩
  have hr : r < 2 := by have := HR.out; omega
  rw [HR.out] at e2
  have e3 : IntKind.i64.wrap ((r : Int) * (q : Int)) = ((r * q : Nat) : Int) := by
    have : r * q ≤ 1 * q := Nat.mul_le_mul_right q (by omega)
    rw [IntKind.wrap_i64, ← Int.natCast_mul]; omega
  have e4 : IntKind.i64.wrap (((r : Int) + 1) * (q : Int)) = ((r * q + q : Nat) : Int) := by
    have : r * q ≤ 1 * q := Nat.mul_le_mul_right q (by omega)
    rw [IntKind.wrap_i64, Int.add_mul, ← Int.natCast_mul]; omega
  have HF : Hid (fst D t = r * q) := by show _ = _; unfold fst; rw [HQ.out, HR.out]
  rw [HF.out, HQ.out]
  clear h
  go_enter Try.func50, Try.ntmps50
  go_wp2_with (go_at_call 38; refine HS.out.mono ?_; rintro e w2 ⟨rfl, rfl⟩)
  go_ret2
  exact ⟨rfl, rfl⟩

/-- what the loop of block has -/
def PadD (w : World) (B L : List UInt8) (v : Value) (wr : World) : Prop :=
  ∃ X c k, v = .slice X k c ∧ k = L.length ∧ OB wr w.heap.size (.slice X k c) L ∧ Below w.heap.size w wr ∧ pad L = B ∧ L.length ≤ 600000

set_option maxRecDepth 100000 in
set_option maxHeartbeats 1000000 in
theorem block_calls (t i : Nat) (A : Option Addr) (n c : Nat) (d : List UInt8) (w : World) (hn : d.length = n) (hr : RB w A d) (hm : n ≤ 500000) (ht : t ≤ 4398046511104) (hi : i ≤ 4398046511104) :
    Calls Try.prog 51 #[.int .i64 (t : Int), .int .i64 (i : Int), .slice A n c] w (NewB w (blockL t i d)) := by
  have HN := Lib.hid hn
  have HR := Lib.hid hr
  have h1 : IntKind.u64.wrap (t : Int) = t := by rw [IntKind.wrap_u64]; omega
  have h2 : IntKind.u64.wrap (i : Int) = i := by rw [IntKind.wrap_u64]; omega
  have h3 : IntKind.u64.wrap (n : Int) = n := by rw [IntKind.wrap_u64]; omega
  have l1 := enc_len9 t
  have l2 := enc_len9 i
  have l3 := enc_len9 n
  have HA := Lib.hid (appendNat_calls w.heap.size (.slice none 0 0) [] t (by omega) w (Ext.nil w) (by simp) (Nat.le_refl _))
  obtain ⟨BL, HBL⟩ : ∃ x, Hid (blockL t i d = x) := ⟨_, rfl⟩
  have HBD : Hid (pad (Crc.sealed (enc t ++ enc i ++ enc n ++ d)) = BL) := by show _ = _; rw [← HBL.out, ← HN.out]; rfl
  rw [HBL.out]
  clear hn hr
  go_enter Try.func51, Try.ntmps51
  go_wp2_with fail
  refine HA.out.mono ?_
  rintro e w1 ⟨v1, rfl, hx1⟩
  rw [List.nil_append] at hx1
  have B1 := Lib.hid (Ext.below (Ext.nil w) (Nat.le_refl _) hx1)
  have HB := Lib.hid (appendNat_calls w.heap.size v1 _ i (by omega) w1 hx1.again (by omega) B1.out.size)
  have HX1 := Lib.hid hx1
  clear hx1
  go_wp2_with fail
  refine HB.out.mono ?_
  rintro e w2 ⟨v2, rfl, hx2⟩
  have HX2 := Lib.hid (HX1.out.trans hx2)
  have B2 := Lib.hid (Ext.below (Ext.nil w) (Nat.le_refl _) HX2.out)
  have HC := Lib.hid (appendNat_calls w.heap.size v2 _ n (by omega) w2 hx2.again (by rw [List.length_append]; omega) B2.out.size)
  clear hx2 HX1 B1 HA HB
  go_wp2_with fail
  refine HC.out.mono ?_
  rintro e w3 ⟨v3, rfl, hx3⟩
  have hx3 := HX2.out.trans hx3
  have B3 := Lib.hid (Ext.below (Ext.nil w) (Nat.le_refl _) hx3)
  have hL : (enc t ++ enc i ++ enc n).length ≤ 27 := by simp only [List.length_append]; omega
  generalize enc t ++ enc i ++ enc n = L3 at *
  obtain ⟨X, c3, rfl, ho3, _⟩ := hx3
  have HO3 : Hid (OB w3 w.heap.size (.slice X L3.length c3) L3) := ho3
  have hs3 := B3.out.size
  clear ho3 HX2 B2 HC
  go_wp2_with (at_builtin; refine appB _ rfl (.tmp 20) (.tmp 21) rfl w.heap.size _ L3 d rfl HO3.out A n c rfl HN.out (RB.below HR.out B3.out) (by omega) hs3 ?_; intro X4 c4 k4 w4 HK4 hk4 hk4' HO4 HA4 HB4 hs4)
  have B4 : Hid (Below w.heap.size w w4) := B3.out.trans HB4.out
  refine (Ck.seal_calls X4 k4 c4 (L3 ++ d) w4 HK4.out.symm (by omega) HO4.out.rb.1).mono ?_
  rintro e w5 ⟨v5, rfl, ho5, hb5⟩
  obtain ⟨X5, c5, rfl, _, _, hsl, _⟩ := own_form ho5
  have B5 := Lib.hid (B4.out.trans (hb5.mono B4.out.size))
  have hk5 : (Crc.sealed (L3 ++ d)).length = k4 + 8 := by rw [List.length_map] at hsl; exact hsl
  have HP5 : Hid (PadD w BL (Crc.sealed (L3 ++ d)) (.slice X5 (k4 + 8) c5) w5) := by
    refine ⟨X5, c5, k4 + 8, rfl, hk5.symm, ?_, B5.out, HBD.out, by omega⟩
    unfold OB
    rw [hk5]
    exact own_base ho5 B4.out.size
  clear ho5 hb5 hsl hk5 HK4 HO4 HA4 HB4 HO3 B3 B4
  generalize Crc.sealed (L3 ++ d) = L5 at *
  go_wp2_with fail
  go_loopw [7] (fun v wr => ∃ L, PadD w BL L v wr) (fun v _ => (64 - slLen v % 64) % 64)
  case atStart => exact ⟨L5, HP5.out⟩
  case round =>
    obtain ⟨L, X, c, k, rfl, hk, ho, hb, hp, hl⟩ := hrel
    have HK := Lib.hid hk
    have HO := Lib.hid ho
    have HB := Lib.hid hb
    have HP := Lib.hid hp
    have hs := hb.size
    by_cases h0 : k % 64 = 0
    · have d0 : (((k : Int) % 64) != 0) = false := by rw [bne_eq_false_iff_eq]; omega
      have HE : Hid (L = BL) := by show _ = _; rw [← hp, pad_self L (by omega)]
      clear hk ho hb hp HBD HBL
      go_wp2_with fail
      go_ret
      exact ⟨X, c, k, rfl, by rw [← HE.out]; exact HK.out, by rw [← HE.out]; exact HO.out, HB.out⟩
    · have d0 : (((k : Int) % 64) != 0) = true := by rw [bne_iff_ne]; omega
      have HE : Hid (pad (L ++ [0]) = BL) := by show _ = _; rw [← hp, pad_step L (by omega)]
      have hl9 : L.length + 1 ≤ 600000 := by omega
      have h64 : k % 64 ≠ 0 := h0
      clear ho hb hp HBD HBL h0
      go_wp2_with (at_builtin; refine app1 _ rfl (.tmp 28) (.tmp 29) rfl w.heap.size _ L 0 _ rfl HO.out rfl rfl (by omega) hs ?_; intro X6 c6 k6 w6 HK6 hk6 hk6' HO6 HA6 HB6 hs6)
      go_roundw
      case rel => exact ⟨L ++ [0], X6, c6, k6, rfl, HK6.out, HO6.out, HB.out.trans HB6.out, HE.out, by simp; omega⟩
      case measure => show (64 - k6 % 64) % 64 < (64 - k % 64) % 64; omega
end Jn
end Go.Proofs.Ytmdpmpfjldgalaa

/- The walks of refmeshref02's number and fail. -/
namespace Go.Proofs.Ytmdpmpfjldgalaa
open Go.RowKit
namespace Wi
open Wr

def numR (l : List UInt8) : Nat × Int := match parse l with
  | none => (0, -1)
  | some (n, k) => (n, k)
def NumPost (l : List UInt8) (w : World) (e : Ending) (w' : World) : Prop := e = .returned (.tuple #[.int .u64 ((numR l).1 : Int), .int .i64 (numR l).2]) ∧ Chg [] w w'

set_option maxRecDepth 100000 in
set_option maxHeartbeats 2000000 in
theorem number_bad (A : Option Addr) (n c : Nat) (l : List UInt8) (w : World) (hn : l.length = n) (hr : RB w A l) (hlc : n ≤ c) (_hcm : c ≤ maxLen) (hp : parse l = none) :
    Calls Try.prog 89 #[.slice A n c] w (NumPost l w) := by
  have HF : Hid (NumPost l w (.returned (.tuple #[.int .u64 0, .int .i64 (-1)])) w) := by
    refine ⟨?_, Chg.refl _ _⟩
    unfold numR; rw [hp]; rfl
  unfold maxLen at _hcm
  cases l with
  | nil =>
    obtain rfl : n = 0 := hn.symm
    clear hr hp hn
    have e0 : ((0 : Int) == 0) = true := rfl
    go_enter Try.func89, Try.ntmps89
    go_wp2_with fail
    go_ret2
    exact HF.out
  | cons k t =>
    rw [parse_cons] at hp
    obtain ⟨b, off, rfl, _, hcl⟩ := RB.cells hr (by simp)
    have b0 : w.cell? ⟨b, off, none⟩ = some (vb k) := by have := hcl 0 (by simp); simpa using this
    have hk255 : k.toNat ≤ 255 := by have := k.toNat_lt; omega
    have b1 : t.head? = some 0 → w.cell? ⟨b, off + 1, none⟩ = some (.int .u8 0) := by
      intro h
      cases t with
      | nil => simp at h
      | cons y t =>
        have hy : y = 0 := by simpa using h
        subst hy
        exact hcl 1 (by simp)
    have hpos : t.head? = some 0 → 1 ≤ t.length := by intro h; cases t <;> simp at h ⊢
    obtain ⟨m, HM⟩ : ∃ m, Hid (m = t.length) := ⟨_, rfl⟩
    obtain rfl : n = m + 1 := by rw [HM.out]; exact hn.symm
    rw [← HM.out] at hp hpos
    clear hr hcl hn
    have e0 : (((m + 1 : Nat) : Int) == 0) = false := by simp; omega
    have e0' : ((m : Int) + 1 == 0) = false := by simp; omega
    have i1 : (0 : Int) < (m : Int) + 1 := by omega
    by_cases h8 : 8 < k.toNat
    · have d8 : decide ((8 : Int) < (k.toNat : Int)) = true := by simp; omega
      clear hp b1
      go_enter Try.func89, Try.ntmps89
      go_wp2_with fail
      go_ret2
      exact HF.out
    · have d8 : decide ((8 : Int) < (k.toNat : Int)) = false := by simp; omega
      rw [if_neg h8] at hp
      by_cases hl : m < k.toNat
      · have dl : decide (((m : Int) + 1) < 1 + (k.toNat : Int)) = true := by simp; omega
        clear hp b1
        go_enter Try.func89, Try.ntmps89
        go_wp2_with fail
        go_ret2
        exact HF.out
      · have dl : decide (((m : Int) + 1) < 1 + (k.toNat : Int)) = false := by simp; omega
        rw [if_neg hl] at hp
        by_cases hz : 0 < k.toNat ∧ t.head? = some 0
        · obtain ⟨hz1, hz2⟩ := hz
          have d0 : decide ((0 : Int) < (k.toNat : Int)) = true := by simp; omega
          have b1' := b1 hz2
          have hpos' := hpos hz2
          have i2 : (1 : Int) < (m : Int) + 1 := by omega
          have z0 : ((0 : Int) == 0) = true := rfl
          clear hp b1 hpos hz2
          go_enter Try.func89, Try.ntmps89
          go_wp2_with fail
          go_ret2
          exact HF.out
        · rw [if_neg hz] at hp; cases hp
end Wi
end Go.Proofs.Ytmdpmpfjldgalaa

/- The walks of refmeshref02's number, fail and Uint. -/
namespace Go.Proofs.Ytmdpmpfjldgalaa
open Go.RowKit
namespace Wi
open Wr

set_option maxRecDepth 100000 in
set_option maxHeartbeats 4000000 in
theorem number_good (A : Option Addr) (N c : Nat) (l : List UInt8) (w : World) (hn : l.length = N) (hr : RB w A l) (hlc : N ≤ c) (hcm : c ≤ maxLen) (v kk : Nat) (hp : parse l = some (v, kk)) :
    Calls Try.prog 89 #[.slice A N c] w (NumPost l w) := by
  have HF : Hid (∀ k, NumPost l w (.returned (.tuple #[.int .u64 (v : Int), .int .i64 (kk : Int)])) (w.drewN k)) := by
    refine fun k => ⟨?_, (Chg.refl _ _).drewN k⟩
    unfold numR; rw [hp]
  have hcm' := hcm
  unfold maxLen at hcm'
  cases l with
  | nil => cases hp
  | cons k t =>
    rw [parse_cons] at hp
    by_cases h8 : 8 < k.toNat
    · rw [if_pos h8] at hp; cases hp
    rw [if_neg h8] at hp
    by_cases hl : t.length < k.toNat
    · rw [if_pos hl] at hp; cases hp
    rw [if_neg hl] at hp
    by_cases hz : 0 < k.toNat ∧ t.head? = some 0
    · rw [if_pos hz] at hp; cases hp
    rw [if_neg hz] at hp
    simp only [Option.some.injEq, Prod.mk.injEq] at hp
    obtain ⟨hv, hkk⟩ := hp
    have HV := Lib.hid hv
    have HKK := Lib.hid hkk
    clear hv hkk
    obtain ⟨b, off, rfl, hbw, hcl⟩ := RB.cells hr (by simp)
    have b0 : w.cell? ⟨b, off, none⟩ = some (vb k) := by have := hcl 0 (by simp); simpa using this
    have HT : Hid (∀ j (hj : j < t.length), w.cell? ⟨b, off + (1 + j), none⟩ = some (vb t[j])) := fun j hj => by
      have := hcl (j + 1) (by simp; omega)
      rw [Nat.add_comm 1 j]; exact this
    have hy : 0 < k.toNat → ∃ y : UInt8, y ≠ 0 ∧ w.cell? ⟨b, off + 1, none⟩ = some (vb y) := by
      intro h0
      cases t with
      | nil => simp at hl; omega
      | cons y t =>
        refine ⟨y, ?_, hcl 1 (by simp)⟩
        rintro rfl
        exact hz ⟨h0, rfl⟩
    have hk255 : k.toNat ≤ 8 := by omega
    obtain ⟨q, HQ⟩ : ∃ q, Hid (q = k.toNat) := ⟨_, rfl⟩
    have hvb : vb k = .int .u8 (q : Int) := by rw [HQ.out]
    rw [hvb] at b0
    rw [← HQ.out] at h8 hl hy hk255 HV HKK
    obtain ⟨n, HLn⟩ : ∃ n, Hid (n = t.length) := ⟨_, rfl⟩
    rw [← HLn.out] at hl
    obtain rfl : N = n + 1 := by rw [HLn.out]; exact hn.symm
    clear hr hcl hvb hz hn
    have e0 : (((n + 1 : Nat) : Int) == 0) = false := by simp; omega
    have e0' : ((n : Int) + 1 == 0) = false := by simp; omega
    have i1 : (0 : Int) < (n : Int) + 1 := by omega
    have d8 : decide ((8 : Int) < (q : Int)) = false := by simp; omega
    have dl : decide (((n : Int) + 1) < 1 + (q : Int)) = false := by simp; omega
    have hqn : q ≤ n := by omega
    have HKI : Hid ((1 : Int) + (q : Int) = (kk : Int)) := by show _ = _; rw [← HKK.out]; omega
    by_cases hq0 : 0 < q
    · obtain ⟨y, hy1, hy2⟩ := hy hq0
      have dy : ((y.toNat : Int) == 0) = false := by rw [beq_eq_false_iff_ne]; intro hc; exact hy1 (UInt8.toNat_inj.1 (by simp; omega))
      have i2 : (1 : Int) < (n : Int) + 1 := by omega
      have d0 : decide ((0 : Int) < (q : Int)) = true := by simp; omega
      clear hy hy1
      go_enter Try.func89, Try.ntmps89
      go_wp2_with fail
      clear dy d0 i2
      go_loop [4, 5] (fun r i => ∃ j : Nat, j ≤ q ∧ i = .int .i64 j ∧ r = .int .u64 ((val (t.take j) : Nat) : Int)) (fun _ i => q - (intOf i).toNat)
      case atStart => exact ⟨0, Nat.zero_le _, rfl, rfl⟩
      case round =>
        obtain ⟨j, hj, rfl, rfl⟩ := hrel
        by_cases hlt : j < q
        · have hjt : j < t.length := by have := HLn.out; omega
          have tj := HT.out j hjt
          have HVT := Lib.hid (val_take t j hjt)
          have hva : val (t.take j) < 72057594037927936 := by
            have h1 := val_lt (t.take j)
            have h2 : (t.take j).length ≤ 7 := by simp; omega
            have h3 : 256 ^ (t.take j).length ≤ 256 ^ 7 := Nat.pow_le_pow_right (by omega) h2
            omega
          have j0 : (0 : Int) ≤ (j : Int) := by omega
          have j1 : (j : Int) < (q : Int) := by omega
          have s1 : IntKind.i64.wrap (1 + (j : Int)) = 1 + (j : Int) := IntWalk.i64_in _ (by omega)
          have s2 : (0 : Int) ≤ 1 + (j : Int) := by omega
          have s3 : 1 + (j : Int) < (n : Int) + 1 := by omega
          have s4 : (1 + (j : Int)).toNat = 1 + j := by omega
          generalize val (t.take j) = a at *
          generalize t[j] = x at *
          have hx255 : x.toNat ≤ 255 := by have := x.toNat_lt; omega
          go_wp2_with fail
          go_round
          case rel => exact ⟨j + 1, by omega, by go_num, by rw [HVT.out]; go_num⟩
          case measure => simp [intOf]; omega
        · have HJ : Hid (j = q) := by show _ = _; omega
          have HVV : Hid (val (t.take j) = v) := by show _ = _; rw [HJ.out]; exact HV.out
          rw [HVV.out]
          have d1 : decide ((j : Int) < (q : Int)) = false := by simp; omega
          go_wp2_with fail
          go_quiet (fail)
          go_wp2_with fail
          go_ret2
          rw [HKI.out]
          exact HF.out _
    · obtain rfl : q = 0 := by omega
      have HV0 : Hid (v = 0) := HV.out.symm
      have d0 : decide ((0 : Int) < 0) = false := rfl
      clear hy
      go_enter Try.func89, Try.ntmps89
      go_wp2_with fail
      go_loop [4, 5] (fun r i => r = .int .u64 0 ∧ i = .int .i64 0) (fun _ i => 0)
      case atStart => exact ⟨rfl, rfl⟩
      case round =>
        obtain ⟨rfl, rfl⟩ := hrel
        go_wp2_with fail
        go_quiet (fail)
        go_wp2_with fail
        go_ret2
        have h := HF.out
        rw [HV0.out, ← HKI.out] at h
        exact h _

theorem number_calls (A : Option Addr) (N c : Nat) (l : List UInt8) (w : World) (hn : l.length = N) (hr : RB w A l) (hlc : N ≤ c) (hcm : c ≤ maxLen) :
    Calls Try.prog 89 #[.slice A N c] w (NumPost l w) := by
  cases hp : parse l with
  | none => exact number_bad A N c l w hn hr hlc hcm hp
  | some p => obtain ⟨v, k⟩ := p; exact number_good A N c l w hn hr hlc hcm v k hp
end Wi
end Go.Proofs.Ytmdpmpfjldgalaa

/- The walks of refmeshref02's fail, Uint, Int and Done of the reader. -/
namespace Go.Proofs.Ytmdpmpfjldgalaa
open Go.RowKit
namespace Wi
open Wr
variable {D : Nat}

/-- block g holds a reader of the reference; what is left lies below it -/
def IsRr (D : Nat) (w : World) (g : Nat) (r : Rs) : Prop :=
  ∃ A c, w.heap[g]? = some (.cells #[.slice A r.l.length c, .int .i64 r.e] 130 (0, 0)) ∧ r.l.length ≤ c ∧ c ≤ maxLen ∧ RB w A r.l ∧ (0 < r.l.length → ∀ b off, A = some ⟨b, off, none⟩ → b < D) ∧ D ≤ g
theorem IsRr.chg {w w' : World} {g : Nat} {r : Rs} {S : List Nat} (h : IsRr D w g r) (hc : Chg S w w') (hS : ∀ x ∈ S, D ≤ x ∧ x ≠ g) : IsRr D w' g r := by
  obtain ⟨A, c, h1, h2, h3, h4, h5, h6⟩ := h
  exact ⟨A, c, hc.blk h1 (fun hm => (hS g hm).2 rfl), h2, h3, RB.chg h4 hc fun hp b off e hm => by have h8 := (hS b hm).1; have h7 := h5 hp b off e; omega, h5, h6⟩
theorem IsRr.below {w w' : World} {g : Nat} {r : Rs} (h : IsRr D w g r) (hb : Below w.heap.size w w') : IsRr D w' g r :=
  h.chg (Chg.of_below hb []) (by simp)
theorem IsRr.dle {w : World} {g : Nat} {r : Rs} (h : IsRr D w g r) : D ≤ g := by
  obtain ⟨A, c, _, _, _, _, _, h6⟩ := h; exact h6
theorem IsRr.lt {w : World} {g : Nat} {r : Rs} (h : IsRr D w g r) : g < w.heap.size := by
  obtain ⟨A, c, h1, _⟩ := h; exact (Array.getElem?_eq_some_iff.1 h1).1
/-- cut down -/
theorem IsRr.cut {w w' : World} {g : Nat} {A : Option Addr} {c k : Nat} {l : List UInt8} (hr : RB w A l) (hlc : l.length ≤ c) (hcm : c ≤ maxLen) (hne : 0 < l.length → ∀ b off, A = some ⟨b, off, none⟩ → b < D) (hD : D ≤ g)
    (hc : Chg [g] w w') (hk : k ≤ l.length) (hg : w'.heap[g]? = some (.cells #[.slice (cutA A k c) (l.length - k) (c - k), .int .i64 0] 130 (0, 0))) : IsRr D w' g ⟨l.drop k, 0⟩ := by
  have hdl : (l.drop k).length = l.length - k := by simp
  have hbl : 0 < (l.drop k).length → ∀ b off, cutA A k c = some ⟨b, off, none⟩ → b < D := by
    intro hpos b off e
    have hl0 : 0 < l.length := by rw [hdl] at hpos; omega
    obtain ⟨b0, o0, rfl, _⟩ := RB.cells hr hl0
    have := cutA_some e
    subst this
    exact hne hl0 b o0 rfl
  exact ⟨cutA A k c, c - k, by simp only [hdl]; exact hg, by simp only [hdl]; omega, by omega, RB.chg (RB.cut hr k c hlc) hc (fun hp b off e => by have := hbl hp b off e; simp; omega), hbl, hD⟩

def FailP (D g : Nat) (k : Int) (w : World) (e : Ending) (w' : World) : Prop := e = .returned (.tuple #[]) ∧ IsRr D w' g (failR k) ∧ Chg [g] w w'
theorem rfail_calls (g : Nat) (s : Value) (er : Int) (k : Int) (w : World) (hD : D ≤ g) (h : w.heap[g]? = some (.cells #[s, .int .i64 er] 130 (0, 0))) :
    Calls Try.prog 90 #[.pointer (some ⟨g, 0, none⟩), .int .i64 k] w (FailP D g k w) := by
  have f0 : w.frozen? ⟨g, 0, none⟩ = false := frozen_of_row _ _ _ _ _ h
  have f1 : w.frozen? ⟨g, 1, none⟩ = false := frozen_of_row _ _ _ _ _ h
  have c0 : w.cell? ⟨g, 0, none⟩ = some s := (cell_of_row _ _ 0 _ _ _ h).trans rfl
  have c1 : w.cell? ⟨g, 1, none⟩ = some (.int .i64 er) := (cell_of_row _ _ 1 _ _ _ h).trans rfl
  have HF : Hid (FailP D g k w (.returned (.tuple #[])) ((w.setCell ⟨g, 0, none⟩ (.slice none 0 0)).setCell ⟨g, 1, none⟩ (.int .i64 k))) := by
    refine ⟨rfl, ⟨none, 0, heap_setCell_same _ _ _ _ _ _ (heap_setCell_same _ _ _ _ _ _ h), Nat.le_refl _, by simp [maxLen], RB.nil, (fun h => by cases h), hD⟩, ?_⟩
    exact ((Chg.refl [g] w).setCell (p := ⟨g, 0, none⟩) (.inl (by simp)) _).setCell (p := ⟨g, 1, none⟩) (.inl (by simp)) _
  clear h
  go_enter Try.func90, Try.ntmps90
  go_wp2_with fail
  go_end0
  exact HF.out

def RuP (D : Nat) (w : World) (g : Nat) (r : Rs) (e : Ending) (w' : World) : Prop :=
  e = .returned (.int .u64 ((uintR r).1 : Int)) ∧ IsRr D w' g (uintR r).2 ∧ Chg [g] w w'

theorem elem_u8s : Try.prog.elem 29 = 5 := by kernel_rfl

set_option maxRecDepth 100000 in
set_option maxHeartbeats 1000000 in
theorem rdUint_calls (g : Nat) (r : Rs) (w : World) (h : IsRr D w g r) : Calls Try.prog 85 #[.pointer (some ⟨g, 0, none⟩)] w (RuP D w g r) := by
  have HI := Lib.hid h
  obtain ⟨l, er⟩ := r
  obtain ⟨A, c, hg, hlc, hcm, hr, hne, hD⟩ := h
  simp only at hg hlc hr hne
  have c0 : w.cell? ⟨g, 0, none⟩ = some (.slice A l.length c) := (cell_of_row _ _ 0 _ _ _ hg).trans rfl
  have c1 : w.cell? ⟨g, 1, none⟩ = some (.int .i64 er) := (cell_of_row _ _ 1 _ _ _ hg).trans rfl
  have HG := Lib.hid hg
  have HR := Lib.hid hr
  have HNE := Lib.hid hne
  have hcm' := hcm
  unfold maxLen at hcm'
  clear hg hr hne
  by_cases he : er = 0
  · subst he
    have HN := Lib.hid (number_calls A l.length c l w rfl HR.out hlc hcm)
    obtain ⟨n, HLn⟩ : ∃ n, Hid (n = l.length) := ⟨_, rfl⟩
    rw [← HLn.out] at c0 HN hlc
    cases hp : parse l with
    | none =>
      have HP := Lib.hid hp
      have HNR : Hid (numR l = (0, -1)) := by show _ = _; unfold numR; rw [hp]
      have HF : Hid (∀ w', IsRr D w' g (failR 11) → Chg [g] w w' → RuP D w g ⟨l, 0⟩ (.returned (.int .u64 0)) w') := by
        intro w' h1 h2
        unfold RuP; rw [uintR_none ⟨l, 0⟩ rfl HP.out]; exact ⟨rfl, h1, h2⟩
      clear hp
      go_enter Try.func85, Try.ntmps85
      go_wp2_with fail
      refine HN.out.mono ?_
      rintro e w1 ⟨rfl, hc1⟩
      rw [HNR.out]
      have HFA := Lib.hid (rfail_calls g _ _ 11 w1 hD (hc1.blk HG.out (by simp)))
      have HC1 : Hid (Chg [g] w w1) := hc1.mono (by simp)
      clear hc1 c0 c1
      go_wp2_with fail
      refine HFA.out.mono ?_
      rintro e w2 ⟨rfl, hr2, hc2⟩
      have HZ := Lib.hid (HF.out w2 hr2 (HC1.out.trans' hc2))
      clear hr2 hc2
      go_wp2_with fail
      go_ret
      exact HZ.out
    | some p =>
      obtain ⟨v, k⟩ := p
      have hps := parse_some l v k hp
      have hkn : k ≤ n := by rw [HLn.out]; exact hps.2.2.1
      have HP := Lib.hid hp
      have HNR : Hid (numR l = (v, (k : Int))) := by show _ = _; unfold numR; rw [hp]
      have HF : Hid (∀ w', Chg [g] w w' → w'.heap[g]? = some (.cells #[.slice (cutA A k c) (n - k) (c - k), .int .i64 0] 130 (0, 0)) → RuP D w g ⟨l, 0⟩ (.returned (.int .u64 (v : Int))) w') := by
        intro w' h1 h2
        rw [HLn.out] at h2
        unfold RuP; rw [uintR_some ⟨l, 0⟩ rfl HP.out]
        exact ⟨rfl, IsRr.cut HR.out (by rw [← HLn.out]; exact hlc) hcm HNE.out hD h1 (by rw [← HLn.out]; exact hkn) h2, h1⟩
      have hcut := fun w' => run_cut_l (P := Try.prog) Try.underlying29 elem_u8s size_u8 A n c k hkn w'
      clear hp hps
      have d0 : decide ((k : Int) < 0) = false := by simp
      go_enter Try.func85, Try.ntmps85
      go_wp2_with fail
      refine HN.out.mono ?_
      rintro e w1 ⟨rfl, hc1⟩
      rw [HNR.out]
      have hg1 := hc1.blk HG.out (by simp)
      rw [← HLn.out] at hg1
      have HG1 := Lib.hid hg1
      have d0' : w1.cell? ⟨g, 0, none⟩ = some (.slice A n c) := (cell_of_row _ _ 0 _ _ _ hg1).trans rfl
      have f0 : w1.frozen? ⟨g, 0, none⟩ = false := frozen_of_row _ _ _ _ _ hg1
      have HC1 : Hid (Chg [g] w w1) := hc1.mono (by simp)
      clear hc1 c0 c1 hg1
      go_wp2_with fail
      go_ret
      exact HF.out _ (HC1.out.trans' ((Chg.refl [g] w1).setCell (p := ⟨g, 0, none⟩) (.inl (by simp)) _)) (heap_setCell_same _ _ _ _ _ _ HG1.out)
  · have q1 : (er != 0) = true := by simpa using he
    have HF : Hid (RuP D w g ⟨l, er⟩ (.returned (.int .u64 0)) w) := by
      unfold RuP; rw [uintR_err ⟨l, er⟩ he]; exact ⟨rfl, HI.out, Chg.refl _ _⟩
    clear he
    go_enter Try.func85, Try.ntmps85
    go_wp2_with fail
    go_ret
    exact HF.out
end Wi
end Go.Proofs.Ytmdpmpfjldgalaa

/- The walk of journal.parse. -/
namespace Go.Proofs.Ytmdpmpfjldgalaa
open Go.RowKit
namespace Jn
open Dk Wi Wr

theorem results_tmp5 {P : Program} {fn : Func} {t u v x y : Tmp} (h : fn.results = #[.tmp t, .tmp u, .tmp v, .tmp x, .tmp y]) (tmps : Array Value) (w : World) :
    (results fn tmps).run P w = .ok (.tuple #[tmps.getD t undef, tmps.getD u undef, tmps.getD v undef, tmps.getD x undef, tmps.getD y undef]) w := by
  simp [results, h]

/-- a cut of a new slice lies in new memory -/
theorem own_cut {w : World} {B n c k c' : Nat} {t : TypeId} {X : Option Addr} {xs : List Value} (ho : w.ownsRow B t 1 (.slice X n c) n xs) {blk off : Nat} (e : cutA X k c' = some ⟨blk, off, none⟩) : B ≤ blk ∧ blk < w.heap.size := by
  rcases ho.2 with ⟨hv, _⟩ | ⟨g, cap, cur, hv, h1, h2, _⟩
  · cases hv
    unfold cutA at e
    split at e <;> cases e
  · cases hv
    have := cutA_some e
    subst this
    exact ⟨h1, (Array.getElem?_eq_some_iff.1 h2).1⟩

/-- what parse leaves -/
def ParseP (w : World) (l : List UInt8) (e : Ending) (w' : World) : Prop :=
  Below w.heap.size w w' ∧ ((parseB l = none ∧ e = .returned (.tuple #[.int .i64 0, .int .i64 0, .slice none 0 0, .int .i64 0, .bool false])) ∨
    ∃ b X c, parseB l = some b ∧ e = .returned (.tuple #[.int .i64 (b.t : Int), .int .i64 (b.i : Int), .slice X b.d.length c, .int .i64 (b.n : Int), .bool true]) ∧ RB w' X b.d ∧ b.d.length ≤ c ∧ c ≤ maxLen ∧
      ∀ blk off, X = some ⟨blk, off, none⟩ → w.heap.size ≤ blk ∧ blk < w'.heap.size)

set_option maxRecDepth 100000 in
set_option maxHeartbeats 2000000 in
theorem parse_calls (A : Option Addr) (n c : Nat) (l : List UInt8) (w : World) (hn : l.length = n) (hnc : n ≤ c) (_hcm : c ≤ maxLen) (hr : RB w A l) (hm : n ≤ 900000) :
    Calls Try.prog 63 #[.slice A n c] w (ParseP w l) := by
  have HN := Lib.hid hn
  have HR := Lib.hid hr
  have hl3 := left3 l
  have h1lt := uintR_lt ⟨l, 0⟩
  have h2lt := uintR_lt (uintR ⟨l, 0⟩).2
  have h3lt := uintR_lt (uintR (uintR ⟨l, 0⟩).2).2
  have HBAD : Hid (badB l = (decide ((uintR ⟨l, 0⟩).1 < 1) || decide (1099511627776 < (uintR ⟨l, 0⟩).1) || decide (1099511627776 < (uintR (uintR ⟨l, 0⟩).2).1) || decide (l.length < (uintR (uintR (uintR ⟨l, 0⟩).2).2).1) || decide (l.length < size3 l))) := rfl
  have HAT : Hid (at3 l = l.length - (uintR (uintR (uintR ⟨l, 0⟩).2).2).2.l.length) := rfl
  have HSZ : Hid (size3 l = at3 l + (uintR (uintR (uintR ⟨l, 0⟩).2).2).1 + 8) := rfl
  have HPS := fun x h1 h2 => Lib.hid (parseB_some l x h1 h2)
  have HPN := fun h1 h2 => Lib.hid (parseB_none l h1 h2)
  have HPB := fun h1 => Lib.hid (parseB_bad l h1)
  go_enter Try.func63, Try.ntmps63
  go_wp2_with fail
  refine (newReader_calls A n c l w hn hr (by omega)).mono ?_
  rintro e w1 ⟨g, rfl, hg, hgl, hb1⟩
  have B1 := Lib.hid hb1
  have HU1 := Lib.hid (uint_calls g ⟨l, 0⟩ w1 hg)
  clear hn hr hg hb1
  go_wp2_with fail
  refine HU1.out.mono ?_
  rintro e w2 ⟨rfl, hg2, hc2⟩
  have HU2 := Lib.hid (uint_calls g _ w2 hg2)
  have B2 := Lib.hid (B1.out.trans (hc2.below B1.out.size (by simpa using hgl)))
  clear hg2 hc2 HU1 B1
  generalize uintR ⟨l, 0⟩ = r1 at *
  obtain ⟨t, r1⟩ := r1
  simp only at *
  go_wp2_with fail
  refine HU2.out.mono ?_
  rintro e w3 ⟨rfl, hg3, hc3⟩
  have HU3 := Lib.hid (uint_calls g _ w3 hg3)
  have B3 := Lib.hid (B2.out.trans (hc3.below B2.out.size (by simpa using hgl)))
  clear hg3 hc3 HU2 B2
  generalize uintR r1 = r2 at *
  obtain ⟨i, r2⟩ := r2
  simp only at *
  go_wp2_with fail
  refine HU3.out.mono ?_
  rintro e w4 ⟨rfl, hg4, hc4⟩
  have HL := Lib.hid (left_calls g _ w4 hg4)
  have B4 := Lib.hid (B3.out.trans (hc4.below B3.out.size (by simpa using hgl)))
  clear hg4 hc4 HU3 B3
  generalize uintR r2 = r3 at *
  obtain ⟨m, r3⟩ := r3
  simp only at *
  go_wp2_with fail
  refine HL.out.mono ?_
  rintro e w5 ⟨rfl, rfl⟩
  rw [HN.out] at hl3
  have ha : ((n : Int) - (r3.l.length : Int)) = ((at3 l : Nat) : Int) := by have := HAT.out; rw [HN.out] at this; omega
  have han : at3 l ≤ n := by have := HAT.out; rw [HN.out] at this; omega
  have eu : IntKind.u64.wrap (n : Int) = n := by rw [IntKind.wrap_u64]; omega
  have HSZ2 : Hid (size3 l = at3 l + m + 8) := HSZ.out
  obtain ⟨a, HA⟩ : ∃ x, Hid (at3 l = x) := ⟨_, rfl⟩
  obtain ⟨z, HZ⟩ : ∃ x, Hid (size3 l = x) := ⟨_, rfl⟩
  rw [HA.out] at ha han
  rw [HZ.out, HN.out] at HBAD
  have hz : z = a + m + 8 := by have := HSZ2.out; rw [HA.out, HZ.out] at this; exact this
  clear HSZ HAT HSZ2
  generalize r3.l.length = q3 at *
  have HE0 : Hid (badB l = true → ParseP w l (.returned (.tuple #[.int .i64 0, .int .i64 0, .slice none 0 0, .int .i64 0, .bool false])) w4) := fun h => ⟨B4.out, .inl ⟨(HPB h).out, rfl⟩⟩
  by_cases c1 : t < 1
  · have d1 : decide ((t : Int) < 1) = true := by simp; omega
    have hb : badB l = true := by rw [HBAD.out]; simp [c1]
    clear hz
    go_wp2_with fail
    (try simp only [Exit.inBlock, Exit.then]); refine bodyPost_ret (results_tmp5 rfl _ _) rfl ?_
    exact HE0.out hb
  have d1 : decide ((t : Int) < 1) = false := by simp; omega
  by_cases c2 : 1099511627776 < t
  · have d2 : decide ((1099511627776 : Int) < (t : Int)) = true := by simp; omega
    have hb : badB l = true := by rw [HBAD.out]; simp [c2]
    clear hz
    go_wp2_with fail
    (try simp only [Exit.inBlock, Exit.then]); refine bodyPost_ret (results_tmp5 rfl _ _) rfl ?_
    exact HE0.out hb
  have d2 : decide ((1099511627776 : Int) < (t : Int)) = false := by simp; omega
  by_cases c3 : 1099511627776 < i
  · have d3 : decide ((1099511627776 : Int) < (i : Int)) = true := by simp; omega
    have hb : badB l = true := by rw [HBAD.out]; simp [c3]
    clear hz
    go_wp2_with fail
    (try simp only [Exit.inBlock, Exit.then]); refine bodyPost_ret (results_tmp5 rfl _ _) rfl ?_
    exact HE0.out hb
  have d3 : decide ((1099511627776 : Int) < (i : Int)) = false := by simp; omega
  by_cases c4 : n < m
  · have d4 : decide ((n : Int) < (m : Int)) = true := by simp; omega
    have hb : badB l = true := by rw [HBAD.out]; simp [c4]
    clear hz
    go_wp2_with fail
    (try simp only [Exit.inBlock, Exit.then]); refine bodyPost_ret (results_tmp5 rfl _ _) rfl ?_
    exact HE0.out hb
  have d4 : decide ((n : Int) < (m : Int)) = false := by simp; omega
  have e1 : IntKind.i64.wrap (m : Int) = m := by rw [IntKind.wrap_i64]; omega
  have e2 : (a : Int) + (m : Int) + 8 = (z : Int) := by omega
  have e3 : IntKind.i64.wrap ((a : Int) + (m : Int)) = (a : Int) + (m : Int) := by rw [IntKind.wrap_i64]; omega
  by_cases c5 : n < z
  · have d5 : decide ((n : Int) < (z : Int)) = true := by simp; omega
    have hb : badB l = true := by rw [HBAD.out]; simp [c5]
    clear hz
    go_wp2_with fail
    (try simp only [Exit.inBlock, Exit.then]); refine bodyPost_ret (results_tmp5 rfl _ _) rfl ?_
    exact HE0.out hb
  have d5 : decide ((n : Int) < (z : Int)) = false := by simp; omega
  have hb : badB l = false := by rw [HBAD.out]; simp [c1, c2, c3, c4, c5]
  have hcut1 : ∀ w', (Instr.slice 29 (.slice A n c) none (some (.int .i64 (z : Int))) none).run Try.prog w' = .ok (.slice A z c) w' := fun w' => by
    have h := run_cut_h (P := Try.prog) Try.underlying29 (by kernel_rfl) A n c z (by omega) Dk.size_u8 w'
    rwa [cutA_zero] at h
  have HOP := Lib.hid (Ck.open_calls A z c (l.take z) w4 (by rw [List.length_take]; have := HN.out; omega) (by omega) (by omega) (RB.take (RB.below HR.out B4.out) z))
  have HE1 := Lib.hid (HPN hb)
  have HE2 := fun x => Lib.hid (HPS x hb)
  rw [HZ.out] at HE1 HE2
  rw [HA.out] at HE2
  have et : IntKind.i64.wrap (t : Int) = t := by rw [IntKind.wrap_i64]; omega
  have ei : IntKind.i64.wrap (i : Int) = i := by rw [IntKind.wrap_i64]; omega
  have hLz : (l.take z).length = z := by rw [List.length_take]; have := HN.out; omega
  have HLZ := Lib.hid hLz
  have HZA := Lib.hid hz
  clear hb HBAD HPS HPN HPB HL HE0 hLz hz
  have ok0 : ((0 : Int) != 0) = false := by decide
  go_wp2_with fail
  refine HOP.out.mono ?_
  rintro e w6 ⟨hb6, ho6⟩
  rcases ho6 with ⟨h1, rfl⟩ | ⟨x, v, h1, rfl, ho⟩
  · have HF : Hid (ParseP w l (.returned (.tuple #[.int .i64 0, .int .i64 0, .slice none 0 0, .int .i64 0, .bool false])) w6) := ⟨B4.out.trans (hb6.mono B4.out.size), .inl ⟨(HE1.out) h1, rfl⟩⟩
    clear h1
    go_wp2_with fail
    (try simp only [Exit.inBlock, Exit.then]); refine bodyPost_ret (results_tmp5 rfl _ _) rfl ?_
    exact HF.out
  · have hx : x.length + 8 = z := by have := opened_len _ _ h1; rw [HLZ.out] at this; exact this
    obtain ⟨X, cx, rfl, hxc, hxm, _, hrx⟩ := own_form ho
    have hlt := fun b (h : (Value.slice X x.length cx).ownBlock = some b) => ho.lt b h
    have hax : a ≤ x.length := by have := HZA.out; omega
    have HX := Lib.hid hx
    obtain ⟨k, HK⟩ : ∃ y, Hid (x.length = y) := ⟨_, rfl⟩
    rw [HK.out] at hxc hax
    have hcut2 : ∀ w', (Instr.slice 29 (.slice X k cx) (some (.int .i64 (a : Int))) none none).run Try.prog w' = .ok (.slice (cutA X a cx) (k - a) (cx - a)) w' := fun w' => run_cut_l Try.underlying29 (by kernel_rfl) Dk.size_u8 X k cx a hax w'
    have HF : Hid (∀ nq, ParseP w l (.returned (.tuple #[.int .i64 (t : Int), .int .i64 (i : Int), .slice (cutA X a cx) (k - a) (cx - a), .int .i64 (((z : Int) + 64 - 1) / 64), .bool true])) (w6.drewN nq)) := by
      intro nq
      rw [show ((z : Int) + 64 - 1) / 64 = (((z + 63) / 64 : Nat) : Int) by omega]
      have B6 := B4.out.trans (hb6.mono B4.out.size)
      refine ⟨below_drewN B6 nq, .inr ⟨_, cutA X a cx, cx - a, (HE2 x).out h1, ?_, ?_, ?_, ?_, ?_⟩⟩
      · show _ = Ending.returned (.tuple #[_, _, .slice _ (x.drop a).length _, _, _])
        rw [List.length_drop, HK.out]
      · exact Rd.drewN (RB.cut hrx a cx (by rw [HK.out]; exact hxc)) nq
      · show (x.drop a).length ≤ _; rw [List.length_drop, HK.out]; omega
      · omega
      · intro blk off e
        have hg := own_cut ho e
        have := B4.out.size
        exact ⟨by omega, by simpa using hg.2⟩
    clear h1 ho hrx hlt HE2
    rw [HK.out]
    go_upto_region 10 with (fail)
    go_quiet (fail)
    go_wp2_with fail
    (try simp only [Exit.inBlock, Exit.then]); refine bodyPost_ret (results_tmp5 rfl _ _) rfl ?_
    exact HF.out _
end Jn
end Go.Proofs.Ytmdpmpfjldgalaa

/- A journal in memory. -/
namespace Go.Proofs.Ytmdpmpfjldgalaa
open Go.RowKit
namespace Jn
open Dk Wi Wr

theorem info_sl : (Try.prog.info? 29).map (fun i => (i.zero, i.size, i.bytes)) = some (some (.slice none 0 0), 1, 24) := by kernel_rfl

/-- a record in memory: address, capacity, bytes -/
structure Rm where
  a : Option Addr
  c : Nat
  d : List UInt8
def rval (m : Rm) : Value := .slice m.a m.d.length m.c
/-- a byte slice that lies in blocks of R -/
structure InR (w : World) (R : List Nat) (m : Rm) : Prop where
  rd : RB w m.a m.d
  c1 : m.d.length ≤ m.c
  c2 : m.c ≤ maxLen
  b : 0 < m.d.length → ∀ b off, m.a = some ⟨b, off, none⟩ → b ∈ R
theorem InR.chg {w w' : World} {R S : List Nat} {m : Rm} (h : InR w R m) (hc : Chg S w w') (hS : ∀ x ∈ S, x ∉ R) : InR w' R m :=
  ⟨RB.chg h.rd hc (fun hp b off e hb => hS b hb (h.b hp b off e)), h.c1, h.c2, h.b⟩
theorem InR.kept {w w' : World} {R : List Nat} {m : Rm} (h : InR w R m) (k : Kept R w w') : InR w' R m :=
  ⟨k.rd h.rd (fun hp => h.b (by simpa using hp)), h.c1, h.c2, h.b⟩
theorem InR.sub {w : World} {R R' : List Nat} {m : Rm} (h : InR w R m) (hs : ∀ x ∈ R, x ∈ R') : InR w R' m := ⟨h.rd, h.c1, h.c2, fun hp b off e => hs b (h.b hp b off e)⟩
theorem InR.below {w w' : World} {R : List Nat} {m : Rm} (h : InR w R m) (hb : Below w.heap.size w w') : InR w' R m :=
  ⟨h.rd.below hb, h.c1, h.c2, h.b⟩

/-- the block of an address -/
def bl : Option Addr → List Nat
  | some ⟨b, _, none⟩ => [b]
  | _ => []
theorem mem_bl {Y : Option Addr} {x : Nat} (h : x ∈ bl Y) : ∃ off, Y = some ⟨x, off, none⟩ := by
  unfold bl at h
  split at h
  · simp only [List.mem_singleton] at h; subst h; exact ⟨_, rfl⟩
  · cases h
theorem bl_mem {b off : Nat} : b ∈ bl (some ⟨b, off, none⟩) := by simp [bl]

def jcells (g h : Nat) (j : Jr) (sa : Option Addr) (sc : Nat) (ra : Option Addr) (n rc : Nat) : Array Value :=
  #[.pointer (some ⟨g, 0, none⟩), .int .i64 (j.t : Int), .slice sa j.s.length sc, .slice ra n rc, .int .i64 ((j.t % 2 * h + j.e : Nat) : Int), .bool j.x]
/-- block gj holds a journal on the disk g; its state and its records lie in blocks of R -/
structure IsJ' (w : World) (gj g : Nat) (R : List Nat) (h : Nat) (j : Jr) (sa : Option Addr) (sc : Nat) (ra : Option Addr) (rc : Nat) (ms : List Rm) : Prop where
  hd : w.heap[gj]? = some (.cells (jcells g h j sa sc ra ms.length rc) 86 (0, 0))
  st : InR w R ⟨sa, sc, j.s⟩
  own : w.ownsRow 0 29 1 (.slice ra ms.length rc) ms.length (ms.map rval)
  ob : ∀ b, (Value.slice ra ms.length rc).ownBlock = some b → b ≠ gj ∧ b ∉ R
  rd : ∀ m ∈ ms, InR w R m
  rs : j.rs = ms.map (·.d)
  gr : gj ∉ R
  rl : ∀ x ∈ R, x < w.heap.size
  ok : j.ok h
/-- the blocks that the journal writes: W -/
def IsJ (w : World) (gj g : Nat) (W R : List Nat) (h : Nat) (j : Jr) : Prop :=
  ∃ sa sc ra rc ms, W = gj :: (Value.slice ra ms.length rc).ownBlock.toList ∧ IsJ' w gj g R h j sa sc ra rc ms
section
variable {w w' w1 : World} {gj g h sc rc : Nat} {R W S : List Nat} {j : Jr} {sa ra : Option Addr} {ms : List Rm}
theorem IsJ'.chg (k : IsJ' w gj g R h j sa sc ra rc ms) (hc : Chg S w w') (hg : gj ∉ S) (hb : ∀ b, (Value.slice ra ms.length rc).ownBlock = some b → b ∉ S) (hS : ∀ x ∈ S, x ∉ R) : IsJ' w' gj g R h j sa sc ra rc ms :=
  ⟨hc.blk k.hd hg, k.st.chg hc hS, hc.own k.own hb, k.ob, fun m hm => (k.rd m hm).chg hc hS, k.rs, k.gr, fun x hx => Nat.lt_of_lt_of_le (k.rl x hx) hc.size, k.ok⟩
theorem IsJ'.below (k : IsJ' w gj g R h j sa sc ra rc ms) (hb : Below w.heap.size w w') : IsJ' w' gj g R h j sa sc ra rc ms :=
  k.chg (Chg.of_below hb []) (by simp) (by simp) (by simp)
theorem IsJ.chg (k : IsJ w gj g W R h j) (hc : Chg S w w') (hW : ∀ x ∈ S, x ∉ W) (hS : ∀ x ∈ S, x ∉ R) : IsJ w' gj g W R h j := by
  obtain ⟨sa, sc, ra, rc, ms, rfl, k⟩ := k
  exact ⟨sa, sc, ra, rc, ms, rfl, k.chg hc (fun hm => hW _ hm (by simp)) (fun b hb hm => hW b hm (by simp [hb])) hS⟩
theorem IsJ.below (k : IsJ w gj g W R h j) (hb : Below w.heap.size w w') : IsJ w' gj g W R h j := k.chg (Chg.of_below hb []) (by simp) (by simp)
theorem IsJ.ok (k : IsJ w gj g W R h j) : j.ok h := by obtain ⟨_, _, _, _, _, _, k⟩ := k; exact k.ok
theorem IsJ.lt (k : IsJ w gj g W R h j) : (∀ x ∈ W, x < w.heap.size) ∧ (∀ x ∈ R, x < w.heap.size) ∧ gj < w.heap.size ∧ gj ∈ W ∧ ∀ x ∈ W, x ∉ R := by
  obtain ⟨sa, sc, ra, rc, ms, rfl, k⟩ := k
  have hg := (Array.getElem?_eq_some_iff.1 k.hd).1
  refine ⟨fun x hx => ?_, k.rl, hg, by simp, fun x hx => ?_⟩
  · simp only [List.mem_cons, Option.mem_toList] at hx
    rcases hx with rfl | hx
    · exact hg
    · exact (k.own.lt x hx).2
  · simp only [List.mem_cons, Option.mem_toList] at hx
    rcases hx with rfl | hx
    · exact k.gr
    · exact (k.ob x hx).2
/-- only the blocks of F are as they were -/
theorem IsJ.kept (k : IsJ w gj g W R h j) (hk : Kept (W ++ R) w w') : IsJ w' gj g W R h j := by
  have hl := k.lt
  obtain ⟨sa, sc, ra, rc, ms, rfl, k⟩ := k
  have hkR : Kept R w w' := fun x hx => hk x (by simp [hx])
  refine ⟨sa, sc, ra, rc, ms, rfl, (hk gj (by simp)).trans k.hd, k.st.kept hkR, ?_, k.ob, fun m hm => (k.rd m hm).kept hkR, k.rs, k.gr, fun x hx => ?_, k.ok⟩
  · obtain ⟨h1, h2⟩ := k.own
    refine ⟨h1, h2.imp id fun ⟨b, cap, cur, e1, e2, e3, e4⟩ => ⟨b, cap, cur, e1, e2, ?_, e4⟩⟩
    exact (hk b (by rw [e1]; simp [Value.ownBlock])).trans e3
  · have := IsK_size hkR k.rl x hx; exact this

/-- the journal's numbers are stored -/
theorem IsJ'.cells (k : IsJ' w gj g R h j sa sc ra rc ms) : w.cell? ⟨gj, 0, none⟩ = some (.pointer (some ⟨g, 0, none⟩)) ∧ w.cell? ⟨gj, 1, none⟩ = some (.int .i64 (j.t : Int)) ∧
    w.cell? ⟨gj, 2, none⟩ = some (.slice sa j.s.length sc) ∧ w.cell? ⟨gj, 3, none⟩ = some (.slice ra ms.length rc) ∧ w.cell? ⟨gj, 4, none⟩ = some (.int .i64 ((j.t % 2 * h + j.e : Nat) : Int)) ∧ w.cell? ⟨gj, 5, none⟩ = some (.bool j.x) :=
  ⟨(cell_of_row _ _ 0 _ _ _ k.hd).trans rfl, (cell_of_row _ _ 1 _ _ _ k.hd).trans rfl, (cell_of_row _ _ 2 _ _ _ k.hd).trans rfl, (cell_of_row _ _ 3 _ _ _ k.hd).trans rfl, (cell_of_row _ _ 4 _ _ _ k.hd).trans rfl, (cell_of_row _ _ 5 _ _ _ k.hd).trans rfl⟩
theorem IsJ'.froz (k : IsJ' w gj g R h j sa sc ra rc ms) (i : Nat) : w.frozen? ⟨gj, i, none⟩ = false := frozen_of_row _ _ _ _ _ k.hd

theorem rval_one (l : List Rm) : ∀ u ∈ l.map rval, u.oneCell' = true := by
  intro u hu
  obtain ⟨m, _, rfl⟩ := List.mem_map.1 hu
  rfl

/-- a record is appended -/
theorem IsJ'.push {ra' : Option Addr} {rc' e' : Nat} {R' : List Nat} (k : IsJ' w gj g R h j sa sc ra rc ms) (m : Rm) (hm : InR w R' m) (hR : ∀ x ∈ R, x ∈ R') (hg : gj ∉ R') (hb : ∀ b, (Value.slice ra ms.length rc).ownBlock = some b → b ∉ R') (hl : ∀ x ∈ R', x < w.heap.size)
    (hA : App w (.slice ra ms.length rc) w1 (.slice ra' (ms.length + 1) rc')) (ho : w1.ownsRow 0 29 1 (.slice ra' (ms.length + 1) rc') (ms.length + 1) (ms.map rval ++ [rval m])) (he : e' ≤ h) (hr : ms.length + 1 ≤ e') (hd : m.d.length ≤ 64 * h) :
    IsJ' ((w1.setCell ⟨gj, 3, none⟩ (.slice ra' (ms.length + 1) rc')).setCell ⟨gj, 4, none⟩ (.int .i64 ((j.t % 2 * h + e' : Nat) : Int))) gj g R' h { j with rs := j.rs ++ [m.d], e := e' } sa sc ra' rc' (ms ++ [m]) := by
  have hgl := (Array.getElem?_eq_some_iff.1 k.hd).1
  have hc1 : Chg (Value.slice ra ms.length rc).ownBlock.toList w w1 := hA.chg (by intro b hb; simp [hb])
  have hc2 : Chg [gj] w1 ((w1.setCell ⟨gj, 3, none⟩ (.slice ra' (ms.length + 1) rc')).setCell ⟨gj, 4, none⟩ (.int .i64 ((j.t % 2 * h + e' : Nat) : Int))) :=
    ((Chg.refl [gj] w1).setCell (p := ⟨gj, 3, none⟩) (.inl (by simp)) _).setCell (p := ⟨gj, 4, none⟩) (.inl (by simp)) _
  have hn1 : ∀ x ∈ (Value.slice ra ms.length rc).ownBlock.toList, x ∉ R' := fun x hx => hb x (by simpa using hx)
  have hn2 : ∀ x ∈ [gj], x ∉ R' := fun x hx => by simp only [List.mem_singleton] at hx; subst hx; exact hg
  have hg1 : w1.heap[gj]? = some (.cells (jcells g h j sa sc ra ms.length rc) 86 (0, 0)) := hc1.blk k.hd (fun hx => (k.ob gj (by simpa using hx)).1 rfl)
  have hml : (ms ++ [m]).length = ms.length + 1 := by simp
  have hmm : (ms ++ [m]).map rval = ms.map rval ++ [rval m] := by simp
  have hob : ∀ b, (Value.slice ra' (ms.length + 1) rc').ownBlock = some b → b ≠ gj ∧ b ∉ R' := by
    intro b hbb
    rcases hA.2 with h2 | ⟨b', h2, h3⟩
    · rw [hbb] at h2
      exact ⟨(k.ob b h2.symm).1, hb b h2.symm⟩
    · rw [hbb] at h2
      injection h2 with h2
      subst h2
      exact ⟨by omega, fun hx => by have := hl _ hx; omega⟩
  refine ⟨?_, ((k.st.sub hR).chg hc1 hn1).chg hc2 hn2, ?_, ?_, fun q hq => ?_, ?_, hg, fun x hx => Nat.lt_of_lt_of_le (hl x hx) (Nat.le_trans hc1.size hc2.size), ?_⟩
  · rw [hml]
    exact heap_setCell_same _ _ _ _ _ _ (heap_setCell_same _ _ _ _ _ _ hg1)
  · rw [hml, hmm]
    exact hc2.own ho (fun b hb' hx => (hob b hb').1 (by simpa using hx))
  · rw [hml]; exact hob
  · rcases List.mem_append.1 hq with hq | hq
    · exact (((k.rd q hq).sub hR).chg hc1 hn1).chg hc2 hn2
    · simp only [List.mem_singleton] at hq
      subst hq
      exact (hm.chg hc1 hn1).chg hc2 hn2
  · show j.rs ++ [m.d] = _
    rw [k.rs]; simp
  · refine ⟨k.ok.t1, k.ok.t2, he, ?_, k.ok.s, fun d hd' => ?_⟩
    · show (j.rs ++ [m.d]).length ≤ e'
      rw [k.rs]; simp; exact hr
    · rcases List.mem_append.1 hd' with hd' | hd'
      · exact k.ok.d d hd'
      · simp only [List.mem_singleton] at hd'; subst hd'; exact hd
end
/-- a new journal -/
theorem IsJ.new {w : World} {g h t f e : Nat} {R : List Nat} {m : Rm} (hm : InR w R m) (hl : ∀ x ∈ R, x < w.heap.size) (hf : f = t % 2 * h) (h1 : 1 ≤ t) (h2 : t ≤ 1099511627776) (he : e ≤ h) (hs : m.d.length ≤ 64 * h) :
    IsJ (w.alloc (.cells #[.pointer (some ⟨g, 0, none⟩), .int .i64 (t : Int), rval m, .slice none 0 0, .int .i64 ((f + e : Nat) : Int), .bool false] 86)) w.heap.size g [w.heap.size] R h ⟨t, m.d, [], e, false⟩ := by
  have hj1 := below1 w (.cells #[.pointer (some ⟨g, 0, none⟩), .int .i64 (t : Int), rval m, .slice none 0 0, .int .i64 ((f + e : Nat) : Int), .bool false] 86)
  have hj2 := heap_alloc_new w (.cells #[.pointer (some ⟨g, 0, none⟩), .int .i64 (t : Int), rval m, .slice none 0 0, .int .i64 ((f + e : Nat) : Int), .bool false] 86)
  refine ⟨m.a, m.c, none, 0, [], rfl, ?_, hm.below hj1, ⟨rfl, .inl ⟨rfl, rfl⟩⟩, fun b hb => (by cases hb), fun m hm => (by cases hm), rfl, fun hx => (by have := hl _ hx; omega), fun x hx => Nat.lt_of_lt_of_le (hl x hx) hj1.size, ⟨h1, h2, he, Nat.zero_le _, hs, fun d hd => (by cases hd)⟩⟩
  rw [hj2]
  unfold jcells
  subst hf
  rfl
end Jn
end Go.Proofs.Ytmdpmpfjldgalaa

/- The walk of journal.load. -/
namespace Go.Proofs.Ytmdpmpfjldgalaa
open Go.RowKit
namespace Jn
open Dk Wi Wr

theorem w64_nat (n : Nat) (h : n < 4611686018427387904) : wrap64 (n : Int) = n := by unfold wrap64; omega
theorem meas_lt {q f je n e4 fe fe4 : Nat} (h1 : je + n = e4) (h2 : f + je = fe) (h3 : f + e4 = fe4) (hn : 1 ≤ n) (hl : je + n ≤ q) : q + f - fe4 < q + f - fe := by omega
/-- what load leaves -/
def LoadP (w : World) (g : Nat) (D : St) (k : Nat) (e : Ending) (w' : World) : Prop :=
  Below w.heap.size w w' ∧ ((D.x = true ∧ e = .returned (.tuple #[.pointer none, .int .i64 10])) ∨
    (D.x = false ∧ loadD D k = none ∧ e = .returned (.tuple #[.pointer none, .int .i64 0])) ∨
    ∃ j gj W R, D.x = false ∧ loadD D k = some j ∧ e = .returned (.tuple #[.pointer (some ⟨gj, 0, none⟩), .int .i64 0]) ∧ IsJ w' gj g W R (half D) j ∧ (∀ x ∈ W, w.heap.size ≤ x) ∧ (∀ x ∈ R, w.heap.size ≤ x))

/-- what the loop of load has -/
def LoadL (w : World) (H : List UInt8) (X : Option Addr) (gj g h : Nat) (j0 : Jr) (wr : World) : Prop :=
  ∃ j W R, IsJ wr gj g W R h j ∧ loadR H h j = loadR H h j0 ∧ j.t = j0.t ∧ j.x = false ∧ (∀ x ∈ W, gj ≤ x) ∧ (∀ x ∈ R, w.heap.size ≤ x) ∧ Below w.heap.size w wr ∧ RB wr X H ∧ ∀ b off, X = some ⟨b, off, none⟩ → b < gj
def endOf (w : World) (gj : Nat) : Nat := (intOf ((w.cell? ⟨gj, 4, none⟩).getD (.int .i64 0))).toNat

theorem halfL_len (D : St) (k : Nat) (h : D.ok) (hk : k < 2) : (halfL D k).length = 64 * half D := by
  have := h.all
  unfold halfL half
  rw [List.length_take, List.length_drop, this]
  have : k * (D.n / 2) ≤ 1 * (D.n / 2) := Nat.mul_le_mul_right _ (by omega)
  omega
theorem halfL_read (D : St) (k : Nat) (hk : k < 2) (hx : D.x = false) : readL D ((k * half D : Nat) : Int) (half D : Int) = halfL D k ∧ readE D ((k * half D : Nat) : Int) (half D : Int) = 0 := by
  have hh : k * (D.n / 2) ≤ 1 * (D.n / 2) := Nat.mul_le_mul_right _ (by omega)
  have hi : inB D.n ((k * half D : Nat) : Int) (half D : Int) = true := by
    unfold inB half
    simp only [Bool.and_eq_true, decide_eq_true_eq]
    omega
  unfold readL readE halfL
  rw [hx, hi, Int.toNat_natCast, Int.toNat_natCast]
  simp

set_option maxRecDepth 100000 in
set_option maxHeartbeats 2000000 in
theorem load_calls (g : Nat) (M E : List Nat) (D : St) (k : Nat) (w : World) (h : IsD w g M E D) (hk : k < 2) (hn : D.n ≤ 100) :
    Calls Try.prog 49 #[.pointer (some ⟨g, 0, none⟩), .int .i64 (k : Int)] w (LoadP w g D k) := by
  have HK := Lib.hid h
  have HH := Lib.hid (half_calls g M E D k w h (by omega))
  have hf : fst D k = k * half D := by unfold fst; rw [Nat.mod_eq_of_lt hk]
  have hq : half D ≤ 50 := by unfold half; omega
  have HRL := Lib.hid (halfL_len D k h.ok hk)
  have HRD := fun hx => Lib.hid (halfL_read D k hk hx)
  have HRX : Hid (D.x = true → readE D ((fst D k : Nat) : Int) (half D : Int) = 10) := by
    intro hx; unfold readE; rw [hx]; simp
  have hf9 : fst D k ≤ 50 := by rw [hf]; have : k * half D ≤ 1 * half D := Nat.mul_le_mul_right _ (by omega); omega
  have HR := Lib.hid (read_calls g M E D ((fst D k : Nat) : Int) (half D : Int) w h (by omega) (by omega))
  have HLD : Hid (loadD D k = (first0 (halfL D k) k).map (loadR (halfL D k) (half D))) := rfl
  rw [← hf] at HRD
  clear h
  obtain ⟨q, HQ⟩ : ∃ x, Hid (half D = x) := ⟨_, rfl⟩
  obtain ⟨f, HF⟩ : ∃ x, Hid (fst D k = x) := ⟨_, rfl⟩
  obtain ⟨H, HHL⟩ : ∃ x, Hid (halfL D k = x) := ⟨_, rfl⟩
  rw [HF.out, HQ.out] at HH HR HRX
  rw [HQ.out] at hq
  rw [HF.out] at hf9
  rw [HHL.out, HQ.out] at HLD
  rw [HHL.out, HQ.out] at HRL
  obtain ⟨tt, HTO⟩ : ∃ x, Hid (f + q = x) := ⟨_, rfl⟩
  rw [HTO.out] at HH
  have e1 : (tt : Int) - (f : Int) = (q : Int) := by have := HTO.out; omega
  by_cases hx : D.x = true
  · have HE := Lib.hid (HRX.out hx)
    clear HRD HRX hf
    go_enter Try.func49, Try.ntmps49
    go_wp2_with fail
    refine HH.out.mono ?_
    rintro e w1 ⟨rfl, rfl⟩
    go_wp2_with fail
    (with_reducible refine HR.out.mono ?_)
    rintro e w1 ⟨X, n, c, rfl, hnl, ho, hb⟩
    rw [HE.out]
    have HFF : Hid (LoadP w g D k (.returned (.tuple #[.pointer none, .int .i64 10])) w1) := ⟨hb, .inl ⟨hx, rfl⟩⟩
    clear hnl ho hb hx
    go_wp2_with fail
    go_ret2
    exact HFF.out
  · have hx' : D.x = false := by simpa using hx
    have HX := Lib.hid hx'
    obtain ⟨r1, r2⟩ := (HRD hx').out
    rw [HHL.out, HF.out, HQ.out] at r1
    rw [HF.out, HQ.out] at r2
    have HR1 := Lib.hid r1
    have HR2 := Lib.hid r2
    clear HRD HRX hx hx' r1 r2
    go_enter Try.func49, Try.ntmps49
    go_wp2_with fail
    refine HH.out.mono ?_
    rintro e w1 ⟨rfl, rfl⟩
    go_wp2_with fail
    (with_reducible refine HR.out.mono ?_)
    rintro e w1 ⟨X, n, c, rfl, hnl, ho, hb⟩
    rw [HR2.out]
    rw [HR1.out] at hnl ho
    obtain ⟨_, _, e0, hnc, hcm, _, hrd⟩ := own_form ho
    cases e0
    have hXlt : ∀ b off, X = some ⟨b, off, none⟩ → b < w1.heap.size := fun b off e => by
      have := own_cut (k := 0) (c' := c) ho (by rw [cutA_zero]; exact e)
      exact this.2
    have hn64 : n = 64 * q := by rw [hnl, HRL.out]
    have HN := Lib.hid hnl
    have HB := Lib.hid hb
    have HRB := Lib.hid hrd
    have HPA := Lib.hid (parse_calls X n c H w1 hnl.symm hnc hcm hrd (by omega))
    clear hnl ho hb hrd
    have HN64 := Lib.hid hn64
    clear hn64
    go_wp2_with fail
    refine HPA.out.mono ?_
    rintro e w2 ⟨hb2, hp⟩
    have HB2 := Lib.hid (HB.out.trans (hb2.mono HB.out.size))
    have hXlt2 : ∀ b off, X = some ⟨b, off, none⟩ → b < w2.heap.size := fun b off e => Nat.lt_of_lt_of_le (hXlt b off e) hb2.size
    have HRB2 := Lib.hid (RB.below HRB.out hb2)
    have hs2 := hb2.size
    have hs1 := HB.out.size
    clear hb2 HPA hXlt HRB
    rcases hp with ⟨h0, rfl⟩ | ⟨b, Y, cy, h0, rfl, hy, hyc, hym, hyb⟩
    · have HFF : Hid (LoadP w g D k (.returned (.tuple #[.pointer none, .int .i64 0])) w2) := ⟨HB2.out, .inr (.inl ⟨HX.out, by rw [HLD.out]; unfold first0; rw [h0]; rfl, rfl⟩)⟩
      clear h0
      go_wp2_with fail
      go_ret2
      exact HFF.out
    · obtain ⟨p1, p2, p3, p4, p5, p6⟩ := parseB_ok H b h0
      have HF0 : Hid (¬ (b.i = 0 ∧ b.t % 2 = k) → LoadP w g D k (.returned (.tuple #[.pointer none, .int .i64 0])) w2) := fun hne => ⟨HB2.out, .inr (.inl ⟨HX.out, by rw [HLD.out]; unfold first0; rw [h0]; simp only; rw [if_neg hne]; rfl, rfl⟩)⟩
      by_cases ci : b.i = 0
      · by_cases ct : b.t % 2 = k
        · have d1 : ((b.i : Int) != 0) = false := by rw [bne_eq_false_iff_eq]; omega
          have d2 : (((b.t : Int) % 2) != (k : Int)) = false := by rw [bne_eq_false_iff_eq]; omega
          have HL : Hid (loadD D k = some (loadR H q ⟨b.t, b.d, [], b.n, false⟩)) := by
            show _ = _
            rw [HLD.out]; unfold first0; rw [h0]; simp only; rw [if_pos ⟨ci, ct⟩]; rfl
          have hbt := ct
          have hft : f = b.t % 2 * q := by rw [ct, ← HF.out, hf, HQ.out]
          have HFT := Lib.hid hft
          obtain ⟨bt, BT⟩ : ∃ x, Hid (b.t = x) := ⟨_, rfl⟩
          obtain ⟨bi, BI⟩ : ∃ x, Hid (b.i = x) := ⟨_, rfl⟩
          obtain ⟨bn, BN⟩ : ∃ x, Hid (b.n = x) := ⟨_, rfl⟩
          obtain ⟨bd, BD⟩ : ∃ x, Hid (b.d = x) := ⟨_, rfl⟩
          rw [BD.out] at hy hyc p6
          rw [BT.out] at p1 p2 d2 ct hbt
          rw [BI.out] at d1
          rw [BN.out] at p4 p5
          rw [BT.out] at HFT
          rw [BT.out, BN.out, BD.out] at HL
          rw [BT.out, BI.out, BN.out, BD.out]
          have hH : H.length = 64 * q := HRL.out
          have hbn : bn ≤ q := by omega
          have hbl : bd.length ≤ 64 * q := by omega
          have en : (f : Int) + (bn : Int) = ((f + bn : Nat) : Int) := by omega
          have HYY := Lib.hid hy
          have HYB := Lib.hid hyb
          clear hy hyb h0 hft HF0 HLD p3 p5 p6 BT BI BN BD
          have HJ0 : Hid (LoadL w H X w2.heap.size g q ⟨bt, bd, [], bn, false⟩ (w2.alloc (.cells #[.pointer (some ⟨g, 0, none⟩), .int .i64 (bt : Int), .slice Y bd.length cy, .slice none 0 0, .int .i64 ((f + bn : Nat) : Int), .bool false] 86))) := by
            have hj1 := below1 w2 (.cells #[.pointer (some ⟨g, 0, none⟩), .int .i64 (bt : Int), .slice Y bd.length cy, .slice none 0 0, .int .i64 ((f + bn : Nat) : Int), .bool false] 86)
            refine ⟨_, [w2.heap.size], bl Y, IsJ.new (m := ⟨Y, cy, bd⟩) ⟨HYY.out, hyc, hym, fun _ b off e => by rw [show Y = _ from e]; exact bl_mem⟩ (fun x hx => ?_) HFT.out p1 p2 hbn hbl, rfl, rfl, rfl, ?_, ?_, HB2.out.trans (hj1.mono HB2.out.size), RB.below HRB2.out hj1, hXlt2⟩
            · obtain ⟨off, rfl⟩ := mem_bl hx
              exact (HYB.out _ _ rfl).2
            · intro x hx; simp only [List.mem_singleton] at hx; omega
            · intro x hx
              obtain ⟨off, rfl⟩ := mem_bl hx
              have := (HYB.out _ _ rfl).1
              omega
          have enI : IntKind.i64.wrap ((f : Int) + (bn : Int)) = ((f + bn : Nat) : Int) := by rw [IntKind.wrap_i64]; omega
          have en2 : (f : Int) + (bn : Int) = ((f + bn : Nat) : Int) := by omega
          have HHN := Lib.hid hH
          have hgj : w.heap.size ≤ w2.heap.size := by omega
          clear hH HYY HYB hXlt2 HRB2 hyc hym hbl p1 p2 p4
          obtain ⟨fb, HFB⟩ : ∃ x, Hid (f + bn = x) := ⟨_, rfl⟩
          rw [HFB.out] at HJ0 enI en2 en
          go_wp2_with fail
          generalize w2.alloc (.cells #[.pointer (some ⟨g, 0, none⟩), .int .i64 (bt : Int), .slice Y bd.length cy, .slice none 0 0, .int .i64 (fb : Int), .bool false] 86) = w3 at *
          generalize w2.heap.size = gj at *
          clear HR HH HR1 HR2 HB HB2 d1 d2 hs1 hs2 en enI en2
          go_loopw [16] (fun _ wr => LoadL w H X gj g q ⟨bt, bd, [], bn, false⟩ wr) (fun _ wr => q + f - endOf wr gj)
          case atStart => exact HJ0.out
          case round =>
            obtain ⟨j, W, R, hj, hlo, hjt, hjx, hWg, hR, hbb, hrb, hXg⟩ := hrel
            have hW : ∀ x ∈ W, w.heap.size ≤ x := fun x hx => Nat.le_trans hgj (hWg x hx)
            have HJ := Lib.hid hj
            have HLO := Lib.hid hlo
            have HBB := Lib.hid hbb
            have HRB := Lib.hid hrb
            obtain ⟨sa, sc, ra, rc, ms, HWE, hj'⟩ := hj
            obtain ⟨c0, c1, c2, c3, c4, c5⟩ := hj'.cells
            have f3 := hj'.froz 3
            have f4 := hj'.froz 4
            have hje := hj'.ok.e
            have hft : j.t % 2 * q + j.e = f + j.e := by have := HFT.out; simp only at hjt; rw [hjt, ← this]
            rw [hft] at c4
            have HJ' := Lib.hid hj'
            have HJT : Hid (j.t = bt) := hjt
            have hms : ms.length = j.rs.length := by rw [hj'.rs]; simp
            have HMS := Lib.hid hms
            have hmq : ms.length ≤ 50 := by have := hj'.ok.r; omega
            have HHW := Lib.hid HWE
            clear hlo hbb hrb hj' hft hms HWE c0 c1 c2 c5 hjt
            have HEND : Hid (endOf wr gj = f + j.e) := by show endOf wr gj = _; unfold endOf; rw [c4]; simp [intOf]; omega
            obtain ⟨je, HJE⟩ : ∃ x, Hid (j.e = x) := ⟨_, rfl⟩
            rw [HJE.out] at c4 hje HEND
            obtain ⟨fe, HFE⟩ : ∃ x, Hid (f + je = x) := ⟨_, rfl⟩
            rw [HFE.out] at c4 HEND
            have HSTOP : Hid (stepL H q j = none → LoadP w g D k (.returned (.tuple #[.pointer (some ⟨gj, 0, none⟩), .int .i64 0])) wr) := by
              intro hs
              refine ⟨HBB.out, .inr (.inr ⟨j, gj, W, R, HX.out, ?_, rfl, ?_, hW, hR⟩)⟩
              · rw [HL.out, ← HLO.out, loadR_none hs]
              · rw [HQ.out]; exact HJ.out
            by_cases hlt : je < q
            · have d1 : decide (fe < tt) = true := by have := HFE.out; have := HTO.out; simp; omega
              have es : (fe : Int) - (f : Int) = (je : Int) := by have := HFE.out; omega
              obtain ⟨lo, HLLO⟩ : ∃ x, Hid (je * 64 = x) := ⟨_, rfl⟩
              have em : (je : Int) * 64 = (lo : Int) := by have := HLLO.out; omega
              have hlon : lo ≤ n := by have := HLLO.out; have := HN64.out; omega
              have HPA := Lib.hid (parse_calls (cutA X lo c) (n - lo) (c - lo) (H.drop lo) wr (by rw [List.length_drop, HN.out]) (by omega) (by omega) (RB.cut HRB.out lo c (by rw [← HN.out]; exact hnc)) (by have := HN64.out; omega))
              have HDL : Hid ((H.drop lo).length = 64 * q - lo) := by show _ = _; rw [List.length_drop, HHN.out]
              have HLT := Lib.hid hlt
              have HLO4 : Hid (lo = 64 * j.e) := by show _ = _; rw [HJE.out]; have := HLLO.out; omega
              clear HSTOP hlt
              have hcut : ∀ w', (Instr.slice 29 (.slice X n c) (some (.int .i64 (lo : Int))) none none).run Try.prog w' = .ok (.slice (cutA X lo c) (n - lo) (c - lo)) w' := fun w' => run_cut_l Try.underlying29 (by kernel_rfl) Dk.size_u8 X n c lo hlon w'
              go_wp2_with fail
              refine HPA.out.mono ?_
              rintro e w4 ⟨hb4, hp4⟩
              have HB4 := Lib.hid (HBB.out.trans (hb4.mono HBB.out.size))
              have HJ4 := Lib.hid (HJ'.out.below hb4)
              have HRB4 := Lib.hid (HRB.out.below hb4)
              obtain ⟨c40, c41, c42, c43, c44, c45⟩ := HJ4.out.cells
              have hft4 : j.t % 2 * q + j.e = fe := by have := HFT.out; have h1 := HJT.out; have h2 := HJE.out; have h3 := HFE.out; rw [h1, h2, ← this]; exact h3
              rw [hft4] at c44
              have f43 := HJ4.out.froz 3
              have f44 := HJ4.out.froz 4
              have HFT4 := Lib.hid hft4
              have hs4 := hb4.size
              clear c4 f3 f4 HPA c40 c41 c42 c45 hft4
              have HSTOP4 : Hid (stepL H q j = none → LoadP w g D k (.returned (.tuple #[.pointer (some ⟨gj, 0, none⟩), .int .i64 0])) w4) := by
                intro hs
                refine ⟨HB4.out, .inr (.inr ⟨j, gj, W, R, HX.out, ?_, rfl, ?_, hW, hR⟩)⟩
                · rw [HL.out, ← HLO.out, loadR_none hs]
                · rw [HQ.out]; exact HJ.out.below hb4
              rcases hp4 with ⟨h0, rfl⟩ | ⟨b4, Y4, cy4, h0, rfl, hy4, hyc4, hym4, hyb4⟩
              · have HFF := Lib.hid (HSTOP4.out (stepL_no (by rw [← HLO4.out]; exact h0)))
                clear h0
                go_wp2_with fail
                go_ret2
                exact HFF.out
              · obtain ⟨p1, p2, p3, p4, p5, p6⟩ := parseB_ok _ b4 h0
                rw [HDL.out] at p5 p6
                by_cases ct4 : b4.t = bt
                · by_cases ci4 : b4.i = ms.length + 1
                  · have HSY : Hid (stepL H q j = some { j with rs := j.rs ++ [b4.d], e := j.e + b4.n }) := stepL_yes (by rw [HJE.out]; exact HLT.out) (by rw [← HLO4.out]; exact h0) ⟨by rw [ct4, HJT.out], by rw [ci4, HMS.out]⟩
                    have d2 : ((b4.t : Int) != (bt : Int)) = false := by rw [bne_eq_false_iff_eq]; omega
                    have d3 : ((b4.i : Int) != (ms.length : Int) + 1) = false := by rw [bne_eq_false_iff_eq]; omega
                    have hn4 : je + b4.n ≤ q := by have := HLLO.out; have := HLT.out; omega
                    have hd4 : b4.d.length ≤ 64 * q := by omega
                    have hrl := HJ4.out.ok.r
                    have hR4 : ∀ x ∈ bl Y4 ++ R, x < w4.heap.size := fun x hx => by
                      rcases List.mem_append.1 hx with hx | hx
                      · obtain ⟨off, rfl⟩ := mem_bl hx; exact (hyb4 _ _ rfl).2
                      · exact HJ4.out.rl x hx
                    have hYn : ∀ x ∈ bl Y4, wr.heap.size ≤ x := fun x hx => by obtain ⟨off, rfl⟩ := mem_bl hx; exact (hyb4 _ _ rfl).1
                    have hgl := (Array.getElem?_eq_some_iff.1 HJ'.out.hd).1
                    have hol : ∀ b, (Value.slice ra ms.length rc).ownBlock = some b → b < wr.heap.size := fun b hb => (HJ'.out.own.lt b hb).2
                    have HPU : Hid (∀ ra' rc' w1 e', je + b4.n = e' → App w4 (.slice ra ms.length rc) w1 (.slice ra' (ms.length + 1) rc') → w1.ownsRow 0 29 1 (.slice ra' (ms.length + 1) rc') (ms.length + 1) (ms.map rval ++ [rval ⟨Y4, cy4, b4.d⟩]) →
                        LoadL w H X gj g q ⟨bt, bd, [], bn, false⟩ ((w1.setCell ⟨gj, 3, none⟩ (.slice ra' (ms.length + 1) rc')).setCell ⟨gj, 4, none⟩ (.int .i64 ((f + e' : Nat) : Int)))) := by
                      intro ra' rc' w1 e' he' hA ho
                      have hp := HJ4.out.push (R' := bl Y4 ++ R) (e' := e') ⟨Y4, cy4, b4.d⟩ ⟨hy4, hyc4, hym4, fun _ b off e => List.mem_append_left _ (by rw [show Y4 = _ from e]; exact bl_mem)⟩ (fun x hx => List.mem_append_right _ hx) (fun hx => by
                          rcases List.mem_append.1 hx with hx | hx
                          · have := hYn _ hx; omega
                          · exact HJ4.out.gr hx) (fun b hb hx => by
                          rcases List.mem_append.1 hx with hx | hx
                          · have := hYn _ hx; have := hol b hb; omega
                          · exact (HJ4.out.ob b hb).2 hx) hR4 hA ho (by omega) (by have h1 := HMS.out; have h2 := HJE.out; rw [h2] at hrl; omega) hd4
                      have hft5 : j.t % 2 * q + e' = f + e' := by have := HFT.out; rw [HJT.out, ← this]
                      rw [hft5] at hp
                      have hcc : Chg (gj :: (Value.slice ra ms.length rc).ownBlock.toList) w4 ((w1.setCell ⟨gj, 3, none⟩ (.slice ra' (ms.length + 1) rc')).setCell ⟨gj, 4, none⟩ (.int .i64 ((f + e' : Nat) : Int))) :=
                        ((hA.chg (S := gj :: (Value.slice ra ms.length rc).ownBlock.toList) (by intro b hb; simp [hb])).setCell (p := ⟨gj, 3, none⟩) (.inl (by simp)) _).setCell (p := ⟨gj, 4, none⟩) (.inl (by simp)) _
                      have hWg' : ∀ x ∈ gj :: (Value.slice ra ms.length rc).ownBlock.toList, gj ≤ x := fun x hx => hWg x (by rw [HHW.out]; exact hx)
                      have hWn : ∀ x ∈ gj :: (Value.slice ra ms.length rc).ownBlock.toList, w.heap.size ≤ x := fun x hx => Nat.le_trans hgj (hWg' x hx)
                      have hb5 := HB4.out.trans (hcc.below HB4.out.size hWn)
                      refine ⟨_, _, _, ⟨_, _, _, _, _, rfl, hp⟩, ?_, ?_, ?_, ?_, ?_, hb5, RB.chg HRB4.out hcc (fun _ b off e hx => ?_), hXg⟩
                      · rw [← HLO.out, loadR_some HSY.out, HJE.out, he']
                      · exact HJT.out
                      · exact hjx
                      · intro x hx
                        simp only [List.mem_cons, Option.mem_toList, List.length_append, List.length_singleton] at hx
                        rcases hx with rfl | hx
                        · exact Nat.le_refl _
                        · rcases hA.2 with h2 | ⟨b', h2, h3⟩
                          · exact hWg' x (by rw [hx] at h2; simp [← h2])
                          · rw [hx] at h2; injection h2 with h2; subst h2; omega
                      · intro x hx
                        rcases List.mem_append.1 hx with hx | hx
                        · have := hYn x hx; have := HBB.out.size; omega
                        · exact hR x hx
                      · have := hXg b off e; have := hWg' _ hx; omega
                    obtain ⟨n4, HN4⟩ : ∃ x, Hid (b4.n = x) := ⟨_, rfl⟩
                    obtain ⟨d4, HD4⟩ : ∃ x, Hid (b4.d = x) := ⟨_, rfl⟩
                    obtain ⟨e4, HE4⟩ : ∃ x, Hid (je + b4.n = x) := ⟨_, rfl⟩
                    obtain ⟨fe4, HFE4⟩ : ∃ x, Hid (f + e4 = x) := ⟨_, rfl⟩
                    have hee : (fe : Int) + (n4 : Int) = (fe4 : Int) := by have := HFE4.out; have := HE4.out; have := HFE.out; have := HN4.out; omega
                    have hw4 : wrap64 (fe4 : Int) = (fe4 : Int) := w64_nat fe4 (by have := HFE4.out; have := HE4.out; omega)
                    have hge : q + f - fe4 < q + f - fe := meas_lt HE4.out HFE.out HFE4.out p4 hn4
                    rw [HD4.out] at hy4 hyc4 hd4 HPU ⊢
                    rw [HN4.out]
                    have hown4 : (w4.alloc (.cells #[.slice Y4 d4.length cy4] 29)).ownsRow 0 29 1 (.slice ra ms.length rc) ms.length (ms.map rval) := own_below HJ4.out.own (below1 _ _)
                    have HO4 := Lib.hid hown4
                    have HGB : Hid (w4.heap[gj]? = some (.cells (jcells g q j sa sc ra ms.length rc) 86 (0, 0)) ∧ ∀ b, (Value.slice ra ms.length rc).ownBlock = some b → b ≠ gj) := ⟨HJ4.out.hd, fun b hb => (HJ4.out.ob b hb).1⟩
                    have hmb : ms.length ≤ 50 := hmq
                    have HT4 : Hid ((jcells g q j sa sc ra ms.length rc)[4]? = some (.int .i64 (fe : Int))) := by show _ = _; unfold jcells; rw [HFT4.out]; rfl
                    clear h0 p1 p2 p3 p4 p5 p6 ct4 ci4 hn4 hrl hR4 hYn hgl hol hown4 hy4 HSY HSTOP4 hyb4
                    go_wp2_with (at_builtin; go_must (refine wpList_apps _ rfl (.tmp 109) (.tmp 111) 44 rfl 0 29 (.slice none 0 0) 24 Try.underlying44 info_sl rfl _ ms.length (ms.map rval) rfl HO4.out (some ⟨w4.heap.size, 0, none⟩) 1 1 [.slice Y4 d4.length cy4] rfl rfl (Rd.one w4 _ _) (by simp [Value.oneCell']) (by simp only [maxLen]; omega) (by omega) (Nat.zero_le _) ?_; intro ra5 rc5 w5 ho5 ha5; have HO5 := Lib.hid ho5; have HA5 := Lib.hid ha5.alloc_left; have hg5 := Lib.hid (HA5.out.old HGB.out.1 (fun e => HGB.out.2 _ e rfl)); have z3 : w5.cell? ⟨gj, 3, none⟩ = some (.slice ra ms.length rc) := (cell_of_row _ _ 3 _ _ _ hg5.out).trans rfl; have z4 : w5.cell? ⟨gj, 4, none⟩ = some (.int .i64 (fe : Int)) := (cell_of_row _ _ 4 _ _ _ hg5.out).trans HT4.out; have z3f : w5.frozen? ⟨gj, 3, none⟩ = false := frozen_of_row _ _ _ _ _ hg5.out; have z4f : w5.frozen? ⟨gj, 4, none⟩ = false := frozen_of_row _ _ _ _ _ hg5.out; clear ho5 ha5))
                    go_roundw
                    case rel => have h := HPU.out ra5 rc5 w5 e4 HE4.out HA5.out HO5.out; rw [HFE4.out] at h; exact h
                    case measure =>
                      rw [HEND.out]
                      have : endOf ((w5.setCell ⟨gj, 3, none⟩ (.slice ra5 (ms.length + 1) rc5)).setCell ⟨gj, 4, none⟩ (.int .i64 (fe4 : Int))) gj = fe4 := by
                        unfold endOf
                        rw [cell_of_row _ _ 4 _ _ _ (heap_setCell_same _ _ _ _ _ _ (heap_setCell_same _ _ _ _ _ _ hg5.out))]
                        simp [intOf, jcells]
                      rw [this]; exact hge
                  · have d2 : ((b4.t : Int) != (bt : Int)) = false := by rw [bne_eq_false_iff_eq]; omega
                    have d3 : ((b4.i : Int) != (ms.length : Int) + 1) = true := by rw [bne_iff_ne]; omega
                    have HFF := Lib.hid (HSTOP4.out (stepL_ne (by rw [← HLO4.out]; exact h0) (fun hc => ci4 (by rw [hc.2, HMS.out]))))
                    clear h0 ci4 ct4
                    go_wp2_with fail
                    go_ret2
                    exact HFF.out
                · have d2 : ((b4.t : Int) != (bt : Int)) = true := by rw [bne_iff_ne]; omega
                  have HFF := Lib.hid (HSTOP4.out (stepL_ne (by rw [← HLO4.out]; exact h0) (fun hc => ct4 (by rw [hc.1, HJT.out]))))
                  clear h0 ct4
                  go_wp2_with fail
                  go_ret2
                  exact HFF.out
            · have d1 : decide (fe < tt) = false := by have := HFE.out; have := HTO.out; simp; omega
              have HFF := Lib.hid (HSTOP.out (stepL_end (by rw [HJE.out]; exact hlt)))
              clear hlt
              go_wp2_with fail
              go_ret2
              exact HFF.out
        · have d1 : ((b.i : Int) != 0) = false := by rw [bne_eq_false_iff_eq]; omega
          have d2 : (((b.t : Int) % 2) != (k : Int)) = true := by rw [bne_iff_ne]; omega
          have HFF := Lib.hid (HF0.out (fun hc => ct hc.2))
          clear ci ct h0
          go_wp2_with fail
          go_ret2
          exact HFF.out
      · have d1 : ((b.i : Int) != 0) = true := by rw [bne_iff_ne]; omega
        have HFF := Lib.hid (HF0.out (fun hc => ci hc.1))
        clear ci h0
        go_wp2_with fail
        go_ret2
        exact HFF.out
end Jn
end Go.Proofs.Ytmdpmpfjldgalaa
