/- The walks of refmeshref04.Seal and refmeshref04.Open. -/
import Derived.Test.YtgmeppjpiljifaaCkF
namespace Go.Proofs.Ytgmeppjpiljifaa
open Go.RowKit
namespace Ck

/-- a word without its first k bytes -/
def sr (c : BitVec 64) (k : Nat) : BitVec 64 := c >>> (8 * k)
theorem sr_mod (c : BitVec 64) (k : Nat) : ((sr c k).toNat : Int) % 256 = ((Crc.leb c k).toNat : Int) := by
  rw [Crc.leb_toNat]; unfold sr; rw [BitVec.toNat_ushiftRight, Nat.shiftRight_eq_div_pow]; omega
theorem sr_div (c : BitVec 64) (k : Nat) : ((sr c k).toNat : Int) / 256 = ((sr c (k + 1)).toNat : Int) := by
  have : (sr c (k + 1)).toNat = (sr c k).toNat / 256 := by
    unfold sr; rw [BitVec.toNat_ushiftRight, BitVec.toNat_ushiftRight, Nat.shiftRight_eq_div_pow, Nat.shiftRight_eq_div_pow, Nat.div_div_eq_div_mul]
    congr 1
    rw [show 8 * (k + 1) = 8 * k + 8 by omega, Nat.pow_add]
  rw [this]; omega

set_option maxRecDepth 100000 in
theorem rseal_calls (A : Option Addr) (n cap : Nat) (l : List UInt8) (w : World) (hn : l.length = n) (hm : n ≤ 1099511627776) (hr : RB w A l) :
    Calls Try.prog 19 #[.slice A n cap] w fun e w' => ∃ v, e = .returned v ∧ w'.ownsRow w.heap.size 5 1 v (n + 8) ((Crc.sealed l).map vb) ∧ Below w.heap.size w w' := by
  have HS := fun w1 hb => Lib.hid (rsum_calls A n cap l w1 hn (by simp only [maxLen]; omega) (hr.below hb))
  have HR := Lib.hid hr
  have HN := Lib.hid hn
  clear hn hr
  go_enter Try.func19, Try.ntmps19
  go_wp2_with (at_builtin; refine wpList_app _ rfl _ _ 23 rfl w.heap.size 5 (.int .u8 0) 1 Try.underlying23 info_u8 rfl _ 0 [] rfl (World.ownsRow_made _ _ 0 (Nat.le_refl _) (by simp [maxLen]) rfl) A n cap (l.map vb) rfl (by rw [List.length_map]; exact HN.out) (Rd.alloc HR.out _) (vb_one _) (by simp only [maxLen]; omega) (by omega) (by simp) ?_; intro v2 w2 hown2 happ2)
  have hb2 : Below w.heap.size w w2 := ((Below.refl _ _).alloc (Nat.le_refl _) _).trans (happ2.below (World.ownsRow_made _ _ 0 (Nat.le_refl _) (by simp [maxLen]) rfl) (by simp))
  have hown2' : w2.ownsRow w.heap.size 5 1 v2 n (l.map vb) := by simpa using hown2
  clear hown2 happ2
  refine (HS w2 hb2).out.mono ?_
  rintro e w3 ⟨rfl, rfl⟩
  have HSE : Hid (Crc.sealed l = l ++ Crc.le8 (Crc.sum l)) := rfl
  generalize Crc.sum l = c at *
  clear HS
  have HB := Lib.hid hb2
  have HO := Lib.hid hown2'
  clear hb2 hown2'
  go_wp2_with fail
  go_loopw [5, 3, 4] (fun i v s wr => ∃ k : Nat, k ≤ 8 ∧ i = .int .i64 k ∧ s = vw (sr c k) ∧ wr.ownsRow w.heap.size 5 1 v (n + k) ((l ++ (Crc.le8 c).take k).map vb) ∧ Below w.heap.size w wr) (fun i _ _ _ => 8 - (intOf i).toNat)
  case atStart => exact ⟨0, by omega, rfl, rfl, by simpa using HO.out, HB.out⟩
  case round =>
    obtain ⟨k, hk, rfl, rfl, hown, hbel⟩ := hrel
    clear HB HO
    have HO := Lib.hid hown
    have HB := Lib.hid hbel
    clear hown hbel
    by_cases hlt : k < 8
    · have hd : decide ((k : Int) < 8) = true := by simp; omega
      have hby := sr_mod c k
      have hdv := sr_div c k
      have HT := Lib.hid (Crc.le8_take_succ c k hlt)
      generalize Crc.leb c k = y at *
      have hyb : y.toNat < 256 := y.toNat_lt
      go_wp2_with (at_builtin; refine wpList_app _ rfl _ _ 23 rfl w.heap.size 5 (.int .u8 0) 1 Try.underlying23 info_u8 rfl _ _ _ rfl (HO.out.alloc _) (some ⟨wr.heap.size, 0, none⟩) 1 1 [vb y] rfl rfl (Rd.one _ _ _) (vb_one [y]) (by simp only [maxLen]; omega) (by omega) (Nat.le_trans HB.out.size (by simp)) ?_; intro v5 w5 hown5 happ5)
      have hb5 : Below w.heap.size w w5 := (HB.out.alloc HB.out.size _).trans (happ5.below (HO.out.alloc _) (Nat.le_trans HB.out.size (by simp)))
      have hown6 : w5.ownsRow w.heap.size 5 1 v5 (n + (k + 1)) ((l ++ (Crc.le8 c).take (k + 1)).map vb) := by
        rw [HT.out]; simpa [Nat.add_assoc] using hown5
      clear hown5 happ5 HO HB
      have HO := Lib.hid hown6
      have HB := Lib.hid hb5
      clear hown6 hb5
      go_wp2_with fail
      go_roundw
      case rel => exact ⟨k + 1, by omega, by go_num, rfl, HO.out, HB.out⟩
      case measure => simp [intOf]; omega
    · obtain rfl : k = 8 := by omega
      go_wp2_with fail
      go_ret
      have := HO.out
      rw [List.take_of_length_le (by simp [Crc.le8_length])] at this
      exact ⟨_, rfl, by rw [HSE.out]; exact this, HB.out⟩

theorem sealed_get (l : List UInt8) (n k : Nat) (hl : l.length = n) (hk : k < 8) : (Crc.sealed l)[n + k]? = some (Crc.leb (Crc.sum l) k) := by
  unfold Crc.sealed
  rw [List.getElem?_append_right (by omega), show n + k - l.length = k by omega]
  simp [Crc.le8, hk]

set_option maxRecDepth 100000 in
theorem ropen_calls (A : Option Addr) (m cap : Nat) (l : List UInt8) (w : World) (hl : l.length = m) (hmc : m ≤ cap) (hm : m ≤ 1099511627776) (hr : RB w A l) :
    Calls Try.prog 20 #[.slice A m cap] w (OpenPost w l) := by
  by_cases h8 : m < 8
  · have hd : decide ((m : Int) < 8) = true := by simp; omega
    have HN := Lib.hid (Crc.opened_short l (by omega))
    clear hl hr
    go_enter Try.func20, Try.ntmps20
    go_wp2_with fail
    go_ret2
    exact ⟨Below.refl _ _, .inl ⟨HN.out, rfl⟩⟩
  · obtain ⟨n, rfl⟩ : ∃ n, m = n + 8 := ⟨m - 8, by omega⟩
    have hd : decide ((n : Int) + 8 < 8) = false := by simp; omega
    have hsub : ((n + 8 : Nat) : Int) - 8 = (n : Int) := by omega
    have HS := Lib.hid (rseal_calls A n cap (l.take n) w (by simp; omega) (by omega) (hr.take n))
    have HG := Lib.hid (fun k => sealed_get (l.take n) n k (by simp; omega))
    have HL := Lib.hid hl
    obtain ⟨b, off, rfl, hb0, hc⟩ := hr.cells (by omega)
    have HC : Hid (∀ k (hk : k < 8), w.cell? ⟨b, off + (n + k), none⟩ = some (vb (l[n + k]'(by omega)))) := fun k hk => hc (n + k) (by omega)
    have HT := Lib.hid (hr.take n)
    have HY := Lib.hid (Crc.opened_yes l n hl)
    have HNo := Lib.hid (Crc.opened_no l n)
    have HM := Lib.hid (Crc.match_succ l n)
    have HMA := Lib.hid (Crc.match_all l n)
    generalize Crc.sealed (l.take n) = sl at *
    generalize Crc.sum (l.take n) = c at *
    clear hc hr
    have i1 : (n : Int) ≤ (cap : Int) := by omega
    go_enter Try.func20, Try.ntmps20
    go_wp2_with fail
    refine HS.out.mono ?_
    rintro e w1 ⟨v, rfl, hown, hb1⟩
    obtain ⟨X, cx, rfl, _, _, hlx, hrx⟩ := own_form hown
    obtain ⟨bx, ox, rfl, _, hcx⟩ := Rd.cells hrx (by omega)
    have HCX : Hid (∀ k, k < 8 → w1.cell? ⟨bx, ox + (n + k), none⟩ = some (vb (Crc.leb c k))) := fun k hk => by
      refine hcx (n + k) _ ?_
      rw [List.getElem?_map, HG.out k hk]; rfl
    have HB := Lib.hid hb1
    clear hb1 HS HG hcx hrx hlx hown
    go_wp2_with fail
    go_loopw [6] (fun i wr => ∃ k q : Nat, k ≤ 8 ∧ i = .int .i64 (n + k : Nat) ∧ wr = w1.drewN q ∧ (l.drop n).take k = (Crc.le8 c).take k) (fun i _ => n + 8 - (intOf i).toNat)
    case atStart => exact ⟨0, 0, by omega, rfl, rfl, rfl⟩
    case round =>
      obtain ⟨k, q, hk, rfl, rfl, hp⟩ := hrel
      have HP := Lib.hid hp
      clear hp
      by_cases hlt : k < 8
      · have hd2 : decide (n + k < n + 8) = true := by simp; omega
        have hd3 : decide ((k : Int) < 8) = true := by simp; omega
        have hcell : w1.cell? ⟨b, off + (n + k), none⟩ = some (vb (l[n + k]'(by omega))) := (HB.out.cell hb0).trans (HC.out k hlt)
        have hcx := HCX.out k hlt
        have HMk := Lib.hid (HM.out k c HL.out hlt HP.out)
        have HNk := Lib.hid (HNo.out k HL.out hlt)
        generalize l[n + k]'(by omega) = x at *
        generalize Crc.leb c k = y at *
        clear HC HT HY HM HMA HNo hl HCX
        have j0 : (0 : Int) ≤ ((n + k : Nat) : Int) := by omega
        have j1 : ((n + k : Nat) : Int) < ((n + 8 : Nat) : Int) := by omega
        by_cases hxy : x = y
        · have hne := int_ne_false hxy.symm
          have HXY := Lib.hid hxy
          clear hxy
          go_wp2_with fail
          go_quiet (fail)
          go_wp2_with fail
          go_roundw
          case rel => exact ⟨k + 1, q + nq, by omega, by go_num, rfl, HMk.out HXY.out⟩
          case measure => simp [intOf]; omega
        · have hne := int_ne_true (Ne.symm hxy)
          go_wp2_with fail
          go_quiet (fail)
          go_wp2_with fail
          go_ret2
          exact ⟨⟨HB.out.os, HB.out.tape, HB.out.output, HB.out.size, HB.out.block⟩, .inl ⟨HNk.out hxy, rfl⟩⟩
      · obtain rfl : k = 8 := by omega
        have HO := Lib.hid (HY.out (HMA.out c HL.out HP.out))
        have HT2 := Lib.hid (HT.out.below HB.out)
        have HLen : Hid ((l.take n).length = n) := by show _ = n; simp; omega
        have HBq : Hid (Below w.heap.size w (w1.drewN q)) := ⟨HB.out.os, HB.out.tape, HB.out.output, HB.out.size, HB.out.block⟩
        have HT3 : Hid (RB (w1.drewN q) (some ⟨b, off, none⟩) (l.take n)) := HT2.out
        clear HC HT HY HM HMA HNo hl HP HCX HT2 HB
        generalize w1.drewN q = w2 at *
        go_wp2_with (at_builtin; refine wpList_app _ rfl _ _ 23 rfl w2.heap.size 5 (.int .u8 0) 1 Try.underlying23 info_u8 rfl _ 0 [] rfl (World.ownsRow_made _ _ 0 (Nat.le_refl _) (by simp [maxLen]) rfl) (some ⟨b, off, none⟩) n cap ((l.take n).map vb) rfl (by rw [List.length_map]; exact HLen.out) (Rd.alloc HT3.out _) (vb_one _) (by simp only [maxLen]; omega) (by omega) (by simp) ?_; intro v5 w5 hown5 happ5)
        have hb5 : Below w2.heap.size w2 w5 := ((Below.refl _ _).alloc (Nat.le_refl _) _).trans (happ5.below (World.ownsRow_made _ _ 0 (Nat.le_refl _) (by simp [maxLen]) rfl) (by simp))
        have HO5 : Hid (w5.ownsRow w.heap.size 5 1 v5 (l.take n).length ((l.take n).map vb)) := by
          show World.ownsRow _ _ _ _ _ _ _
          rw [HLen.out]
          exact own_base (by simpa using hown5) HBq.out.size
        have HB5 := Lib.hid (HBq.out.trans (hb5.mono HBq.out.size))
        clear hown5 happ5 hb5
        go_wp2_with fail
        go_ret2
        exact ⟨HB5.out, .inr ⟨_, v5, HO.out, rfl, HO5.out⟩⟩
end Ck
end Go.Proofs.Ytgmeppjpiljifaa
