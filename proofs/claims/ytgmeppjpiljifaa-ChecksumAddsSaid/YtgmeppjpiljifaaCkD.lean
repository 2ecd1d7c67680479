/- The walks of checksum.Seal and refmeshref04.Seal. -/
import Derived.Test.YtgmeppjpiljifaaCkC
namespace Go.Proofs.Ytgmeppjpiljifaa
open Go.RowKit
namespace Ck

theorem info_u8 : (Try.prog.info? 5).map (fun i => (i.zero, i.size, i.bytes)) = some (some (.int .u8 0), 1, 1) := by kernel_rfl

theorem leb_bits (c : BitVec 64) (k : Nat) : (c.toNat : Int) / 2 ^ (8 * k) % 256 = ((Crc.leb c k).toNat : Int) := by
  rw [Crc.leb_toNat, Int.natCast_emod, Int.natCast_ediv, Int.natCast_pow]; rfl

set_option maxRecDepth 100000 in
theorem seal_calls (A : Option Addr) (n cap : Nat) (l : List UInt8) (w : World) (hn : l.length = n) (hm : n ≤ 1099511627776) (hr : RB w A l) :
    Calls Try.prog 17 #[.slice A n cap] w fun e w' => ∃ v, e = .returned v ∧ w'.ownsRow w.heap.size 5 1 v (n + 8) ((Crc.sealed l).map vb) ∧ Below w.heap.size w w' := by
  obtain ⟨i0, hi, hz0, hz1, hz2⟩ := info_parts info_u8
  have HS := fun w1 hb => Lib.hid (sum_calls A n cap l w1 hn (by simp only [maxLen]; omega) (hr.below hb))
  have HR := Lib.hid hr
  have HN := Lib.hid hn
  clear hn hr
  go_enter Try.func17, Try.ntmps17
  go_wp2_with (first
    | (at_make; refine wpList_make_own _ rfl _ _ 23 rfl w.heap.size 5 i0 (.int .u8 0) 1 Try.underlying23 hi hz0 hz1 .i64 .i64 _ (n + 8) rfl rfl (by omega) (by rw [hz2]; omega) (by simp only [maxLen]; omega) (Nat.le_refl _) ?_; intro w1 hown1 hg1)
    | (at_builtin; refine wpList_app _ rfl _ _ 23 rfl w.heap.size 5 (.int .u8 0) 1 Try.underlying23 info_u8 rfl (.slice (some ⟨w.heap.size, 0, none⟩) 0 (n + 8)) 0 [] rfl hown1 A n cap (l.map vb) rfl (by rw [List.length_map]; exact HN.out) (HR.out.below ((Below.refl _ _).grown hg1 (Nat.le_refl _) (by simp))) (vb_one _) (by simp only [maxLen]; omega) (by omega) hg1.size ?_; intro v2 w2 hown2 happ2))
  have hb2 : Below w.heap.size w w2 := (((Below.refl _ _).grown hg1 (Nat.le_refl _) (by simp)).trans (happ2.below hown1 hg1.size))
  have hown2' : w2.ownsRow w.heap.size 5 1 v2 n (l.map vb) := by simpa using hown2
  clear hown1 hown2 happ2 hg1
  refine (HS w2 hb2).out.mono ?_
  rintro e w3 ⟨rfl, hb3⟩
  have hown3 := own_below hown2' hb3
  have hb := hb2.trans (hb3.mono hb2.size)
  have HSE : Hid (Crc.sealed l = l ++ Crc.le8 (Crc.sum l)) := rfl
  generalize Crc.sum l = c at *
  clear hb2 hown2' hb3 HS
  have HB := Lib.hid hb
  have HO := Lib.hid hown3
  clear hb hown3
  go_wp2_with fail
  go_loopw [14, 3] (fun i v wr => ∃ k : Nat, k ≤ 8 ∧ i = .int .i64 k ∧ wr.ownsRow w.heap.size 5 1 v (n + k) ((l ++ (Crc.le8 c).take k).map vb) ∧ Below w.heap.size w wr) (fun i _ _ => 8 - (intOf i).toNat)
  case atStart => exact ⟨0, by omega, rfl, by simpa using HO.out, HB.out⟩
  case round =>
    obtain ⟨k, hk, rfl, hown, hbel⟩ := hrel
    clear HB HO
    by_cases hlt : k < 8
    · have hd : decide ((k : Int) < 8) = true := by simp; omega
      have hby := leb_bits c k
      have HT := Lib.hid (Crc.le8_take_succ c k hlt)
      generalize Crc.leb c k = y at *
      have HO := Lib.hid hown
      have HB := Lib.hid hbel
      clear hown hbel
      go_wp2_with (at_builtin; refine wpList_app _ rfl _ _ 23 rfl w.heap.size 5 (.int .u8 0) 1 Try.underlying23 info_u8 rfl _ _ _ rfl (HO.out.alloc _) (some ⟨wr.heap.size, 0, none⟩) 1 1 [vb y] rfl rfl (Rd.one _ _ _) (vb_one [y]) (by simp only [maxLen]; omega) (by omega) (Nat.le_trans HB.out.size (by simp)) ?_; intro v5 w5 hown5 happ5)
      have hb5 : Below w.heap.size w w5 := (HB.out.alloc HB.out.size _).trans (happ5.below (HO.out.alloc _) (Nat.le_trans HB.out.size (by simp)))
      have hown6 : w5.ownsRow w.heap.size 5 1 v5 (n + (k + 1)) ((l ++ (Crc.le8 c).take (k + 1)).map vb) := by
        rw [HT.out]; simpa [Nat.add_assoc] using hown5
      clear hown5 happ5 HO HB
      have HO := Lib.hid hown6
      have HB := Lib.hid hb5
      clear hown6 hb5
      go_wp2_with fail
      go_roundw
      case rel => exact ⟨k + 1, by omega, by go_num, HO.out, HB.out⟩
      case measure => simp [intOf]; omega
    · obtain rfl : k = 8 := by omega
      have HO := Lib.hid hown
      have HB := Lib.hid hbel
      clear hown hbel
      go_wp2_with fail
      go_ret
      have := HO.out
      rw [List.take_of_length_le (by simp [Crc.le8_length])] at this
      exact ⟨_, rfl, by rw [HSE.out]; exact this, HB.out⟩
end Ck
end Go.Proofs.Ytgmeppjpiljifaa
