/- The walk of checksum.Open. -/
import Derived.Test.YtgmeppjpiljifaaCkE
import Derived.Deep.RegionHeld3
import Derived.Deep.QuietTactic
import Derived.BigQuiet
namespace Go.Proofs.Ytgmeppjpiljifaa
open Go.RowKit
namespace Ck

/-- what both Opens leave -/
def OpenPost (w : World) (l : List UInt8) (e : Ending) (w' : World) : Prop :=
  Below w.heap.size w w' ∧ ((Crc.opened l = none ∧ e = .returned (.tuple #[.slice none 0 0, .int .i64 11])) ∨
    ∃ x v, Crc.opened l = some x ∧ e = .returned (.tuple #[v, .int .i64 0]) ∧ w'.ownsRow w.heap.size 5 1 v x.length (x.map vb))

theorem int_ne_true {x y : UInt8} (h : x ≠ y) : ((x.toNat : Int) != (y.toNat : Int)) = true := by
  rw [bne_iff_ne]; intro hc; exact h (UInt8.toNat_inj.1 (by omega))
theorem int_ne_false {x y : UInt8} (h : x = y) : ((x.toNat : Int) != (y.toNat : Int)) = false := by
  subst h; simp

set_option maxRecDepth 100000 in
theorem open_calls (A : Option Addr) (m cap : Nat) (l : List UInt8) (w : World) (hl : l.length = m) (hmc : m ≤ cap) (hm : m ≤ 1099511627776) (hr : RB w A l) :
    Calls Try.prog 18 #[.slice A m cap] w (OpenPost w l) := by
  by_cases h8 : m < 8
  · have hd : decide ((m : Int) - 8 < 0) = true := by simp; omega
    have HN := Lib.hid (Crc.opened_short l (by omega))
    clear hl hr
    go_enter Try.func18, Try.ntmps18
    go_wp2_with fail
    go_ret2
    exact ⟨Below.refl _ _, .inl ⟨HN.out, rfl⟩⟩
  · obtain ⟨n, rfl⟩ : ∃ n, m = n + 8 := ⟨m - 8, by omega⟩
    have hd : decide ((n : Int) < 0) = false := by simp
    have hsub : ((n + 8 : Nat) : Int) - 8 = (n : Int) := by omega
    have HS := Lib.hid (sum_calls A n cap (l.take n) w (by simp; omega) (by simp only [maxLen]; omega) (hr.take n))
    have HL := Lib.hid hl
    obtain ⟨b, off, rfl, hb0, hc⟩ := hr.cells (by omega)
    have HC : Hid (∀ k (hk : k < 8), w.cell? ⟨b, off + n + k, none⟩ = some (vb (l[n + k]'(by omega)))) := fun k hk => by
      rw [Nat.add_assoc]; exact hc (n + k) (by omega)
    have HT := Lib.hid (hr.take n)
    have HY := Lib.hid (Crc.opened_yes l n hl)
    have HNo := Lib.hid (Crc.opened_no l n)
    have HM := Lib.hid (Crc.match_succ l n)
    have HMA := Lib.hid (Crc.match_all l n)
    generalize Crc.sum (l.take n) = c at *
    clear hc hr
    have hcn : ¬ cap = n := by omega
    have i1 : (n : Int) ≤ (cap : Int) := by omega
    go_enter Try.func18, Try.ntmps18
    go_wp2_with fail
    refine HS.out.mono ?_
    rintro e w1 ⟨rfl, hb1⟩
    have HB := Lib.hid hb1
    clear hb1 HS
    go_wp2_with fail
    go_loop [21] (fun i => ∃ k : Nat, k ≤ 8 ∧ i = .int .i64 k ∧ (l.drop n).take k = (Crc.le8 c).take k) (fun i => 8 - (intOf i).toNat)
    case atStart => exact ⟨0, by omega, rfl, rfl⟩
    case round =>
      obtain ⟨k, hk, rfl, hp⟩ := hrel
      have HP := Lib.hid hp
      clear hp
      by_cases hlt : k < 8
      · have hd2 : decide ((k : Int) < 8) = true := by simp; omega
        have hcell : w1.cell? ⟨b, off + n + k, none⟩ = some (vb (l[n + k]'(by omega))) := (HB.out.cell hb0).trans (HC.out k hlt)
        have hby := leb_bits c k
        have HMk := Lib.hid (HM.out k c HL.out hlt HP.out)
        have HNk := Lib.hid (HNo.out k HL.out hlt)
        generalize l[n + k]'(by omega) = x at *
        generalize Crc.leb c k = y at *
        clear HC HT HY HM HMA HNo hl
        by_cases hxy : x = y
        · have hne := int_ne_false hxy
          have HXY := Lib.hid hxy
          clear hxy
          go_wp2_with fail
          go_round
          case rel => exact ⟨k + 1, by omega, by go_num, HMk.out HXY.out⟩
          case measure => simp [intOf]; omega
        · have hne := int_ne_true hxy
          go_wp2_with fail
          go_ret2
          exact ⟨HB.out, .inl ⟨HNk.out hxy, rfl⟩⟩
      · obtain rfl : k = 8 := by omega
        have HO := Lib.hid (HY.out (HMA.out c HL.out HP.out))
        have HT2 := Lib.hid (HT.out.below HB.out)
        have HLen : Hid ((l.take n).length = n) := by show _ = n; simp; omega
        clear HC HT HY HM HMA HNo hl HP
        go_wp2_with (at_builtin; refine wpList_app _ rfl _ _ 23 rfl w1.heap.size 5 (.int .u8 0) 1 Try.underlying23 info_u8 rfl _ 0 [] rfl (World.ownsRow_made _ _ 0 (Nat.le_refl _) (by simp [maxLen]) rfl) (some ⟨b, off, none⟩) n cap ((l.take n).map vb) rfl (by rw [List.length_map]; exact HLen.out) (Rd.alloc HT2.out _) (vb_one _) (by simp only [maxLen]; omega) (by omega) (by simp) ?_; intro v5 w5 hown5 happ5)
        have hb5 : Below w1.heap.size w1 w5 := ((Below.refl _ _).alloc (Nat.le_refl _) _).trans (happ5.below (World.ownsRow_made _ _ 0 (Nat.le_refl _) (by simp [maxLen]) rfl) (by simp))
        have HO5 : Hid (w5.ownsRow w.heap.size 5 1 v5 (l.take n).length ((l.take n).map vb)) := by
          show World.ownsRow _ _ _ _ _ _ _
          rw [HLen.out]
          exact own_base (by simpa using hown5) HB.out.size
        have HB5 := Lib.hid (HB.out.trans (hb5.mono HB.out.size))
        clear hown5 happ5 hb5
        go_wp2_with fail
        go_ret2
        exact ⟨HB5.out, .inr ⟨_, v5, HO.out, rfl, HO5.out⟩⟩
end Ck
end Go.Proofs.Ytgmeppjpiljifaa
