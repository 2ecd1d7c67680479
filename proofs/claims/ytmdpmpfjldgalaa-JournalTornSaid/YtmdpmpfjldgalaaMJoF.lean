/- The walk of the law JournalDurable. -/
import Derived.Test.YtmdpmpfjldgalaaMJoE
namespace Go.Proofs.Ytmdpmpfjldgalaa
open Go.RowKit
namespace Jn
open Dk Wi Wr

set_option maxRecDepth 100000 in
set_option maxHeartbeats 4000000 in
theorem jdurable_law (w : World) (sb : UInt8) (A : Option Addr) (n ca : Nat) (ms : List Om) (hn : ms.length = n) (hr : RdO w A ms) (hnm : n ≤ 9223372036854775807)
    (Z : Option Addr) (zn zc : Nat) (sv : List Int) (hz : sv.length = zn) (hrz : Rd w Z (sv.map (Value.int .i64))) (hzm : zn ≤ 9223372036854775807) :
    Calls Try.prog 5 #[vb sb, .slice A n ca, .slice Z zn zc] w fun e w' => e = .returned (.bool true) ∧ Below w.heap.size w w' := by
  have HN := Lib.hid hn
  have HR := Lib.hid hr
  have HZ := Lib.hid hz
  have HRZ := Lib.hid hrz
  have HFEW := Lib.hid (ofew_calls A n ca 20 ms w hn hr hnm)
  rw [show ((20 : Nat) : Int) = 20 from rfl] at HFEW
  clear hn hr hz hrz
  unfold vb
  go_enter Try.func5, Try.ntmps5
  go_wp2_with fail
  (with_reducible refine HFEW.out.mono ?_)
  rintro e w1 ⟨rfl, hb1⟩
  have HB1 := Lib.hid hb1
  have HAW := Lib.hid (oawake_calls w1)
  cases hf : fewO ms 20 with
  | false =>
    clear hb1 HFEW
    go_wp2_with fail
    (with_reducible refine HAW.out.mono ?_)
    rintro e w2 ⟨rfl, hb2⟩
    have HF := Lib.hid (HB1.out.trans (hb2.mono HB1.out.size))
    clear hb2
    go_wp2_with fail
    go_ret
    exact ⟨rfl, HF.out⟩
  | true =>
    obtain ⟨hall, hn20⟩ := fewO_of hf
    by_cases h10 : zn ≤ 10
    · have d2 : decide ((10 : Int) < (zn : Int)) = false := by simp; omega
      have HPC := Lib.hid (play_calls w1 sb A n ca ms HN.out (HR.out.below hb1) (fun m hm => (hall m hm).1) hnm)
      have HRZ1 := Lib.hid (HRZ.out.below hb1)
      clear hf hall hb1 HFEW HAW
      go_wp2_with fail
      (with_reducible refine HPC.out.mono ?_)
      rintro e w2 ⟨x, N, hN2, hN41, rfl, hpb⟩
      obtain ⟨g, q, F, D, j, hpj, hp, hDn⟩ := hpb.pj
      have HPJ := Lib.hid hpj
      have HP := Lib.hid hp
      have hD : D.n ≤ 100 := hp.hn
      have HCR := hpj.crash_calls Z zn zc sv HZ.out HRZ1.out
      rw [hp.crash sv] at HCR
      have HCRR := Lib.hid HCR
      have c0 := hpj.c0
      clear hpb hpj hp HCR HPC
      go_wp2_with fail
      (with_reducible refine HCRR.out.mono ?_)
      rintro e w3 ⟨rfl, hpj, _⟩
      have HOP := hpj.open_calls HP.out.open.1 HP.out.calm hD
      rw [HP.out.open.2] at HOP
      have HOPP := Lib.hid HOP
      have c3 := hpj.c0
      clear hpj HOP c0 HCRR
      go_wp2_with fail
      (with_reducible refine HOPP.out.mono ?_)
      rintro e w4 ⟨q2, rfl, htw, _⟩
      have HT := Lib.hid htw
      have HBW : Hid (Below w.heap.size w w4) := HB1.out.trans (htw.b.mono HB1.out.size)
      clear htw c3 HOPP
      have HS2 : ∀ u, Below w4.heap.size w4 u → Hid (Calls Try.prog 24 #[.pointer (some ⟨q2, 0, none⟩)] u fun e w' => ∃ v N, e = .returned v ∧ SmV w' N v j.t j.s j.rs ∧ Below u.heap.size u w') := fun u hu => (HT.out.below hu).seen2 hD
      have HS1 : ∀ u, Below w4.heap.size w4 u → Hid (Calls Try.prog 24 #[.pointer (some ⟨q, 0, none⟩)] u fun e w' => ∃ v N, e = .returned v ∧ SmV w' N v j.t j.s j.rs ∧ Below u.heap.size u w') := fun u hu => (HT.out.below hu).seen1 hD
      have HR2 : ∀ u, Below w4.heap.size w4 u → Hid (Calls Try.prog 25 #[.pointer (some ⟨q2, 0, none⟩)] u fun e w' => e = .returned (.int .i64 ((half D - j.e : Nat) : Int)) ∧ Below w4.heap.size w4 w') := fun u hu => ((HT.out.below hu).room2 hD).mono fun _ _ ⟨a, b⟩ => ⟨a, hu.trans (b.mono hu.size)⟩
      have HR1 : ∀ u, Below w4.heap.size w4 u → Hid (Calls Try.prog 25 #[.pointer (some ⟨q, 0, none⟩)] u fun e w' => e = .returned (.int .i64 ((half D - j.e : Nat) : Int)) ∧ Below w4.heap.size w4 w') := fun u hu => ((HT.out.below hu).room1 hD).mono fun _ _ ⟨a, b⟩ => ⟨a, hu.trans (b.mono hu.size)⟩
      have HSA : ∀ u v1 v2 N1 N2, Below w4.heap.size w4 u → SmV u N1 v1 j.t j.s j.rs → SmV u N2 v2 j.t j.s j.rs → Hid (Calls Try.prog 23 #[v1, v2] u fun e w' => e = .returned (.bool true) ∧ Below w4.heap.size w4 w') := fun u v1 v2 N1 N2 hu h1 h2 => by
        refine (rsame_calls v1 v2 N1 N2 j.t j.t j.s j.s j.rs j.rs u h1 h2 (HT.out.rs hD)).mono ?_
        rintro e w' ⟨rfl, b⟩
        exact ⟨by rw [sameJ_yes ⟨rfl, rfl, rfl⟩], hu.trans (b.mono hu.size)⟩
      have HAW4 : ∀ u, Below w4.heap.size w4 u → Hid (Calls Try.prog 11 #[] u fun e w' => e = .returned (.bool true) ∧ Below w4.heap.size w4 w') := fun u hu => (oawake_calls u).mono fun _ _ ⟨a, b⟩ => ⟨a, hu.trans (b.mono hu.size)⟩
      have c1 : ∀ u, Below w4.heap.size w4 u → u.cell? ⟨x, 1, none⟩ = some (.pointer (some ⟨q, 0, none⟩)) := fun u hu => (HT.out.below hu).c1
      generalize half D - j.e = rm at *
      go_upto_region 8 with (fail)
      go_region_held3 (fun w' => Below w4.heap.size w4 w') (first | exact (Below.refl _ _).drew | assumption) (first | (go_at_call 24; (with_reducible refine (HS2 _ (by assumption)).out.mono ?_); rintro e w5 ⟨v5, N5, rfl, hv5, hb5'⟩; have hb5 : Below w4.heap.size w4 w5 := Below.trans (by assumption) (hb5'.mono (Below.size (by assumption))); have HV5 := Lib.hid hv5; clear hv5 hb5') | (go_at_call 24; (with_reducible refine (HS1 w5 hb5).out.mono ?_); rintro e w6 ⟨v6, N6, rfl, hv6, hb6'⟩; have hb6 : Below w4.heap.size w4 w6 := hb5.trans (hb6'.mono hb5.size); have HV6 := Lib.hid hv6; have HV56 := Lib.hid (HV5.out.below hb6'); clear hv6 hb6') | (go_at_call 23; (with_reducible refine (HSA w6 v5 v6 N5 N6 hb6 HV56.out HV6.out).out.mono ?_); rintro e w7 ⟨rfl, hb7⟩) | (go_at_call 25; (with_reducible refine (HR2 _ (by assumption)).out.mono ?_); rintro e w8 ⟨rfl, hb8⟩) | (go_at_call 25; (with_reducible refine (HR1 _ (by assumption)).out.mono ?_); rintro e w9 ⟨rfl, hb9⟩) | (go_at_call 11; (with_reducible refine (HAW4 _ (by assumption)).out.mono ?_); rintro e w10 ⟨rfl, hb10⟩))
      have HF : Hid (Below w.heap.size w w10) := HBW.out.trans (hb10.mono HBW.out.size)
      go_wp2_with fail
      go_ret
      exact ⟨rfl, HF.out⟩
    · have d2 : decide ((10 : Int) < (zn : Int)) = true := by simp; omega
      clear hf hall hb1 HFEW
      go_wp2_with fail
      (with_reducible refine HAW.out.mono ?_)
      rintro e w2 ⟨rfl, hb2⟩
      have HF := Lib.hid (HB1.out.trans (hb2.mono HB1.out.size))
      clear hb2
      go_wp2_with fail
      go_ret
      exact ⟨rfl, HF.out⟩
end Jn
end Go.Proofs.Ytmdpmpfjldgalaa
