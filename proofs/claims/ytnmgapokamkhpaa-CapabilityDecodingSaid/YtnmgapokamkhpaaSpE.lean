/- The walks of refmeshref03: word, Sum. -/
import Derived.Test.YtnmgapokamkhpaaSpD
namespace Go.Proofs.Ytnmgapokamkhpaa
open Go.RowKit
namespace Sp
open Sip

theorem tail_bv2 (n : Nat) : (n : Int) % 256 * 72057594037927936 = ((tail n).toNat : Int) := by
  have h := tail_bv n
  rw [Int.tmod_eq_emod_of_nonneg (by omega), show IntKind.u64.wrap ((n : Int) % 256) = (n : Int) % 256 by rw [IntKind.wrap_u64]; omega, IntKind.wrap_u64] at h
  omega

set_option maxRecDepth 100000 in
set_option maxHeartbeats 1000000 in
theorem rword_calls (A : Option Addr) (n cap : Nat) (l : List UInt8) (at' : Nat) (w : World) (hn : l.length = n) (hr : RB w A l) (hc : n ≤ 1000000) (ha : at' ≤ n) :
    Calls Try.prog 36 #[.slice A n cap, .int .i64 at'] w fun e w' => e = .returned (vw (rword l at')) ∧ w = w' := by
  have HN := Lib.hid hn
  have HR := Lib.hid hr
  clear hn hr
  go_enter Try.func36, Try.ntmps36
  go_wp2_with fail
  go_loop [5, 6] (fun m i => ∃ k : Nat, k ≤ 8 ∧ i = .int .i64 k ∧ m = vw (pw l at' k)) (fun _ i => 8 - (intOf i).toNat)
  case atStart => exact ⟨0, Nat.zero_le _, rfl, rfl⟩
  case round =>
    obtain ⟨k, hk, rfl, rfl⟩ := hrel
    by_cases hlt : k < 8
    · have d0 : decide ((k : Int) < 8) = true := by simp; omega
      by_cases hin : at' + k < n
      · have hil : at' + k < l.length := by have := HN.out; omega
        obtain ⟨b, off, rfl, _, hcl⟩ := RB.cells HR.out (by omega)
        have x0 := hcl (at' + k) hil
        have HP := Lib.hid (pw_get l at' k hil)
        have i0 : (0 : Int) ≤ (at' : Int) + (k : Int) := by omega
        have i1 : (at' : Int) + (k : Int) < (n : Int) := by omega
        generalize l[at' + k] = c at *
        generalize pw l at' k = m at *
        clear hcl
        go_wp2_with fail
        go_round
        case rel => exact ⟨k + 1, by omega, by go_num, by rw [HP.out, wsh, or_bv]⟩
        case measure => simp [intOf]; omega
      · have HP : Hid (pw l at' (k + 1) = pw l at' k) := pw_short l at' k 1 (by have := HN.out; omega)
        generalize pw l at' k = m at *
        go_wp2_with fail
        go_round
        case rel => exact ⟨k + 1, by omega, by go_num, by rw [HP.out]⟩
        case measure => simp [intOf]; omega
    · obtain rfl : k = 8 := by omega
      by_cases h8 : n < at' + 8
      · have HW : Hid (rword l at' = pw l at' 8 ||| tail n) := by show _ = _; unfold rword; rw [if_pos (by have := HN.out; omega), HN.out]
        generalize pw l at' 8 = m at *
        go_wp2_with fail
        go_ret
        refine ⟨?_, rfl⟩
        rw [HW.out]
        show Ending.returned (.int .u64 (bits .or .u64 (m.toNat : Int) ((n : Int) % 256 * 72057594037927936))) = _
        rw [tail_bv2, or_bv]
      · have HW : Hid (rword l at' = pw l at' 8) := by show _ = _; unfold rword; rw [if_neg (by have := HN.out; omega)]
        generalize pw l at' 8 = m at *
        go_wp2_with fail
        go_ret
        exact ⟨by rw [HW.out]; rfl, rfl⟩

theorem chg_set4 (w : World) (R : Nat) (x y z t : Value) : Chg [R] w ((((w.setCell ⟨R, 0, none⟩ x).setCell ⟨R, 1, none⟩ y).setCell ⟨R, 2, none⟩ z).setCell ⟨R, 3, none⟩ t) :=
  (chg_set3 w R x y z).setCell (p := ⟨R, 3, none⟩) (.inl (by simp)) t


set_option maxRecDepth 100000 in
set_option maxHeartbeats 2000000 in
theorem rsum_calls (k0 k1 : BitVec 64) (A : Option Addr) (n cap : Nat) (l : List UInt8) (w : World) (hn : l.length = n) (hr : RB w A l) (hc : n ≤ 1000000) :
    Calls Try.prog 29 #[key k0 k1, .slice A n cap] w fun e w' => e = .returned (vw (rsum k0 k1 l)) ∧ Below w.heap.size w w' := by
  have HN := Lib.hid hn
  have HR := Lib.hid hr
  clear hn hr
  unfold key
  go_enter Try.func29, Try.ntmps29
  go_wp2_with fail
  rw [show bits .xor .u64 (k0.toNat : Int) (8317987319222330741 : Int) = ((k0 ^^^ 8317987319222330741#64).toNat : Int) from xor_bv k0 8317987319222330741#64, show bits .xor .u64 (k1.toNat : Int) (7237128888997146477 : Int) = ((k1 ^^^ 7237128888997146477#64).toNat : Int) from xor_bv k1 7237128888997146477#64, show bits .xor .u64 (k0.toNat : Int) (7816392313619706465 : Int) = ((k0 ^^^ 7816392313619706465#64).toNat : Int) from xor_bv k0 7816392313619706465#64, show bits .xor .u64 (k1.toNat : Int) (8387220255154660723 : Int) = ((k1 ^^^ 8387220255154660723#64).toNat : Int) from xor_bv k1 8387220255154660723#64]
  have HI : Hid (init k0 k1 = ⟨k0 ^^^ 8317987319222330741#64, k1 ^^^ 7237128888997146477#64, k0 ^^^ 7816392313619706465#64, k1 ^^^ 8387220255154660723#64⟩) := rfl
  generalize k0 ^^^ 8317987319222330741#64 = ia at *
  generalize k1 ^^^ 7237128888997146477#64 = ib at *
  generalize k0 ^^^ 7816392313619706465#64 = ic at *
  generalize k1 ^^^ 8387220255154660723#64 = id' at *
  have H0 : Hid (Q4 ((w.alloc (.cells #[vw k0, vw k1] 24)).alloc (.cells #[vw ia, vw ib, vw ic, vw id'] 73)) (w.heap.size + 1) 73 (init k0 k1) []) := by rw [HI.out]; exact heap_alloc2_new _ _ _
  have B0 := Lib.hid (below2 w (.cells #[vw k0, vw k1] 24) (.cells #[vw ia, vw ib, vw ic, vw id'] 73))
  generalize (w.alloc (.cells #[vw k0, vw k1] 24)).alloc (.cells #[vw ia, vw ib, vw ic, vw id'] 73) = w0 at *
  have HSm : Hid (rsum k0 k1 l = fin (rabs l (init k0 k1) (n / 8 + 1))) := by show _ = _; unfold rsum; rw [HN.out]
  generalize init k0 k1 = i0 at *
  go_loopw [6] (fun i wr => ∃ k : Nat, k ≤ n / 8 + 1 ∧ i = .int .i64 ((8 * k : Nat) : Int) ∧ Q4 wr (w.heap.size + 1) 73 (rabs l i0 k) [] ∧ Below w.heap.size w wr) (fun i _ => n + 8 - (intOf i).toNat)
  case atStart => exact ⟨0, Nat.zero_le _, rfl, H0.out, B0.out⟩
  case round =>
    obtain ⟨k, hk, rfl, hq, hb⟩ := hrel
    have Qa := Lib.hid hq
    have Ba := Lib.hid hb
    clear hq hb
    by_cases hlt : 8 * k ≤ n
    · have HS : Hid (rabs l i0 (k + 1) = absorb (rabs l i0 k) (rword l (8 * k))) := rfl
      generalize rabs l i0 k = sa at *
      go_wp2_with fail
      refine (rword_calls A n cap l (8 * k) wr HN.out (RB.below HR.out Ba.out) hc hlt).mono ?_
      rintro e w1 ⟨rfl, rfl⟩
      generalize rword l (8 * k) = m at *
      have c3 := Qa.out.at3
      have f3 := Qa.out.fr (j := 3)
      go_upto_region 7 with fail
      rw [xor_bv]
      obtain ⟨sb, Sb⟩ : ∃ x : S4, Hid (x = { sa with d := sa.d ^^^ m }) := ⟨_, rfl⟩
      have Qb : Hid (Q4 (wr.setCell ⟨w.heap.size + 1, 3, none⟩ (vw (sa.d ^^^ m))) (w.heap.size + 1) 73 sb []) := by rw [Sb.out]; exact Qa.out.set3 _
      have Bb := Lib.hid (Ba.out.setCell (p := ⟨w.heap.size + 1, 3, none⟩) (by show w.heap.size ≤ w.heap.size + 1; omega) (vw (sa.d ^^^ m)))
      generalize wr.setCell ⟨w.heap.size + 1, 3, none⟩ (vw (sa.d ^^^ m)) = wb at *
      clear c3 f3 Qa Ba
      have c0 := Qb.out.at0
      have c1 := Qb.out.at1
      have c2 := Qb.out.at2
      have c3 := Qb.out.at3
      go_wp2_with fail; refine (round_calls sb _).mono ?_; rintro e wc ⟨rfl, hb⟩; obtain ⟨sc, Sc⟩ : ∃ x : S4, Hid (x = r1 sb) := ⟨_, rfl⟩; rw [← Sc.out]; unfold st; have Bc := Lib.hid (Bb.out.trans (hb.mono Bb.out.size)); have Qc : Hid (Q4 wc (w.heap.size + 1) 73 sb []) := (hb.block _ (Array.getElem?_eq_some_iff.1 Qb.out).1).trans Qb.out; clear hb Bb Qb
      clear c0 c1 c2 c3
      go_wp2_with fail; refine (round_calls sc _).mono ?_; rintro e wd ⟨rfl, hb⟩; obtain ⟨sd, Sd⟩ : ∃ x : S4, Hid (x = r1 sc) := ⟨_, rfl⟩; rw [← Sd.out]; unfold st; have Bd := Lib.hid (Bc.out.trans (hb.mono Bc.out.size)); have Qd : Hid (Q4 wd (w.heap.size + 1) 73 sb []) := (hb.block _ (Array.getElem?_eq_some_iff.1 Qc.out).1).trans Qc.out; clear hb Bc Qc
      have c0 := Qd.out.at0
      have c1 := Qd.out.at1
      have c2 := Qd.out.at2
      have c3 := Qd.out.at3
      have f0 := Qd.out.fr (j := 0)
      have f1 := Qd.out.fr (j := 1)
      have f2 := Qd.out.fr (j := 2)
      have f3 := Qd.out.fr (j := 3)
      go_upto_region 8 with fail
      have Qe := Lib.hid ((((Qd.out.set0 sd.a).set1 sd.b).set2 sd.c).set3 sd.d)
      have Be := Lib.hid (Bd.out.trans ((chg_set4 wd (w.heap.size + 1) (vw sd.a) (vw sd.b) (vw sd.c) (vw sd.d)).below Bd.out.size (by simp)))
      clear c0 c1 c2 c3 f0 f1 f2 f3 Qd Bd
      have Qe' : Hid (Q4 ((((wd.setCell ⟨w.heap.size + 1, 0, none⟩ (vw sd.a)).setCell ⟨w.heap.size + 1, 1, none⟩ (vw sd.b)).setCell ⟨w.heap.size + 1, 2, none⟩ (vw sd.c)).setCell ⟨w.heap.size + 1, 3, none⟩ (vw sd.d)) (w.heap.size + 1) 73 sd []) := Qe.out
      generalize (((wd.setCell ⟨w.heap.size + 1, 0, none⟩ (vw sd.a)).setCell ⟨w.heap.size + 1, 1, none⟩ (vw sd.b)).setCell ⟨w.heap.size + 1, 2, none⟩ (vw sd.c)).setCell ⟨w.heap.size + 1, 3, none⟩ (vw sd.d) = we at *
      clear Qe
      have c0 := Qe'.out.at0
      have f0 := Qe'.out.fr (j := 0)
      go_wp2_with fail
      rw [xor_bv]
      have Qf := Lib.hid (Qe'.out.set0 (sd.a ^^^ m))
      have Bf := Lib.hid (Be.out.setCell (p := ⟨w.heap.size + 1, 0, none⟩) (by show w.heap.size ≤ w.heap.size + 1; omega) (vw (sd.a ^^^ m)))
      have HF : Hid (absorb sa m = { sd with a := sd.a ^^^ m }) := by show _ = _; rw [Sd.out, Sc.out, Sb.out]; rfl
      go_roundw
      case rel => exact ⟨k + 1, by omega, by go_num, by rw [HS.out, HF.out]; exact Qf.out, Bf.out⟩
      case measure => simp [intOf]; omega
    · obtain rfl : k = n / 8 + 1 := by omega
      generalize rabs l i0 (n / 8 + 1) = sa at *
      have d0 : decide (((8 * (n / 8 + 1) : Nat) : Int) ≤ (n : Int)) = false := by simp; omega
      have c2 := Qa.out.at2
      have f2 := Qa.out.fr (j := 2)
      go_upto_region 10 with fail
      rw [show bits .xor .u64 (sa.c.toNat : Int) (255 : Int) = ((sa.c ^^^ 255#64).toNat : Int) from xor_bv sa.c 255#64]
      obtain ⟨sb, Sb⟩ : ∃ x : S4, Hid (x = { sa with c := sa.c ^^^ 255#64 }) := ⟨_, rfl⟩
      have Qb : Hid (Q4 (wr.setCell ⟨w.heap.size + 1, 2, none⟩ (vw (sa.c ^^^ 255#64))) (w.heap.size + 1) 73 sb []) := by rw [Sb.out]; exact Qa.out.set2 _
      have Bb := Lib.hid (Ba.out.setCell (p := ⟨w.heap.size + 1, 2, none⟩) (by show w.heap.size ≤ w.heap.size + 1; omega) (vw (sa.c ^^^ 255#64)))
      generalize wr.setCell ⟨w.heap.size + 1, 2, none⟩ (vw (sa.c ^^^ 255#64)) = wb at *
      clear c2 f2 Qa Ba
      have c0 := Qb.out.at0
      have c1 := Qb.out.at1
      have c2 := Qb.out.at2
      have c3 := Qb.out.at3
      go_wp2_with fail; refine (round_calls sb _).mono ?_; rintro e wc ⟨rfl, hb⟩; obtain ⟨sc, Sc⟩ : ∃ x : S4, Hid (x = r1 sb) := ⟨_, rfl⟩; rw [← Sc.out]; unfold st; have Bc := Lib.hid (Bb.out.trans (hb.mono Bb.out.size)); have Qc : Hid (Q4 wc (w.heap.size + 1) 73 sb []) := (hb.block _ (Array.getElem?_eq_some_iff.1 Qb.out).1).trans Qb.out; clear hb Bb Qb
      clear c0 c1 c2 c3
      go_wp2_with fail; refine (round_calls sc _).mono ?_; rintro e wd ⟨rfl, hb⟩; obtain ⟨sd, Sd⟩ : ∃ x : S4, Hid (x = r1 sc) := ⟨_, rfl⟩; rw [← Sd.out]; unfold st; have Bd := Lib.hid (Bc.out.trans (hb.mono Bc.out.size)); have Qd : Hid (Q4 wd (w.heap.size + 1) 73 sb []) := (hb.block _ (Array.getElem?_eq_some_iff.1 Qc.out).1).trans Qc.out; clear hb Bc Qc
      go_wp2_with fail; refine (round_calls sd _).mono ?_; rintro e we ⟨rfl, hb⟩; obtain ⟨se, Se⟩ : ∃ x : S4, Hid (x = r1 sd) := ⟨_, rfl⟩; rw [← Se.out]; unfold st; have Be := Lib.hid (Bd.out.trans (hb.mono Bd.out.size)); have Qe : Hid (Q4 we (w.heap.size + 1) 73 sb []) := (hb.block _ (Array.getElem?_eq_some_iff.1 Qd.out).1).trans Qd.out; clear hb Bd Qd
      go_wp2_with fail; refine (round_calls se _).mono ?_; rintro e wf ⟨rfl, hb⟩; obtain ⟨sf, Sf⟩ : ∃ x : S4, Hid (x = r1 se) := ⟨_, rfl⟩; rw [← Sf.out]; unfold st; have Bf := Lib.hid (Be.out.trans (hb.mono Be.out.size)); have Qf : Hid (Q4 wf (w.heap.size + 1) 73 sb []) := (hb.block _ (Array.getElem?_eq_some_iff.1 Qe.out).1).trans Qe.out; clear hb Be Qe
      have c0 := Qf.out.at0
      have c1 := Qf.out.at1
      have c2 := Qf.out.at2
      have c3 := Qf.out.at3
      have f0 := Qf.out.fr (j := 0)
      have f1 := Qf.out.fr (j := 1)
      have f2 := Qf.out.fr (j := 2)
      have f3 := Qf.out.fr (j := 3)
      go_upto_region 11 with fail
      have Qg := Lib.hid ((((Qf.out.set0 sf.a).set1 sf.b).set2 sf.c).set3 sf.d)
      have Bg := Lib.hid (Bf.out.trans ((chg_set4 wf (w.heap.size + 1) (vw sf.a) (vw sf.b) (vw sf.c) (vw sf.d)).below Bf.out.size (by simp)))
      clear c0 c1 c2 c3 f0 f1 f2 f3 Qf Bf
      have Qg' : Hid (Q4 ((((wf.setCell ⟨w.heap.size + 1, 0, none⟩ (vw sf.a)).setCell ⟨w.heap.size + 1, 1, none⟩ (vw sf.b)).setCell ⟨w.heap.size + 1, 2, none⟩ (vw sf.c)).setCell ⟨w.heap.size + 1, 3, none⟩ (vw sf.d)) (w.heap.size + 1) 73 sf []) := Qg.out
      generalize (((wf.setCell ⟨w.heap.size + 1, 0, none⟩ (vw sf.a)).setCell ⟨w.heap.size + 1, 1, none⟩ (vw sf.b)).setCell ⟨w.heap.size + 1, 2, none⟩ (vw sf.c)).setCell ⟨w.heap.size + 1, 3, none⟩ (vw sf.d) = wg at *
      clear Qg
      have c0 := Qg'.out.at0
      have c1 := Qg'.out.at1
      have c2 := Qg'.out.at2
      have c3 := Qg'.out.at3
      go_wp2_with fail
      go_ret
      refine ⟨?_, Bg.out⟩
      show Ending.returned (.int .u64 (bits .xor .u64 (bits .xor .u64 (bits .xor .u64 sf.a.toNat sf.b.toNat) sf.c.toNat) sf.d.toNat)) = _
      rw [xor_bv, xor_bv, xor_bv, HSm.out, Sf.out, Se.out, Sd.out, Sc.out, Sb.out]
      rfl
end Sp
end Go.Proofs.Ytnmgapokamkhpaa
