/- The walks of siphash.New, Write, Sum. -/
import Derived.Test.YtnmgapokamkhpaaSpB
import Derived.Deep.DeepCutAuto
import Derived.Deep.CutRange
import Derived.Deep.DeepMust
namespace Go.Proofs.Ytnmgapokamkhpaa
open Go.RowKit
namespace Sp
open Sip
attribute [local go_sem ↓] Go.wp_at_zero Go.wp_at_succ

/-- block g holds a hash -/
def IsH (w : World) (g : Nat) (h : Hs) : Prop := Q4 w g 84 h.s [vw h.rest, .int .i64 h.count]

section
variable {w w' : World} {g : Nat} {h : Hs}
theorem IsH.rest (hh : IsH w g h) : w.cell? ⟨g, 4, none⟩ = some (vw h.rest) := (cell_of_row _ _ 4 _ _ _ hh).trans rfl
theorem IsH.count (hh : IsH w g h) : w.cell? ⟨g, 5, none⟩ = some (.int .i64 h.count) := (cell_of_row _ _ 5 _ _ _ hh).trans rfl
theorem IsH.below (hh : IsH w g h) (hb : Below w.heap.size w w') : IsH w' g h := (hb.block g (Array.getElem?_eq_some_iff.1 hh).1).trans hh
theorem IsH.set4 (hh : IsH w g h) (x : BitVec 64) : IsH (w.setCell ⟨g, 4, none⟩ (vw x)) g { h with rest := x } := (heap_setCell_same _ _ _ _ _ _ hh).trans (by simp)
theorem IsH.set5 (hh : IsH w g h) (n : Nat) : IsH (w.setCell ⟨g, 5, none⟩ (.int .i64 n)) g { h with count := n } := (heap_setCell_same _ _ _ _ _ _ hh).trans (by simp)
end

def key (k0 k1 : BitVec 64) : Value := .agg #[vw k0, vw k1]

set_option maxRecDepth 100000 in
theorem start_calls (k0 k1 : BitVec 64) (w : World) :
    Calls Try.prog 42 #[key k0 k1] w fun e w' => e = .returned (.agg #[vw (init k0 k1).a, vw (init k0 k1).b, vw (init k0 k1).c, vw (init k0 k1).d]) ∧ Below w.heap.size w w' := by
  unfold key
  go_enter Try.func42, Try.ntmps42
  go_wp2_with fail
  rw [show bits .xor .u64 (k0.toNat : Int) (8317987319222330741 : Int) = ((k0 ^^^ 8317987319222330741#64).toNat : Int) from xor_bv k0 8317987319222330741#64, show bits .xor .u64 (k1.toNat : Int) (7237128888997146477 : Int) = ((k1 ^^^ 7237128888997146477#64).toNat : Int) from xor_bv k1 7237128888997146477#64, show bits .xor .u64 (k0.toNat : Int) (7816392313619706465 : Int) = ((k0 ^^^ 7816392313619706465#64).toNat : Int) from xor_bv k0 7816392313619706465#64, show bits .xor .u64 (k1.toNat : Int) (8387220255154660723 : Int) = ((k1 ^^^ 8387220255154660723#64).toNat : Int) from xor_bv k1 8387220255154660723#64]
  exact bodyPost_ret (results_cell_row rfl _ _ (w.heap.size + 1) 81 _ (0, 0) _ rfl (heap_alloc2_new _ _ _) Try.underlying81 rfl (by kernel_rfl)) rfl ⟨rfl, below2 _ _ _⟩

set_option maxRecDepth 100000 in
theorem new_calls (k0 k1 : BitVec 64) (w : World) :
    Calls Try.prog 38 #[key k0 k1] w fun e w' => ∃ g, e = .returned (.pointer (some ⟨g, 0, none⟩)) ∧ IsH w' g (new k0 k1) ∧ w.heap.size ≤ g ∧ Below w.heap.size w w' := by
  have HS := fun w => Lib.hid (start_calls k0 k1 w)
  have HN : Hid (new k0 k1 = ⟨init k0 k1, 0, 0⟩) := rfl
  unfold key at *
  obtain ⟨u, U⟩ : ∃ x, Hid (x = init k0 k1) := ⟨_, rfl⟩
  simp only [← U.out] at HS
  go_enter Try.func38, Try.ntmps38
  go_wp2_with fail
  refine (HS _).out.mono ?_
  rintro e w1 ⟨rfl, hb⟩
  have HB := Lib.hid ((below1 w _).trans (hb.mono (by simp)))
  have hsz : w.heap.size ≤ w1.heap.size := HB.out.size
  clear hb
  go_wp2_with fail
  go_ret
  refine ⟨w1.heap.size, rfl, ?_, hsz, HB.out.alloc hsz _⟩
  rw [HN.out, ← U.out]
  exact heap_alloc_new _ _

theorem wrap_c (c : UInt8) : IntKind.u64.wrap (c.toNat : Int) = (c.toNat : Int) := by
  rw [IntKind.wrap_u64]; have := c.toNat_lt; omega
theorem wsh (c : UInt8) (j : Nat) : IntKind.u64.wrap (IntKind.u64.wrap (c.toNat : Int) * 2 ^ j) = ((bw c <<< j).toNat : Int) := by
  rw [wrap_c]
  have h := shl_bv (bw c) j
  have hb : (bw c).toNat = c.toNat := by unfold bw; rw [BitVec.toNat_ofNat]; exact Nat.mod_eq_of_lt (by have := c.toNat_lt; omega)
  rw [hb, Int.natCast_pow] at h
  exact h

set_option maxRecDepth 100000 in
set_option maxHeartbeats 1000000 in
theorem write_calls (g : Nat) (h : Hs) (A : Option Addr) (n cap : Nat) (l : List UInt8) (w : World) (hh : IsH w g h) (hn : l.length = n) (hr : RB w A l) (hg : 0 < n → ∀ b off, A = some ⟨b, off, none⟩ → b ≠ g) (hc : h.count + n ≤ 1000000) :
    Calls Try.prog 39 #[.pointer (some ⟨g, 0, none⟩), .slice A n cap] w fun e w' => e = .returned (.tuple #[]) ∧ IsH w' g (wrs h l) ∧ Chg [g] w w' := by
  have HH := Lib.hid hh
  have HN := Lib.hid hn
  have HR := Lib.hid hr
  have HG := Lib.hid hg
  clear hh hn hr hg
  go_enter Try.func39, Try.ntmps39
  go_wp2_with fail
  go_loopw [9] (fun i wr => ∃ k : Nat, k ≤ n ∧ i = .int .i64 k ∧ IsH wr g (wrs h (l.take k)) ∧ Chg [g] w wr) (fun i _ => n - (intOf i).toNat)
  case atStart => exact ⟨0, Nat.zero_le _, rfl, HH.out, Chg.refl _ _⟩
  case round =>
    obtain ⟨k, hk, rfl, hq, hc1⟩ := hrel
    by_cases hlt : k < n
    · have hkl : k < l.length := by have := HN.out; omega
      have HS := Lib.hid (wrs_take h l k hkl)
      have hcnt := wrs_count (l.take k) h
      have hcnt2 : (wrs h (l.take k)).count ≤ 1000000 := by rw [hcnt]; simp; omega
      generalize wrs h (l.take k) = u at *
      obtain ⟨b, off, rfl, _, hcl⟩ := RB.cells HR.out (by have := HN.out; omega)
      have x0 : wr.cell? ⟨b, off + k, none⟩ = some (vb l[k]) := by
        have hcb := hcl k hkl
        rw [World.cell?_of_block (hc1.block b (block_lt_of_cell hcb) (by have := HG.out (by omega) b off rfl; simpa using this))]; exact hcb
      have i0 : (0 : Int) ≤ (k : Int) := by omega
      have i1 : (k : Int) < (n : Int) := by omega
      generalize l[k] = c at *
      have c4 := hq.rest
      have c5 := hq.count
      have f4 : wr.frozen? ⟨g, 4, none⟩ = false := Q4.fr hq
      have f5 : wr.frozen? ⟨g, 5, none⟩ = false := Q4.fr hq
      have H0 := Lib.hid hq
      have C0 := Lib.hid hc1
      have HCNT := Lib.hid hcnt
      clear hq hc1 hcl hcnt
      go_wp2_with fail
      go_region
      obtain ⟨r, HRr⟩ : ∃ x, Hid (x = u.rest ||| bw c <<< (8 * (u.count % 8))) := ⟨_, rfl⟩
      rw [wsh, or_bv, ← HRr.out]
      have H1 : Hid (IsH (wr.setCell ⟨g, 4, none⟩ (vw r)).drew g { u with rest := r }) := H0.out.set4 r
      have C1 := Lib.hid ((C0.out.trans' (chg_set wr g 4 (vw r))).drew)
      clear H0 C0 c4 c5 f4 f5 x0
      generalize (wr.setCell ⟨g, 4, none⟩ (vw r)).drew = w1 at *
      have c5 := H1.out.count
      have f5 : w1.frozen? ⟨g, 5, none⟩ = false := Q4.fr H1.out
      simp only at c5
      by_cases h7 : u.count % 8 = 7
      · have d7 : ((u.count : Int) % 8 == 7) = true := by simp; omega
        have HW : Hid (wr1 u c = ⟨absorb u.s r, 0, u.count + 1⟩) := by show _ = _; unfold wr1; simp only [h7, if_true, HRr.out]
        have H2 : Hid (IsH (w1.setCell ⟨g, 5, none⟩ (.int .i64 ((u.count : Int) + 1))) g { u with rest := r, count := u.count + 1 }) := H1.out.set5 (u.count + 1)
        have C2 := Lib.hid (C1.out.trans' (chg_set w1 g 5 (.int .i64 ((u.count : Int) + 1))))
        have c4 := H2.out.rest
        simp only at c4
        clear h7
        go_upto_region 6 with (fail)
        clear c5 f5 H1 C1
        generalize w1.setCell ⟨g, 5, none⟩ (.int .i64 ((u.count : Int) + 1)) = w2 at *
        go_wp2_with fail
        go_region_with (go_at_call 43; refine (word_calls r g _ _ _ w2.drew H2.out).mono ?_; rintro e w3 ⟨rfl, hq, hcq⟩; have H3 : Hid (IsH w3 g ⟨absorb u.s r, r, u.count + 1⟩) := hq; have C3 := Lib.hid (C2.out.drew.trans' hcq); have f4 : w3.frozen? ⟨g, 4, none⟩ = false := Q4.fr hq; have c4 := H3.out.rest; clear hq hcq)
        go_wp2_with fail
        have H4 : Hid (IsH (w3.setCell ⟨g, 4, none⟩ (.int .u64 0)) g ⟨absorb u.s r, 0, u.count + 1⟩) := H3.out.set4 0
        have C4 := Lib.hid (C3.out.trans' (chg_set w3 g 4 (.int .u64 0)))
        go_roundw
        case rel => exact ⟨k + 1, by omega, by go_num, by rw [HS.out, HW.out]; exact H4.out, C4.out⟩
        case measure => simp [intOf]; omega
      · have d7 : ((u.count : Int) % 8 == 7) = false := by simp; omega
        have HW : Hid (wr1 u c = ⟨u.s, r, u.count + 1⟩) := by show _ = _; unfold wr1; simp only [h7, if_false, HRr.out]
        have H2 : Hid (IsH (w1.setCell ⟨g, 5, none⟩ (.int .i64 ((u.count : Int) + 1))) g { u with rest := r, count := u.count + 1 }) := H1.out.set5 (u.count + 1)
        have C2 := Lib.hid (C1.out.trans' (chg_set w1 g 5 (.int .i64 ((u.count : Int) + 1))))
        clear h7
        go_wp2_with fail
        go_roundw
        case rel => exact ⟨k + 1, by omega, by go_num, by rw [HS.out, HW.out]; exact H2.out, C2.out⟩
        case measure => simp [intOf]; omega
    · obtain rfl : k = n := by omega
      have HT : Hid (l.take k = l) := by show _ = _; rw [List.take_of_length_le (by have := HN.out; omega)]
      have H0 := Lib.hid hq
      have C0 := Lib.hid hc1
      clear hq hc1
      go_wp2_with fail
      go_end0
      rw [HT.out] at H0
      exact ⟨rfl, H0.out, C0.out⟩

theorem tail_bv (n : Nat) : IntKind.u64.wrap (IntKind.u64.wrap ((n : Int).tmod 256) * 72057594037927936) = ((tail n).toNat : Int) := by
  have h := shl_bv (BitVec.ofNat 64 (n % 256)) 56
  have hb : (BitVec.ofNat 64 (n % 256)).toNat = n % 256 := by rw [BitVec.toNat_ofNat]; exact Nat.mod_eq_of_lt (by omega)
  rw [hb] at h
  rw [Int.tmod_eq_emod_of_nonneg (by omega), show IntKind.u64.wrap ((n : Int) % 256) = ((n % 256 : Nat) : Int) by rw [IntKind.wrap_u64]; omega]
  exact h

set_option maxRecDepth 100000 in
set_option maxHeartbeats 1000000 in
theorem sumH_calls (g : Nat) (h : Hs) (w : World) (hh : IsH w g h) (hc : h.count ≤ 1000000) :
    Calls Try.prog 40 #[.pointer (some ⟨g, 0, none⟩)] w fun e w' => e = .returned (vw (sumH h)) ∧ Below w.heap.size w w' := by
  have c0 := Q4.at0 hh
  have c1 := Q4.at1 hh
  have c2 := Q4.at2 hh
  have c3 := Q4.at3 hh
  have c4 := hh.rest
  have c5 := hh.count
  have hgl : g < w.heap.size := (Array.getElem?_eq_some_iff.1 hh).1
  have HH := Lib.hid hh
  clear hh
  obtain ⟨m, HM⟩ : ∃ x, Hid (x = h.rest ||| tail h.count) := ⟨_, rfl⟩
  go_enter Try.func40, Try.ntmps40
  go_wp2_with fail
  have H1 : Hid (Q4 (w.alloc (.cells #[vw h.s.a, vw h.s.b, vw h.s.c, vw h.s.d] 81)) w.heap.size 81 h.s []) := heap_alloc_new _ _
  have B1 := Lib.hid (below1 w (.cells #[vw h.s.a, vw h.s.b, vw h.s.c, vw h.s.d] 81))
  have H1' := Lib.hid (HH.out.below B1.out)
  clear c0 c1 c2 c3 c4 c5
  generalize w.alloc (.cells #[vw h.s.a, vw h.s.b, vw h.s.c, vw h.s.d] 81) = w1 at *
  have c4 := H1'.out.rest
  have c5 := H1'.out.count
  go_region_with (go_at_call 43; rw [tail_bv, or_bv, ← HM.out]; refine (word_calls m w.heap.size _ _ _ w1.drew H1.out).mono ?_; rintro e w2 ⟨rfl, hq, hcq⟩; have H2 := Lib.hid hq; have B2 := Lib.hid (B1.out.drew.trans (hcq.below B1.out.size (by simp))); clear hq hcq)
  all_goals
    obtain ⟨u, U⟩ : ∃ x, Hid (x = absorb h.s m) := ⟨_, rfl⟩
    rw [← U.out] at H2
    have c2 := Q4.at2 H2.out
    have f2 : w2.frozen? ⟨w.heap.size, 2, none⟩ = false := Q4.fr H2.out
    clear c4 c5 H1 H1' B1
    go_upto_region 4 with (fail)
    rw [show bits .xor .u64 (u.c.toNat : Int) (255 : Int) = ((u.c ^^^ 255#64).toNat : Int) from xor_bv u.c 255#64]
    have H3 := Lib.hid (Q4.set2 H2.out (u.c ^^^ 255#64))
    have B3 := Lib.hid (B2.out.setCell (p := ⟨w.heap.size, 2, none⟩) (Nat.le_refl _) (vw (u.c ^^^ 255#64)))
    generalize w2.setCell ⟨w.heap.size, 2, none⟩ (vw (u.c ^^^ 255#64)) = w3 at *
    clear c2 f2 H2 B2
    go_wp2_with fail
    refine (rounds_calls 4 (by omega) w.heap.size _ _ _ w3 H3.out).mono ?_
    rintro e w4 ⟨rfl, hq, hcq⟩
    obtain ⟨v, V⟩ : ∃ x, Hid (x = rn 4 { u with c := u.c ^^^ 255#64 }) := ⟨_, rfl⟩
    rw [← V.out] at hq
    have B4 := Lib.hid (B3.out.trans (hcq.below B3.out.size (by simp)))
    have c0 := Q4.at0 hq
    have c1 := Q4.at1 hq
    have c2 := Q4.at2 hq
    have c3 := Q4.at3 hq
    clear hq hcq H3 B3
    go_wp2_with fail
    go_ret
    refine ⟨?_, B4.out⟩
    show Ending.returned (.int .u64 (bits .xor .u64 (bits .xor .u64 (bits .xor .u64 v.a.toNat v.b.toNat) v.c.toNat) v.d.toNat)) = _
    rw [xor_bv, xor_bv, xor_bv]
    unfold sumH fin
    rw [← HM.out, ← U.out, ← V.out]

set_option maxRecDepth 100000 in
theorem sum_calls (k0 k1 : BitVec 64) (A : Option Addr) (n cap : Nat) (l : List UInt8) (w : World) (hn : l.length = n) (hr : RB w A l) (hc : n ≤ 1000000) :
    Calls Try.prog 35 #[key k0 k1, .slice A n cap] w fun e w' => e = .returned (vw (sum k0 k1 l)) ∧ Below w.heap.size w w' := by
  have HN := Lib.hid hn
  have HR := Lib.hid hr
  have HS : Hid (sum k0 k1 l = sumH (wrs (new k0 k1) l)) := rfl
  have HC : Hid ((wrs (new k0 k1) l).count ≤ 1000000) := by show _ ≤ _; rw [wrs_count]; show 0 + _ ≤ _; omega
  have HK : Hid (key k0 k1 = .agg #[vw k0, vw k1]) := rfl
  have HNw := fun w => Lib.hid (new_calls k0 k1 w)
  simp only [HK.out] at HNw
  rw [HK.out]
  clear hn hr
  go_enter Try.func35, Try.ntmps35
  go_wp2_with fail
  refine (HNw _).out.mono ?_
  rintro e w1 ⟨g, rfl, hh, hg, hb⟩
  have HB := Lib.hid ((below1 w _).trans (hb.mono (by simp)))
  have H1 := Lib.hid hh
  have hgw : w.heap.size ≤ g := by simp at hg; omega
  clear hb hh hg
  go_wp2_with fail
  refine (write_calls g (new k0 k1) A n cap l w1 H1.out HN.out (RB.below HR.out HB.out) ?_ (by show 0 + n ≤ _; omega)).mono ?_
  · rintro hpos b off rfl
    obtain ⟨b', off', e, hlt, _⟩ := RB.cells HR.out (by rw [HN.out]; exact hpos)
    cases e; omega
  rintro e w2 ⟨rfl, hh, hcg⟩
  have B2 := Lib.hid (HB.out.trans (hcg.below HB.out.size (by simpa using hgw)))
  have H2 := Lib.hid hh
  clear hh hcg
  go_wp2_with fail
  refine (sumH_calls g _ w2 H2.out HC.out).mono ?_
  rintro e w3 ⟨rfl, hb⟩
  have B3 := Lib.hid (B2.out.trans (hb.mono B2.out.size))
  clear hb
  rw [← HS.out]
  go_wp2_with fail
  go_ret
  exact ⟨rfl, B3.out⟩
end Sp
end Go.Proofs.Ytnmgapokamkhpaa
