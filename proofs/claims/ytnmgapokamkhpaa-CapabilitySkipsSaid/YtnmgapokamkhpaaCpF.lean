/- The walk of the law CapabilitySkips. -/
import Derived.Test.YtnmgapokamkhpaaCpE
namespace Go.Proofs.Ytnmgapokamkhpaa
open Go.RowKit
namespace Cp
open Sip
attribute [local go_sem ↓] Go.wp_at_zero Go.wp_at_succ

/-- the numbers of the serials b, b - 1, .., a + 1 -/
def down (k0 k1 : BitVec 64) (a b : Nat) : List (BitVec 64) := (List.range (b - a)).map fun j => num k0 k1 (b - j)
theorem down_len (k0 k1 : BitVec 64) (a b : Nat) : (down k0 k1 a b).length = b - a := by simp [down]
theorem down_nil (k0 k1 : BitVec 64) (b : Nat) : down k0 k1 b b = [] := by simp [down]
theorem down_snoc (k0 k1 : BitVec 64) (a b : Nat) (h : a < b) : down k0 k1 a b = down k0 k1 (a + 1) b ++ [num k0 k1 (a + 1)] := by
  unfold down
  rw [show b - a = (b - (a + 1)) + 1 by omega, List.range_succ, List.map_append]
  simp only [List.map_cons, List.map_nil]
  rw [show b - (b - (a + 1)) = a + 1 by omega]
theorem down_mem (k0 k1 : BitVec 64) (a b s : Nat) (h1 : a < s) (h2 : s ≤ b) : num k0 k1 s ∈ down k0 k1 a b := by
  unfold down
  rw [List.mem_map]
  exact ⟨b - s, by simp; omega, by rw [show b - (b - s) = s by omega]⟩
theorem down_not (k0 k1 : BitVec 64) (a b : Nat) (h : okTo k0 k1 (b + 1)) : num k0 k1 (b + 1) ∉ down k0 k1 a b := by
  unfold down
  rw [List.mem_map]
  rintro ⟨j, hj, he⟩
  have hj' : j < b - a := by simpa using hj
  exact (h (b + 1) (by omega) (Nat.le_refl _)).2 (b - j) (by omega) (by omega) he

theorem info_u64 : (Try.prog.info? 22).map (fun i => (i.zero, i.size, i.bytes)) = some (some (.int .u64 0), 1, 8) := by kernel_rfl
theorem vw_one (l : List (BitVec 64)) : ∀ u ∈ l.map vw, u.oneCell' = true := by
  intro u hu
  obtain ⟨_, _, rfl⟩ := List.mem_map.1 hu
  rfl

set_option maxRecDepth 100000 in
set_option maxHeartbeats 800000 in
theorem skips_law (w : World) (k0 k1 : BitVec 64) (a b : UInt8) :
    Calls Try.prog 3 #[.agg #[vw k0, vw k1], vb a, vb b] w fun e w' => e = .returned (.bool true) ∧ Below w.heap.size w w' := by
  have ha := a.toNat_lt
  have hb := b.toNat_lt
  unfold vb
  generalize a.toNat = p at *
  generalize b.toNat = q at *
  have hp1 : (0 : Int) ≤ (p : Int) := by omega
  have hq1 : (0 : Int) ≤ (q : Int) := by omega
  obtain ⟨n, HN⟩ : ∃ x, Hid (x = p % 20) := ⟨_, Lib.hid rfl⟩
  obtain ⟨m, HM⟩ : ∃ x, Hid (x = q % 20) := ⟨_, Lib.hid rfl⟩
  have hn : n < 20 := by rw [HN.out]; omega
  have hm : m < 20 := by rw [HM.out]; omega
  have en : (p : Int) % 20 = (n : Int) := by rw [HN.out]; omega
  have em : (q : Int) % 20 = (m : Int) := by rw [HM.out]; omega
  have en2 : ((p : Int)).tmod 20 = (n : Int) := by rw [Int.tmod_eq_emod_of_nonneg (by omega)]; exact en
  have em2 : ((q : Int)).tmod 20 = (m : Int) := by rw [Int.tmod_eq_emod_of_nonneg (by omega)]; exact em
  have CO := fun w => Lib.hid (collides_calls k0 k1 (n + m + 1) (by omega) w)
  simp only [Int.natCast_add, Int.natCast_one] at CO
  have NW := fun w => Lib.hid (new_calls k0 k1 w)
  have NUM := fun s (hs : s ≤ 100) w => Lib.hid (rnum_calls k0 k1 s (by omega) w)
  have AW := fun w => Lib.hid (awake_calls w)
  go_enter Try.func3, Try.ntmps3
  go_wp2_with fail
  have hk : Hid ((w.alloc (.cells #[vw k0, vw k1] 24)).heap[w.heap.size]? = some (.cells #[vw k0, vw k1] 24 (0, 0))) := heap_alloc_new _ _
  have hbw := Lib.hid (below1 w (.cells #[vw k0, vw k1] 24))
  show Calls _ _ _ (w.alloc (.cells #[vw k0, vw k1] 24)) _
  generalize w.alloc (.cells #[vw k0, vw k1] 24) = w1 at *
  have hs1 : w.heap.size < w1.heap.size := (Array.getElem?_eq_some_iff.1 hk.out).1
  (with_reducible refine (AW w1).out.mono ?_)
  rintro e w2 ⟨rfl, hb2⟩
  have HK2 := Lib.hid ((hb2.block _ hs1).trans hk.out)
  have B2 := Lib.hid (hbw.out.trans (hb2.mono hbw.out.size))
  have hs2 : w.heap.size < w2.heap.size := Nat.lt_of_lt_of_le hs1 hb2.size
  have m0 : w2.cell? ⟨w.heap.size, 0, none⟩ = some (vw k0) := (cell_of_row _ _ 0 _ _ _ HK2.out).trans rfl
  have m1 : w2.cell? ⟨w.heap.size, 1, none⟩ = some (vw k1) := (cell_of_row _ _ 1 _ _ _ HK2.out).trans rfl
  clear hk hbw hb2 AW HN HM
  go_wp2_with fail
  (with_reducible refine (CO w2).out.mono ?_)
  rintro e w3 ⟨cb, rfl, hcb, hb3⟩
  have HK3 := Lib.hid ((hb3.block _ hs2).trans HK2.out)
  have B3 := Lib.hid (B2.out.trans (hb3.mono B2.out.size))
  have hs3 : w.heap.size < w3.heap.size := Nat.lt_of_lt_of_le hs2 hb3.size
  clear m0 m1 hb3 HK2 B2 CO
  cases cb with
  | true =>
    clear hcb
    go_wp2_with fail
    go_ret
    exact ⟨rfl, B3.out⟩
  | false =>
    have HOK := Lib.hid (hcb rfl)
    have m0 : w3.cell? ⟨w.heap.size, 0, none⟩ = some (vw k0) := (cell_of_row _ _ 0 _ _ _ HK3.out).trans rfl
    have m1 : w3.cell? ⟨w.heap.size, 1, none⟩ = some (vw k1) := (cell_of_row _ _ 1 _ _ _ HK3.out).trans rfl
    clear hcb
    go_wp2_with fail
    (with_reducible refine (NW w3).out.mono ?_)
    rintro e w4 ⟨g, rfl, hg, hgl, hb4⟩
    have HK4 := Lib.hid ((hb4.block _ hs3).trans HK3.out)
    have B4 := Lib.hid (B3.out.trans (hb4.mono B3.out.size))
    have HG4 := Lib.hid hg
    have hgw : w.heap.size < g := by omega
    clear m0 m1 hb4 HK3 B3 NW hg hgl
    go_wp2_with fail
    clear en em en2 em2 hp1 hq1 ha hb
    have IS := fun j (h1 : 1 ≤ j) (h2 : j ≤ n) w' (h : IsB w' g k0 k1 (j - 1)) => Lib.hid (issue_calls k0 k1 g (j - 1) none 0 0 [] j w' h rfl (by omega) Rd.nil (by omega) (by omega) (fun s h1 h2 => by omega) ⟨(HOK.out j h1 (by omega)).1, by simp⟩)
    go_loopw [10] (fun i wr => ∃ j : Nat, 1 ≤ j ∧ j ≤ n + 1 ∧ i = .int .i64 (j : Int) ∧ IsB wr g k0 k1 (j - 1) ∧ wr.heap[w.heap.size]? = some (.cells #[vw k0, vw k1] 24 (0, 0)) ∧ Below w.heap.size w wr) (fun i _ => n + 1 - (intOf i).toNat)
    case atStart => exact ⟨1, by omega, by omega, rfl, HG4.out, HK4.out, B4.out⟩
    case round =>
      obtain ⟨j, hj1, hj2, rfl, hg, hkk, hbb⟩ := hrel
      have HG := Lib.hid hg
      have HK := Lib.hid hkk
      have HB := Lib.hid hbb
      have hsw : w.heap.size < wr.heap.size := (Array.getElem?_eq_some_iff.1 hkk).1
      have hgs : g < wr.heap.size := (Array.getElem?_eq_some_iff.1 hg).1
      clear hg hkk hbb
      by_cases hjn : j ≤ n
      · have m0 : ∀ w', Chg [g] wr w' → w'.cell? ⟨w.heap.size, 0, none⟩ = some (vw k0) := fun w' h => (cell_of_row _ _ 0 _ _ _ (h.blk HK.out (by simp; omega))).trans rfl
        have m1 : ∀ w', Chg [g] wr w' → w'.cell? ⟨w.heap.size, 1, none⟩ = some (vw k1) := fun w' h => (cell_of_row _ _ 1 _ _ _ (h.blk HK.out (by simp; omega))).trans rfl
        have IX := IS j hj1 hjn wr.drew HG.out
        obtain ⟨x, HX⟩ : ∃ x, Hid (x = num k0 k1 j) := ⟨_, Lib.hid rfl⟩
        rw [← HX.out] at IX
        have NX : ∀ w', Chg [g] wr w' → Hid (Calls Try.prog 10 #[.agg #[vw k0, vw k1], .int .i64 (j : Int)] w' fun e w'' => e = .returned (vw x) ∧ Below w'.heap.size w' w'' ∧ Chg [g] wr w'') := fun w' h =>
          (NUM j (by omega) w').out.mono fun e w'' ⟨h1, h2⟩ => ⟨by rw [HX.out]; exact h1, h2, h.trans' (Chg.of_below h2 _)⟩
        have dx : (((x.toNat : Int) != (x.toNat : Int)) : Bool) = false := by simp
        clear IS
        go_wp2_with fail
        go_region_held3 (fun w' => Chg [g] wr w') (first | exact (Chg.refl _ _).drew | assumption) (first | (go_at_call 9; refine IX.out.mono ?_; rintro e wI ⟨rfl, hgI, hcI⟩; have HGI := Lib.hid hgI; have hSI : Chg [g] wr wI := (Chg.refl [g] wr).drew.trans' hcI; clear hgI hcI) | (go_at_call 10; refine (NX _ (by assumption)).out.mono ?_; rintro e wN ⟨rfl, hbN, hSN⟩))
        have HGN := Lib.hid (HGI.out.below hbN)
        have HKN := Lib.hid (hSN.blk HK.out (by simp; omega))
        have HBN := Lib.hid (HB.out.trans (hSN.below HB.out.size (by simp; omega)))
        clear m0 m1 NX IX hSI hSN hbN HGI
        go_wp2_with fail
        go_roundw
        case rel => exact ⟨j + 1, by omega, by omega, by go_num, by rw [show j + 1 - 1 = j by omega]; exact HGN.out, HKN.out, HBN.out⟩
        case measure => simp [intOf]; omega
      · have HJ : Hid (j = n + 1) := Lib.hid (by omega)
        have dj : decide (j ≤ n) = false := by simpa using hjn
        have hg0 : IsB wr g k0 k1 n := by have h := HG.out; rw [HJ.out] at h; exact h
        have HG0 := Lib.hid hg0
        clear IS hg0 HG hjn
        go_wp2_with fail
        have hb0 := below1 wr (.cells #[] 22)
        have HG1 := Lib.hid (HG0.out.below hb0)
        have HK1 := Lib.hid ((hb0.block _ hsw).trans HK.out)
        have HB1 := Lib.hid (HB.out.trans (hb0.mono HB.out.size))
        have HO1 : Hid ((wr.alloc (.cells #[] 22)).ownsRow wr.heap.size 22 1 (.slice (some ⟨wr.heap.size, 0, none⟩) 0 0) 0 []) := own_empty _ _ _ _ rfl (Nat.le_refl _)
        clear HG0 HK HB hb0 HJ hj1 hj2
        obtain ⟨w5, W5⟩ : ∃ x : World, x = wr := ⟨_, rfl⟩
        rw [← W5] at HG1 HK1 HB1 HO1 hsw hgs ⊢
        clear W5 wr
        go_loopw [11, 12] (fun v i wr => ∃ c : Nat, n ≤ c ∧ c ≤ n + m ∧ i = .int .i64 (c : Int) ∧ ∃ X cap, v = .slice X (n + m - c) cap ∧ wr.ownsRow w5.heap.size 22 1 (.slice X (n + m - c) cap) (n + m - c) ((down k0 k1 c (n + m)).map vw) ∧ IsB wr g k0 k1 n ∧ wr.heap[w.heap.size]? = some (.cells #[vw k0, vw k1] 24 (0, 0)) ∧ Below w.heap.size w wr ∧ w5.heap.size ≤ wr.heap.size) (fun _ i _ => (intOf i).toNat - n)
        case atStart => exact ⟨n + m, by omega, by omega, by simp, some ⟨w5.heap.size, 0, none⟩, 0, by rw [Nat.sub_self], by rw [Nat.sub_self, down_nil]; exact HO1.out, HG1.out, HK1.out, HB1.out, by simp⟩
        case round =>
          obtain ⟨c, hc1, hc2, rfl, X, cap, rfl, hown, hg, hkk, hbb, hsz⟩ := hrel
          have HO := Lib.hid hown
          have HG := Lib.hid hg
          have HK := Lib.hid hkk
          have HB := Lib.hid hbb
          have hsw2 : w.heap.size < wr.heap.size := (Array.getElem?_eq_some_iff.1 hkk).1
          have m0 : wr.cell? ⟨w.heap.size, 0, none⟩ = some (vw k0) := (cell_of_row _ _ 0 _ _ _ hkk).trans rfl
          have m1 : wr.cell? ⟨w.heap.size, 1, none⟩ = some (vw k1) := (cell_of_row _ _ 1 _ _ _ hkk).trans rfl
          clear hown hg hkk hbb
          by_cases hcn : n < c
          · have HD : Hid (down k0 k1 (c - 1) (n + m) = down k0 k1 c (n + m) ++ [num k0 k1 c]) := Lib.hid (by have := down_snoc k0 k1 (c - 1) (n + m) (by omega); rwa [show c - 1 + 1 = c by omega] at this)
            obtain ⟨x, HX⟩ : ∃ x, Hid (x = num k0 k1 c) := ⟨_, Lib.hid rfl⟩
            have NX := NUM c (by omega) wr
            rw [← HX.out] at NX HD
            obtain ⟨k, HKk⟩ : ∃ k, Hid (k = n + m - c) := ⟨_, Lib.hid rfl⟩
            have hkl : k ≤ 40 := by rw [HKk.out]; omega
            rw [← HKk.out] at HO ⊢
            generalize down k0 k1 c (n + m) = us at *
            go_wp2_with fail
            refine NX.out.mono ?_
            rintro e w6 ⟨rfl, hb6⟩
            have HO6 := Lib.hid (own_below HO.out hb6)
            have HG6 := Lib.hid (HG.out.below hb6)
            have HK6 := Lib.hid ((hb6.block _ hsw2).trans HK.out)
            have HB6 := Lib.hid (HB.out.trans (hb6.mono HB.out.size))
            have hsz6 := Nat.le_trans hsz hb6.size
            clear m0 m1 hb6 NX HO HG HK HB
            go_wp2_with (at_builtin; refine wpList_apps _ rfl (.tmp 51) (.tmp 55) 31 rfl w5.heap.size 22 (.int .u64 0) 8 Try.underlying31 info_u64 rfl _ k (us.map vw) rfl (own_below HO6.out (below1 w6 _)) (some ⟨w6.heap.size, 0, none⟩) 1 1 [vw x] rfl rfl (Rd.one w6 _ _) (by simp [Value.oneCell']) (by simp only [maxLen]; omega) (by omega) (Nat.le_trans hsz6 (by simp)) ?_; intro X' c' w7 hown7 happ7; have HO7 := Lib.hid hown7; have HA7 := Lib.hid happ7; clear hown7 happ7)
            have hbb : Below w5.heap.size w6 w7 := ((Below.refl _ w6).alloc hsz6 _).trans (HA7.out.below (own_below HO6.out (below1 w6 _)) (Nat.le_trans hsz6 (by simp)))
            have HG7 : Hid (IsB w7 g k0 k1 n) := (hbb.block _ hgs).trans HG6.out
            have HK7 := Lib.hid ((hbb.block _ hsw).trans HK6.out)
            have HB7 := Lib.hid (HB6.out.trans (hbb.mono (by omega)))
            have hsz7 := Nat.le_trans hsz6 hbb.size
            clear hbb HA7
            go_roundw
            case rel =>
              refine ⟨c - 1, by omega, by omega, ?_, X', c', ?_, ?_, HG7.out, HK7.out, HB7.out, hsz7⟩
              · congr 1; omega
              · rw [show n + m - (c - 1) = k + 1 by have := HKk.out; omega]
              · rw [show n + m - (c - 1) = k + 1 by have := HKk.out; omega, HD.out, List.map_append]; exact HO7.out
            case measure => simp [intOf]; omega
          · obtain rfl : n = c := by omega
            rw [show n + m - n = m by omega] at HO ⊢
            obtain ⟨_, _, eX, _, _, _, hrX⟩ := own_form HO.out
            cases eX
            have HRX := Lib.hid hrX
            have hgs2 : g < wr.heap.size := by omega
            have m0 : ∀ w', Chg [g] wr w' → w'.cell? ⟨w.heap.size, 0, none⟩ = some (vw k0) := fun w' h => (cell_of_row _ _ 0 _ _ _ (h.blk HK.out (by simp; omega))).trans rfl
            have m1 : ∀ w', Chg [g] wr w' → w'.cell? ⟨w.heap.size, 1, none⟩ = some (vw k1) := fun w' h => (cell_of_row _ _ 1 _ _ _ (h.blk HK.out (by simp; omega))).trans rfl
            have IX := Lib.hid (issue_calls k0 k1 g n X m cap (down k0 k1 n (n + m)) (n + m + 1) wr.drew HG.out (by rw [down_len]; omega) (by omega) HRX.out (by omega) (by omega) (fun s h1 h2 => .inr (down_mem k0 k1 n (n + m) s h1 (by omega))) ⟨(HOK.out (n + m + 1) (by omega) (Nat.le_refl _)).1, down_not k0 k1 n (n + m) HOK.out⟩)
            obtain ⟨x, HX⟩ : ∃ x, Hid (x = num k0 k1 (n + m + 1)) := ⟨_, Lib.hid rfl⟩
            rw [← HX.out] at IX
            have NX : ∀ w', Chg [g] wr w' → Hid (Calls Try.prog 10 #[.agg #[vw k0, vw k1], .int .i64 ((n + m + 1 : Nat) : Int)] w' fun e w'' => e = .returned (vw x) ∧ Below w'.heap.size w' w'' ∧ Chg [g] wr w'') := fun w' h =>
              (NUM (n + m + 1) (by omega) w').out.mono fun e w'' ⟨h1, h2⟩ => ⟨by rw [HX.out]; exact h1, h2, h.trans' (Chg.of_below h2 _)⟩
            have IC := fun w' (h : IsB w' g k0 k1 (n + m + 1)) => Lib.hid (issued_calls k0 k1 g (n + m + 1) w' h)
            simp only [Int.natCast_add, Int.natCast_one] at NX IC
            have dx : (((x.toNat : Int) == (x.toNat : Int)) : Bool) = true := by simp
            have dn : ((((n : Int) + (m : Int) + 1) == ((n : Int) + (m : Int) + 1)) : Bool) = true := by simp
            clear HOK NUM hrX HG HO HRX
            have s1 : IntKind.i64.wrap ((n : Int) + (m : Int)) = (n : Int) + (m : Int) := IntWalk.i64_in _ (by omega)
            have s2 : IntKind.i64.wrap ((n : Int) + (m : Int) + 1) = (n : Int) + (m : Int) + 1 := IntWalk.i64_in _ (by omega)
            go_wp2_with fail
            go_region_held3 (fun w' => Chg [g] wr w') (first | exact (Chg.refl _ _).drew | assumption) (first | (go_at_call 9; refine IX.out.mono ?_; rintro e wI ⟨rfl, hgI, hcI⟩; have HGI := Lib.hid hgI; have hSI : Chg [g] wr wI := (Chg.refl [g] wr).drew.trans' hcI; clear hgI hcI) | (go_at_call 10; refine (NX _ (by assumption)).out.mono ?_; rintro e wN ⟨rfl, hbN, hSN⟩; have HGN := HGI.out.below hbN) | (go_at_call 11; refine (IC _ (by assumption)).out.mono ?_; rintro e wM ⟨rfl, rfl⟩))
            have HBN := Lib.hid (HB.out.trans (hSN.below HB.out.size (by simp; omega)))
            clear m0 m1 NX IX IC
            go_wp2_with fail
            go_ret
            exact ⟨rfl, HBN.out⟩
end Cp
end Go.Proofs.Ytnmgapokamkhpaa
