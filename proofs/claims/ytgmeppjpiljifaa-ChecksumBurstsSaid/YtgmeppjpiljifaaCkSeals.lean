/- The walk of refmeshlaw04.ChecksumSeals. -/
import Derived.Test.YtgmeppjpiljifaaCkG
import Derived.Test.YtgmeppjpiljifaaCkSums
import Derived.Test.YtgmeppjpiljifaaCrc2
import Derived.Deep.RegionWith
namespace Go.Proofs.Ytgmeppjpiljifaa
open Go.RowKit
namespace Ck

theorem own_set {w : World} {B g n cap : Nat} {e : TypeId} {xs : List Value} (h : w.ownsRow B e 1 (.slice (some ⟨g, 0, none⟩) n cap) n xs) (j : Nat) (u : Value) (hj : j < n) :
    (w.setCell ⟨g, j, none⟩ u).ownsRow B e 1 (.slice (some ⟨g, 0, none⟩) n cap) n (xs.set j u) := by
  have h1 := h.stored j u
  simpa using h1.1

set_option maxRecDepth 100000 in
set_option maxHeartbeats 1000000 in
theorem seals_calls (w : World) (A : Option Addr) (n cap : Nat) (l : List UInt8) (hn : l.length = n) (hnc : n ≤ cap) (_hm : cap ≤ maxLen) (hr : RB w A l) (at_ : Int) (ha0 : 0 ≤ at_) (ha1 : at_ ≤ 65535) (to : UInt8) :
    Calls Try.prog 6 #[.slice A n cap, .int .u16 at_, vb to] w fun e w' => e = .returned (.bool true) ∧ Below w.heap.size w w' := by
  have HF := fun w1 : World => Lib.hid (few_calls (some ⟨w1.heap.size, 0, none⟩) 1 1 [(A, n, cap)] (w1.alloc (.cells #[.slice A n cap] 23)) rfl (by simp [maxLen]) (Rd.new _ _ _ _))
  by_cases h6 : n ≤ 600
  · have HS := fun w1 hb => Lib.hid (seal_calls A n cap l w1 hn (by omega) (hr.below hb))
    have HRS := fun w1 hb => Lib.hid (rseal_calls A n cap l w1 hn (by omega) (hr.below hb))
    have HSt := fun w1 (hb : Below w.heap.size w w1) => Lib.hid (run_str (P := Try.prog) n cap 23 5 9 Try.underlying23 Try.underlying5 Try.underlying9 hn (hr.below hb))
    have hls : (Crc.sealed l).length = n + 8 := by simp [Crc.sealed, Crc.le8_length, hn]
    clear hnc _hm hr
    rw [few_one n h6] at HF
    go_enter Try.func6, Try.ntmps6
    go_wp2_with fail
    refine (HF w).out.mono ?_
    rintro e w1 ⟨rfl, rfl⟩
    have hb : Below w.heap.size w (w.alloc (.cells #[.slice A n cap] 23)) := (Below.refl _ _).alloc (Nat.le_refl _) _
    generalize w.alloc (.cells #[.slice A n cap] 23) = w1 at *
    go_wp2_with fail
    refine (HS w1 hb).out.mono ?_
    rintro e w2 ⟨v, rfl, hown, hb2⟩
    have hws : w1.heap.size ≤ w2.heap.size := hb2.size
    have HWS := Lib.hid hb.size
    replace hb := hb.trans (hb2.mono hb.size)
    clear hb2
    have hown' := own_base hown HWS.out
    clear hown
    rcases hown'.2 with ⟨_, h0⟩ | ⟨g, cx, cur, rfl, hg, _, hncx, _⟩
    · omega
    have HOwn := Lib.hid hown'
    obtain ⟨_, _, hv, _, _, _, hrx⟩ := own_form hown'
    cases hv
    clear hown'
    go_wp2_with fail
    refine (open_calls _ (n + 8) cx (Crc.sealed l) w2 hls hncx (by omega) hrx).mono ?_
    rintro e w3 ⟨hb3, hcase⟩
    rw [Crc.opened_sealed] at hcase
    rcases hcase with ⟨ho, _⟩ | ⟨x, v3, ho, rfl, hown3⟩
    · cases ho
    obtain rfl : l = x := Option.some.inj ho
    clear ho
    have HO3 : Hid (w3.ownsRow w.heap.size 5 1 (.slice (some ⟨g, 0, none⟩) (n + 8) cx) (n + 8) ((Crc.sealed l).map vb)) := own_below HOwn.out hb3
    have hbw : Below w.heap.size w w3 := hb.trans (hb3.mono hb.size)
    obtain ⟨X, cy, rfl, _, _, hlx, hrx3⟩ := own_form hown3
    have hcs : ∀ w', Below w3.heap.size w3 w' → (convert 23 9 (.slice (some ⟨g, 0, none⟩) (n + 8) cx)).run Try.prog w' = .ok (.string ⟨(Crc.sealed l).toArray⟩) w' := fun w' hb' =>
      run_str (P := Try.prog) (n + 8) cx 23 5 9 Try.underlying23 Try.underlying5 Try.underlying9 hls (RB.below (RB.below hrx hb3) hb')
    have hcx : ∀ w', Below w3.heap.size w3 w' → (convert 23 9 (.slice X n cy)).run Try.prog w' = .ok (.string ⟨l.toArray⟩) w' := fun w' hb' =>
      run_str (P := Try.prog) n cy 23 5 9 Try.underlying23 Try.underlying5 Try.underlying9 hn (RB.below hrx3 hb')
    have hcb : ∀ w', Below w3.heap.size w3 w' → (convert 23 9 (.slice A n cap)).run Try.prog w' = .ok (.string ⟨l.toArray⟩) w' := fun w' hb' =>
      (HSt w' (hbw.trans (hb'.mono hbw.size))).out
    have HRS4 : ∀ w', Below w3.heap.size w3 w' → Hid (Calls Try.prog 19 #[.slice A n cap] w' fun e w'' => ∃ v, e = .returned v ∧ w''.ownsRow w'.heap.size 5 1 v (n + 8) ((Crc.sealed l).map vb) ∧ Below w3.heap.size w3 w'') := fun w' hb' =>
      (HRS w' (hbw.trans (hb'.mono hbw.size))).out.mono fun e w'' ⟨v, he, ho, hbb⟩ => ⟨v, he, ho, hb'.trans (hbb.mono hb'.size)⟩
    have hd0 : (((n + 8 : Nat) : Int) == 0) = false := by simp; omega
    have hd1 : ((n : Int) + 8 == 0) = false := by simp; omega
    clear HS HRS HSt HF hrx hrx3 hown3 HOwn hlx hb hb3
    go_wp2_with fail
    go_region_held (fun w' => Below w3.heap.size w3 w')
      (first | exact (Below.refl _ _).drew | assumption)
      (first | (go_at_call 19; refine (HRS4 _ (by assumption)).out.mono ?_; rintro e w4 ⟨v4, rfl, hown4, hb4⟩; obtain ⟨Y, cz, rfl, _, _, hly, hry⟩ := own_form hown4; have hcv4 := run_str (P := Try.prog) (n + 8) cz 23 5 9 Try.underlying23 Try.underlying5 Try.underlying9 hls hry; clear hown4))
    have hb : Below w.heap.size w w4 := hbw.trans (hb4.mono hbw.size)
    have HO4 : Hid (w4.ownsRow w.heap.size 5 1 (.slice (some ⟨g, 0, none⟩) (n + 8) cx) (n + 8) ((Crc.sealed l).map vb)) := own_below HO3.out hb4
    obtain ⟨i, hi⟩ : ∃ i : Nat, at_ % ((n : Int) + 8) = (i : Int) := ⟨(at_ % ((n : Int) + 8)).toNat, by have := Int.emod_nonneg at_ (b := (n : Int) + 8) (by omega); omega⟩
    have hin : i < n + 8 := by have := Int.emod_lt_of_pos at_ (b := (n : Int) + 8) (by omega); omega
    have his : i < (Crc.sealed l).length := by omega
    have hcell : w4.cell? ⟨g, i, none⟩ = some (vb (Crc.sealed l)[i]) := by
      rw [HO4.out.cellAt i (by omega)]; simp [his]
    have hfr : w4.frozen? ⟨g, i, none⟩ = false := HO4.out.frozenAt i
    have HCh := Lib.hid (Crc.opened_changed l i to his)
    clear hcs hcx hcb HRS4 HO3 hbw hb4 hcv4 hry hly
    by_cases hto : (Crc.sealed l)[i] = to
    · rw [hto] at hcell
      clear HCh hto
      go_wp2_with fail
      refine (awake_calls _).mono ?_
      rintro e w5 ⟨rfl, hb2⟩
      replace hb := hb.trans (hb2.mono hb.size)
      clear hb2
      go_wp2_with fail
      go_ret
      exact ⟨rfl, hb⟩
    · have hne : (((Crc.sealed l)[i].toNat : Int) == (to.toNat : Int)) = false := by
        rw [beq_eq_false_iff_ne]; intro hc; exact hto (UInt8.toNat_inj.1 (by omega))
      have HOp := Lib.hid (HCh.out hto)
      generalize (Crc.sealed l)[i] = y at *
      clear HCh hto
      go_wp2_with fail
      have hown5 := own_set HO4.out i (vb to) hin
      have hb5 := hb.setCell (p := ⟨g, i, none⟩) hg (vb to)
      rw [show ((Crc.sealed l).map vb).set i (vb to) = (((Crc.sealed l).set i to).map vb) from by rw [List.map_set]] at hown5
      generalize w4.setCell ⟨g, i, none⟩ (vb to) = w5 at *
      obtain ⟨_, _, hv, _, _, _, hr5⟩ := own_form hown5
      cases hv
      refine (open_calls _ (n + 8) cx _ w5 (by simpa using hls) hncx (by omega) hr5).mono ?_
      rintro e w6 ⟨hb6, hcase⟩
      rw [HOp.out] at hcase
      rcases hcase with ⟨_, rfl⟩ | ⟨x, v3, ho, _⟩
      · replace hb := hb5.trans (hb6.mono hb5.size)
        clear hb5 hb6 hown5 hr5 HOp HO4 hcell hfr
        go_wp2_with fail
        refine (awake_calls _).mono ?_
        rintro e w7 ⟨rfl, hb2⟩
        replace hb := hb.trans (hb2.mono hb.size)
        clear hb2
        go_wp2_with fail
        go_ret
        exact ⟨rfl, hb⟩
      · cases ho
  · rw [few_one' n h6] at HF
    go_enter Try.func6, Try.ntmps6
    go_wp2_with fail
    refine (HF w).out.mono ?_
    rintro e w1 ⟨rfl, rfl⟩
    have hb : Below w.heap.size w (w.alloc (.cells #[.slice A n cap] 23)) := (Below.refl _ _).alloc (Nat.le_refl _) _
    generalize w.alloc (.cells #[.slice A n cap] 23) = w1 at *
    go_wp2_with fail
    refine (awake_calls _).mono ?_
    rintro e w4 ⟨rfl, hb2⟩
    replace hb := hb.trans (hb2.mono hb.size)
    clear hb2
    go_wp2_with fail
    go_ret
    exact ⟨rfl, hb⟩
end Ck
end Go.Proofs.Ytgmeppjpiljifaa
