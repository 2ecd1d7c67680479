/- The walk of refmeshlaw26.awake. -/
import Derived.Test.YtmdconcbelmdpaaLsF
namespace Go.Proofs.Ytmdconcbelmdpaa
open Go.RowKit
namespace Ls
open In (vi conB)

theorem step_calls (g : Nat) (v : Value) (L : St) (c : Cl) (w : World) (hL : IsL w g L) (hR : IsR w v L) (hf : c.fits) (hc1 : 0 ≤ L.c) (hc2 : L.c ≤ 1000) :
    Calls Try.prog 26 #[.pointer (some ⟨g, 0, none⟩), v, c.val] w (StepPost w g L c) := by
  by_cases h0 : c.kind = 0
  · exact step_heard g v L c w hL hR (.inl h0) hf
  · by_cases h1 : c.kind = 1
    · exact step_heard g v L c w hL hR (.inr h1) hf
    · by_cases h2 : c.kind = 2
      · exact step_next g v L c w hL hR h2 hc1 hc2
      · exact step_other g v L c w hL hR h0 h1 h2

def L1 : St := hear (fresh 3) 2 5 3
def L2 : St := { L1 with c := 1 }
def L3 : St := { L1 with c := 2 }

/-- the state and the frame in one word -/
def At (w : World) (g : Nat) (L : St) (w' : World) : Prop := IsL w' g L ∧ Below w.heap.size w w'
theorem At.chg {w w1 w2 : World} {g : Nat} {L L' : St} (h : At w g L w1) (hg : w.heap.size ≤ g) (hl : IsL w2 g L') (hc : Chg [g] w1 w2) : At w g L' w2 :=
  ⟨hl, h.2.trans (hc.below h.2.size (by simpa using hg))⟩
theorem At.below {w w1 w2 : World} {g : Nat} {L : St} (h : At w g L w1) (hb : Below w1.heap.size w1 w2) : At w g L w2 :=
  ⟨h.1.below hb, h.2.trans (hb.mono h.2.size)⟩

set_option maxRecDepth 100000 in
set_option maxHeartbeats 1000000 in
theorem awake_calls (w : World) : Calls Try.prog 10 #[] w fun e w' => e = .returned (.bool true) ∧ Below w.heap.size w w' := by
  obtain ⟨g, hg⟩ : ∃ g, g = w.heap.size := ⟨_, rfl⟩
  have HG := Lib.hid hg
  clear hg
  go_enter Try.func10, Try.ntmps10
  go_wp2_with fail
  refine (new_calls 3 w).mono ?_
  rintro e w1 ⟨rfl, hl, hb⟩
  rw [← HG.out] at hl
  rw [← HG.out]
  have H1 : Hid (At w g (fresh 3) w1) := ⟨hl, hb⟩
  clear hl hb
  go_wp2_with fail
  refine (heard_calls g (fresh 3) 2 5 3 w1 H1.out.1 (by omega) (by omega)).mono ?_
  rintro e w2 ⟨rfl, hl, hc⟩
  have H2 : Hid (At w g L1 w2) := H1.out.chg (by rw [HG.out]; exact Nat.le_refl _) hl hc
  clear hl hc H1
  have he : hearE (fresh 3) 2 5 3 = 0 := by decide +kernel
  rw [he]
  clear he
  go_wp2_with fail
  refine (next_calls g L1 w2 H2.out.1 (by decide +kernel) (by decide +kernel)).mono ?_
  rintro e w3 ⟨rfl, hl, hc⟩
  have H3 : Hid (At w g L2 w3) := H2.out.chg (by rw [HG.out]; exact Nat.le_refl _) hl hc
  clear hl hc H2
  have he : L1.c + 1 = 1 := by decide +kernel
  rw [he]
  clear he
  go_wp2_with fail
  refine (next_calls g L2 w3 H3.out.1 (by decide +kernel) (by decide +kernel)).mono ?_
  rintro e w4 ⟨rfl, hl, hc⟩
  have H4 : Hid (At w g L3 w4) := H3.out.chg (by rw [HG.out]; exact Nat.le_refl _) hl hc
  clear hl hc H3
  have he : L2.c + 1 = 2 := by decide +kernel
  rw [he]
  clear he
  go_wp2_with fail
  refine (overdue_calls g L3 7 _ 1 1 [2] _ (H4.out.below (below1 _ _)).1 rfl (by omega) (Rd.new w4 [vi 2] _ (0, 0)) (by omega)).mono ?_
  rintro e w5 ⟨X, c, rfl, _, hb⟩
  have he : od L3 7 [2] L3.m = [] := by decide +kernel
  rw [he]
  clear he
  have H5 : Hid (At w g L3 w5) := (H4.out.below (below1 _ _)).below hb
  clear hb H4
  go_wp2_with fail
  refine (overdue_calls g L3 8 _ 2 2 [2, 9] _ (H5.out.below (below1 _ _)).1 rfl (by omega) (Rd.new w5 [vi 2, vi 9] _ (0, 0)) (by omega)).mono ?_
  rintro e w6 ⟨X', c', rfl, hown, hb⟩
  have he : od L3 8 [2, 9] L3.m = [2] := by decide +kernel
  rw [he] at hown
  rw [he]
  clear he
  have H6 : Hid (At w g L3 w6) := (H5.out.below (below1 _ _)).below hb
  obtain ⟨_, _, e1, _, _, _, rX⟩ := own_form hown
  cases e1
  have RX := Lib.hid rX
  clear hb H5 hown rX
  go_wp2_with fail
  refine (In.ints_calls X' _ 1 1 c' 1 [2] [2] _ rfl rfl (by omega) (by omega) (Rd.below RX.out (below1 _ _)) (Rd.new w6 [vi 2] _ (0, 0))).mono ?_
  rintro e w7 ⟨rfl, hb⟩
  have he : In.eqB [2] [2] = true := by decide +kernel
  rw [he]
  clear he
  have H7 : Hid (At w g L3 w7) := (H6.out.below (below1 _ _)).below hb
  clear hb H6 RX
  go_wp2_with fail
  refine (round_calls g L3 2 w7 H7.out.1).mono ?_
  rintro e w8 ⟨rfl, rfl⟩
  have he : roundI L3 2 = 5 := by decide +kernel
  rw [he]
  clear he
  go_wp2_with fail
  refine (last_calls g L3 2 w7 H7.out.1).mono ?_
  rintro e w8 ⟨rfl, rfl⟩
  have he : lastI L3 2 = 3 := by decide +kernel
  rw [he]
  clear he
  go_wp2_with fail
  go_ret
  exact ⟨rfl, H7.out.2⟩
end Ls
end Go.Proofs.Ytmdconcbelmdpaa
