/- The walk of refmeshlaw19.awake; a disk of the call's own. -/
import Derived.Test.YtoallpinpeolfaaDkI
namespace Go.Proofs.Ytoallpinpeolfaa
open Go.RowKit
namespace Dk

section
variable {w0 : World} {g : Nat} {D : St} {w : World}
theorem Cm.ok.below {w w' : World} {m : Cm} (h : m.ok w) (hb : Below w.heap.size w w') : m.ok w' := ⟨Rd.below h.rd hb, h.s1, h.s2, h.n2, h.sl⟩
theorem own_step (h : Own w0 g D w) (m : Cm) (hm : m.ok w0) (hp : D.p.length ≤ 1000) :
    Calls Try.prog 20 #[.pointer (some ⟨g, 0, none⟩), m.val] w fun e w' => ∃ X n cx, e = .returned (.tuple #[.slice X n cx, .int .i64 (stE D m.c)]) ∧ n = (stL D m.c).length ∧ RB w' X (stL D m.c) ∧ n ≤ cx ∧ Own w0 g (stD D m.c) w' := by
  obtain ⟨M, E, h1, h2, h3⟩ := h
  refine (step_calls g M E D m w h1 (hm.below h3) hp (fun hsv b off e hx => ?_)).mono ?_
  · have := h2 b hx
    obtain ⟨b', off', e', hb', _⟩ := Rd.cells hm.rd (by rw [List.length_map]; exact List.length_pos_iff.2 hsv)
    rw [e] at e'; cases e'; omega
  · rintro e w' ⟨X, n, cx, rfl, hn, hr, hnc, hd⟩
    exact ⟨X, n, cx, rfl, hn, hr, hnc, Own.dk h2 h3 hd⟩
theorem own_bytes (h : Own w0 g D w) (x : UInt8) (n : Nat) (hn : n ≤ 100000) : Calls Try.prog 18 #[vb x, .int .i64 (n : Int)] w fun e w' => ∃ X c, e = .returned (.slice X n c) ∧ w'.ownsRow w.heap.size 5 1 (.slice X n c) n ((List.replicate n x).map vb) ∧ RB w' X (List.replicate n x) ∧ n ≤ c ∧ Below w.heap.size w w' ∧ Own w0 g D w' := by
  refine (bytes_calls x (n : Int) w (by omega)).mono ?_
  rintro e w' ⟨X, c, rfl, ho, hb⟩
  rw [Int.toNat_natCast, List.length_replicate] at ho
  rw [Int.toNat_natCast, List.length_replicate]
  obtain ⟨_, _, e1, hnc, _, _, hr⟩ := own_form ho
  cases e1
  exact ⟨X, c, rfl, ho, hr, hnc, hb, h.below hb⟩
end

def aw0 : St := newD 4
def aw1 : St := writeD aw0 1 (List.replicate 128 1)
def aw2 : St := writeD aw1 1 (List.replicate 64 2)
def aw3 : St := crashD aw2 [1]
theorem aw_e0 : writeE aw0 1 (List.replicate 128 1) = 0 := by decide +kernel
theorem aw_e1 : writeE aw1 1 (List.replicate 64 2) = 0 := by decide +kernel
theorem aw_r2 : readE aw2 1 1 = 0 := by decide +kernel
theorem aw_p2 : aw2.p.length = 2 := by decide +kernel
theorem aw_p1 : aw1.p.length = 1 := by decide +kernel
theorem aw_s2 : sameB (readL aw2 1 1) (List.replicate 64 2) = true := by decide +kernel
theorem aw_r3 : readE aw3 1 2 = 0 := by decide +kernel
theorem aw_s3 : sameB (readL aw3 1 2) (List.replicate 64 1 ++ List.replicate 64 0) = true := by decide +kernel

set_option maxRecDepth 100000 in
set_option maxHeartbeats 2000000 in
theorem awake_calls (w : World) : Calls Try.prog 8 #[] w fun e w' => e = .returned (.bool true) ∧ Below w.heap.size w w' := by
  go_enter Try.func8, Try.ntmps8
  go_wp2_with fail
  refine (own_new 4 (by omega) (by omega) (Below.refl _ w)).mono ?_
  rintro e w1 ⟨g, rfl, h1⟩
  have H1 := Lib.hid (show Own w g aw0 w1 from h1)
  clear h1
  go_wp2_with fail
  refine (own_bytes H1.out 1 128 (by omega)).mono ?_
  rintro e w2 ⟨X2, c2, rfl, _, r2, _, _, h2⟩
  have HR2 := Lib.hid r2
  have H2 := Lib.hid h2
  clear r2 h2
  go_wp2_with fail
  refine (own_write H2.out 1 X2 128 c2 _ (by simp) HR2.out (by omega) (by omega) (by omega) (by decide)).mono ?_
  rintro e w3 ⟨rfl, h3⟩
  rw [aw_e0]
  have H3 := Lib.hid (show Own w g aw1 w3 from h3)
  clear h3
  go_wp2_with fail
  refine (own_bytes H3.out 2 64 (by omega)).mono ?_
  rintro e w4 ⟨X4, c4, rfl, _, r4, _, _, h4⟩
  have HR4 := Lib.hid r4
  have H4 := Lib.hid h4
  clear r4 h4
  go_wp2_with fail
  refine (own_write H4.out 1 X4 64 c4 _ (by simp) HR4.out (by omega) (by omega) (by omega) (by rw [aw_p1]; omega)).mono ?_
  rintro e w5 ⟨rfl, h5⟩
  rw [aw_e1]
  have H5 := Lib.hid (show Own w g aw2 w5 from h5)
  clear h5
  go_wp2_with fail
  refine (own_read H5.out 1 1 (by omega) (by omega)).mono ?_
  rintro e w6 ⟨X6, n6, c6, rfl, hn6, r6, hc6, h6⟩
  rw [aw_r2]
  have HN6 := Lib.hid hn6
  have HR6 := Lib.hid r6
  have H6 := Lib.hid h6
  clear hn6 r6 h6
  go_wp2_with fail
  refine (own_pending H6.out).mono ?_
  rintro e w7 ⟨rfl, rfl⟩
  rw [aw_p2]
  go_wp2_with fail
  refine (own_bytes H6.out 2 64 (by omega)).mono ?_
  rintro e w8 ⟨X8, c8, rfl, _, r8, _, hb8, h8⟩
  have HR8 := Lib.hid r8
  have H8 := Lib.hid h8
  have HS8 := Lib.hid (same_calls X6 X8 n6 64 c6 c8 _ _ w8 HN6.out.symm (by simp) (RB.below HR6.out hb8) HR8.out)
  rw [aw_s2] at HS8
  clear r8 h8 hb8
  go_wp2_with fail
  refine HS8.out.mono ?_
  rintro e w9 ⟨rfl, rfl⟩
  go_wp2_with fail
  refine (own_crash_new H8.out [1] 3).mono ?_
  rintro e w10 ⟨rfl, h10⟩
  have H10 := Lib.hid (show Own w g aw3 w10 from h10)
  clear h10
  go_wp2_with fail
  refine (own_read H10.out 1 2 (by omega) (by omega)).mono ?_
  rintro e w11 ⟨X11, n11, c11, rfl, hn11, r11, hc11, h11⟩
  rw [aw_r3]
  have HN11 := Lib.hid hn11
  have HR11 := Lib.hid r11
  have H11 := Lib.hid h11
  clear hn11 r11 h11
  go_wp2_with fail
  refine (own_pending H11.out).mono ?_
  rintro e w12 ⟨rfl, rfl⟩
  rw [show (aw3.p.length : Int) = 0 from rfl]
  go_wp2_with fail
  refine (own_bytes H11.out 1 64 (by omega)).mono ?_
  rintro e w13 ⟨X13, c13, rfl, o13, _, _, hb13, h13⟩
  have HO13 := Lib.hid o13
  have HB13 := Lib.hid hb13
  have H13 := Lib.hid h13
  clear o13 hb13 h13
  go_wp2_with fail
  refine (own_bytes H13.out 0 64 (by omega)).mono ?_
  rintro e w14 ⟨X14, c14, rfl, _, r14, hc14, hb14, h14⟩
  have HR14 := Lib.hid r14
  have HO14 := Lib.hid (own_below HO13.out hb14)
  have HB14 := Lib.hid (HB13.out.trans (hb14.mono HB13.out.size))
  have H14 := Lib.hid h14
  clear r14 hb14 h14 HO13
  go_wp2_with (at_builtin; refine wpList_appSW _ rfl (.tmp 62) (.tmp 63) 30 rfl w11.heap.size 5 (.int .u8 0) 1 1 Try.underlying30 info_u8 rfl (by omega) (.slice X13 64 c13) 64 _ rfl HO14.out X14 64 c14 _ rfl (by simp) HR14.out (vb_one _) (by simp only [maxLen]; omega) (by omega) HB14.out.size ?_; intro X15 c15 w15 hown15 happ15; have HO15 := Lib.hid hown15; have HB15 := Lib.hid (HB14.out.trans ((happ15.below HO14.out HB14.out.size))); clear hown15 happ15)
  obtain ⟨_, _, e15, _, _, _, rr15⟩ := own_form HO15.out
  cases e15
  have HS15 := Lib.hid (same_calls X11 X15 n11 128 c11 c15 (readL aw3 1 2) (List.replicate 64 1 ++ List.replicate 64 0) w15 HN11.out.symm (by simp) (RB.below HR11.out HB15.out) (by unfold RB; rw [List.map_append]; exact rr15))
  rw [aw_s3] at HS15
  have HBF := Lib.hid (H11.out.b.trans (HB15.out.mono H11.out.b.size))
  clear rr15
  refine HS15.out.mono ?_
  rintro e w16 ⟨rfl, rfl⟩
  go_wp2_with fail
  go_ret
  exact ⟨rfl, HBF.out⟩
end Dk
end Go.Proofs.Ytoallpinpeolfaa
