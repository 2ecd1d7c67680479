/- The walk of refmeshlaw19.awake; a disk of the call's own. -/
import Derived.Test.YtoallpinpeolfaaDkI
namespace Go.Proofs.Ytoallpinpeolfaa
open Go.RowKit
namespace Dk

/-- a disk that was made since w0 -/
def Own (w0 : World) (g : Nat) (D : St) (w : World) : Prop := ∃ M E, IsD w g M E D ∧ (∀ x ∈ M, w0.heap.size ≤ x) ∧ Below w0.heap.size w0 w
theorem Own.b {w0 w : World} {g : Nat} {D : St} (h : Own w0 g D w) : Below w0.heap.size w0 w := by obtain ⟨_, _, _, _, h⟩ := h; exact h
theorem Own.ok {w0 w : World} {g : Nat} {D : St} (h : Own w0 g D w) : D.ok := by obtain ⟨_, _, h, _⟩ := h; exact h.ok
theorem Own.below {w0 w w' : World} {g : Nat} {D : St} (h : Own w0 g D w) (hb : Below w.heap.size w w') : Own w0 g D w' := by
  obtain ⟨M, E, h1, h2, h3⟩ := h
  exact ⟨M, E, h1.below hb, h2, h3.trans (hb.mono h3.size)⟩
theorem Own.dk {w0 w w' : World} {g : Nat} {D' : St} {M E : List Nat} (hM : ∀ x ∈ M, w0.heap.size ≤ x) (hb : Below w0.heap.size w0 w) (hd : DkP w g M E D' w') : Own w0 g D' w' := by
  obtain ⟨M', E', k1, k2, k3, _⟩ := hd
  refine ⟨M', E', k1, fun x hx => ?_, hb.trans (k2.below hb.size hM)⟩
  rcases k3 x hx with h | h
  · exact hM x h
  · exact Nat.le_trans hb.size h
theorem RB.of_own {w : World} {B n c : Nat} {X : Option Addr} {l : List UInt8} (h : w.ownsRow B 5 1 (.slice X n c) n (l.map vb)) : RB w X l := by
  obtain ⟨_, _, e1, _, _, _, hr⟩ := own_form h
  cases e1; exact hr

section
variable {w0 : World} {g : Nat} {D : St} {w : World}
theorem own_write (h : Own w0 g D w) (s : Int) (B : Option Addr) (n c : Nat) (l : List UInt8) (hn : l.length = n) (hr : RB w B l) (hnm : n ≤ 9223372036854775807) (hs : -9223372036854775808 ≤ s) (hs2 : s ≤ 9223372036854775807) (hp : D.p.length ≤ 10000) :
    Calls Try.prog 14 #[.pointer (some ⟨g, 0, none⟩), .int .i64 s, .slice B n c] w fun e w' => e = .returned (.int .i64 (writeE D s l)) ∧ Own w0 g (writeD D s l) w' := by
  obtain ⟨M, E, h1, h2, h3⟩ := h
  exact (write_calls g M E D s B n c l w h1 hn hr hnm hs hs2 hp).mono fun _ _ ⟨a, b⟩ => ⟨a, Own.dk h2 h3 b⟩
theorem own_read (h : Own w0 g D w) (s k : Int) (hs : -9223372036854775808 ≤ s) (hs2 : s ≤ 9223372036854775807) :
    Calls Try.prog 16 #[.pointer (some ⟨g, 0, none⟩), .int .i64 s, .int .i64 k] w fun e w' => ∃ X n c, e = .returned (.tuple #[.slice X n c, .int .i64 (readE D s k)]) ∧ n = (readL D s k).length ∧ RB w' X (readL D s k) ∧ n ≤ c ∧ Own w0 g D w' := by
  obtain ⟨M, E, h1, h2, h3⟩ := h
  refine (read_calls g M E D s k w h1 hs hs2).mono ?_
  rintro e w' ⟨X, n, c, rfl, hn, ho, hb⟩
  obtain ⟨_, _, e1, hnc, _, _, hr⟩ := own_form ho
  cases e1
  exact ⟨X, n, c, rfl, hn, hr, hnc, M, E, h1.below hb, h2, h3.trans (hb.mono h3.size)⟩
theorem own_crash (h : Own w0 g D w) (Z : Option Addr) (zn zc : Nat) (sv : List Int) (hz : sv.length = zn) (hr : Rd w0 Z (sv.map (Value.int .i64))) :
    Calls Try.prog 15 #[.pointer (some ⟨g, 0, none⟩), .slice Z zn zc] w fun e w' => e = .returned (.tuple #[]) ∧ Own w0 g (crashD D sv) w' := by
  obtain ⟨M, E, h1, h2, h3⟩ := h
  refine (crash_calls g M E D Z zn zc sv w h1 hz (Rd.below hr h3) (fun hsv b off e hm => ?_)).mono fun _ _ ⟨a, b⟩ => ⟨a, Own.dk h2 h3 b⟩
  have := h2 b hm
  obtain ⟨b', off', e', hb', _⟩ := Rd.cells hr (by rw [List.length_map]; exact List.length_pos_iff.2 hsv)
  rw [e] at e'; cases e'; omega
/-- Crash whose cells were made since, outside the disk -/
theorem own_crash_own (h : Own w0 g D w) (Z : Option Addr) (zn zc : Nat) (sv : List Int) (hz : sv.length = zn) (hr : Rd w Z (sv.map (Value.int .i64))) (hZ : ∀ M E, IsD w g M E D → ∀ b off, Z = some ⟨b, off, none⟩ → b ∉ M) :
    Calls Try.prog 15 #[.pointer (some ⟨g, 0, none⟩), .slice Z zn zc] w fun e w' => e = .returned (.tuple #[]) ∧ Own w0 g (crashD D sv) w' := by
  obtain ⟨M, E, h1, h2, h3⟩ := h
  exact (crash_calls g M E D Z zn zc sv w h1 hz hr (fun _ => hZ M E h1)).mono fun _ _ ⟨a, b⟩ => ⟨a, Own.dk h2 h3 b⟩
/-- Crash with a literal's cells -/
theorem own_crash_new (h : Own w0 g D w) (sv : List Int) (T : TypeId) :
    Calls Try.prog 15 #[.pointer (some ⟨g, 0, none⟩), .slice (some ⟨w.heap.size, 0, none⟩) sv.length sv.length] (w.alloc (.cells (sv.map (Value.int .i64)).toArray T)) fun e w' => e = .returned (.tuple #[]) ∧ Own w0 g (crashD D sv) w' := by
  obtain ⟨M, E, h1, h2, h3⟩ := h
  have hb := below1 w (.cells (sv.map (Value.int .i64)).toArray T)
  refine (crash_calls g M E D _ _ _ sv _ (h1.below hb) rfl (Rd.new w _ _ _) (fun _ b off e hm => ?_)).mono fun _ _ ⟨a, b⟩ => ⟨a, Own.dk h2 (h3.trans (hb.mono h3.size)) b⟩
  cases e
  have := h1.ml _ hm
  omega
theorem Cm.ok.below {w w' : World} {m : Cm} (h : m.ok w) (hb : Below w.heap.size w w') : m.ok w' := ⟨Rd.below h.rd hb, h.s1, h.s2, h.n2, h.sl⟩
theorem own_step (h : Own w0 g D w) (m : Cm) (hm : m.ok w0) (hp : D.p.length ≤ 1000) :
    Calls Try.prog 20 #[.pointer (some ⟨g, 0, none⟩), m.val] w fun e w' => ∃ X n cx, e = .returned (.tuple #[.slice X n cx, .int .i64 (stE D m.c)]) ∧ n = (stL D m.c).length ∧ RB w' X (stL D m.c) ∧ n ≤ cx ∧ Own w0 g (stD D m.c) w' := by
  obtain ⟨M, E, h1, h2, h3⟩ := h
  refine (step_calls g M E D m w h1 (hm.below h3) hp (fun hsv b off e hx => ?_)).mono ?_
  · have := h2 b hx
    obtain ⟨b', off', e', hb', _⟩ := Rd.cells hm.rd (by rw [List.length_map]; exact List.length_pos_iff.2 hsv)
    rw [e] at e'; cases e'; omega
  · rintro e w' ⟨X, n, cx, rfl, hn, hr, hnc, hd⟩
    exact ⟨X, n, cx, rfl, hn, hr, hnc, Own.dk h2 h3 hd⟩
theorem own_sync (h : Own w0 g D w) :
    Calls Try.prog 21 #[.pointer (some ⟨g, 0, none⟩)] w fun e w' => e = .returned (.int .i64 (syncE D)) ∧ Own w0 g (syncD D) w' := by
  obtain ⟨M, E, h1, h2, h3⟩ := h
  exact (sync_calls g M E D w h1).mono fun _ _ ⟨a, b⟩ => ⟨a, Own.dk h2 h3 b⟩
theorem own_fail (h : Own w0 g D w) (n : Int) (hn : n ≤ 9223372036854775807) :
    Calls Try.prog 22 #[.pointer (some ⟨g, 0, none⟩), .int .i64 n] w fun e w' => e = .returned (.tuple #[]) ∧ Own w0 g (failD D n) w' := by
  obtain ⟨M, E, h1, h2, h3⟩ := h
  exact (failAfter_calls g M E D n w h1 hn).mono fun _ _ ⟨a, b, c⟩ => ⟨a, Own.dk h2 h3 (DkP.of_g b h1.mg c)⟩
theorem own_pending (h : Own w0 g D w) : Calls Try.prog 24 #[.pointer (some ⟨g, 0, none⟩)] w fun e w' => e = .returned (.int .i64 (D.p.length : Int)) ∧ w = w' := by
  obtain ⟨M, E, h1, _, _⟩ := h
  exact pending_calls g M E D w h1
theorem own_failed (h : Own w0 g D w) : Calls Try.prog 23 #[.pointer (some ⟨g, 0, none⟩)] w fun e w' => e = .returned (.bool D.x) ∧ w = w' := by
  obtain ⟨M, E, h1, _, _⟩ := h
  exact failed_calls g M E D w h1
theorem own_new (z : Nat) (hz : 1 ≤ z) (hz2 : z ≤ 65536) (h0 : Below w0.heap.size w0 w) : Calls Try.prog 10 #[.int .i64 (z : Int)] w fun e w' => ∃ g, e = .returned (.tuple #[.pointer (some ⟨g, 0, none⟩), .int .i64 0]) ∧ Own w0 g (newD z) w' := by
  refine (new_calls (z : Int) w).mono ?_
  rintro e w' (⟨h1, _⟩ | ⟨_, _, g, M, rfl, h1, h2, h3⟩)
  · omega
  · rw [Int.toNat_natCast] at h1
    exact ⟨g, rfl, M, [], h1, fun x hx => Nat.le_trans h0.size (h2 x hx), h0.trans (h3.mono h0.size)⟩
theorem own_bytes (h : Own w0 g D w) (x : UInt8) (n : Nat) (hn : n ≤ 100000) : Calls Try.prog 18 #[vb x, .int .i64 (n : Int)] w fun e w' => ∃ X c, e = .returned (.slice X n c) ∧ w'.ownsRow w.heap.size 5 1 (.slice X n c) n ((List.replicate n x).map vb) ∧ RB w' X (List.replicate n x) ∧ n ≤ c ∧ Below w.heap.size w w' ∧ Own w0 g D w' := by
  refine (bytes_calls x (n : Int) w (by omega)).mono ?_
  rintro e w' ⟨X, c, rfl, ho, hb⟩
  rw [Int.toNat_natCast, List.length_replicate] at ho
  rw [Int.toNat_natCast, List.length_replicate]
  obtain ⟨_, _, e1, hnc, _, _, hr⟩ := own_form ho
  cases e1
  exact ⟨X, c, rfl, ho, hr, hnc, hb, h.below hb⟩
end

def aw0 : St := newD 4
def aw1 : St := writeD aw0 1 (List.replicate 128 1)
def aw2 : St := writeD aw1 1 (List.replicate 64 2)
def aw3 : St := crashD aw2 [1]
theorem aw_e0 : writeE aw0 1 (List.replicate 128 1) = 0 := by decide +kernel
theorem aw_e1 : writeE aw1 1 (List.replicate 64 2) = 0 := by decide +kernel
theorem aw_r2 : readE aw2 1 1 = 0 := by decide +kernel
theorem aw_p2 : aw2.p.length = 2 := by decide +kernel
theorem aw_p1 : aw1.p.length = 1 := by decide +kernel
theorem aw_s2 : sameB (readL aw2 1 1) (List.replicate 64 2) = true := by decide +kernel
theorem aw_r3 : readE aw3 1 2 = 0 := by decide +kernel
theorem aw_s3 : sameB (readL aw3 1 2) (List.replicate 64 1 ++ List.replicate 64 0) = true := by decide +kernel

set_option maxRecDepth 100000 in
set_option maxHeartbeats 2000000 in
theorem awake_calls (w : World) : Calls Try.prog 8 #[] w fun e w' => e = .returned (.bool true) ∧ Below w.heap.size w w' := by
  go_enter Try.func8, Try.ntmps8
  go_wp2_with fail
  refine (own_new 4 (by omega) (by omega) (Below.refl _ w)).mono ?_
  rintro e w1 ⟨g, rfl, h1⟩
  have H1 := Lib.hid (show Own w g aw0 w1 from h1)
  clear h1
  go_wp2_with fail
  refine (own_bytes H1.out 1 128 (by omega)).mono ?_
  rintro e w2 ⟨X2, c2, rfl, _, r2, _, _, h2⟩
  have HR2 := Lib.hid r2
  have H2 := Lib.hid h2
  clear r2 h2
  go_wp2_with fail
  refine (own_write H2.out 1 X2 128 c2 _ (by simp) HR2.out (by omega) (by omega) (by omega) (by decide)).mono ?_
  rintro e w3 ⟨rfl, h3⟩
  rw [aw_e0]
  have H3 := Lib.hid (show Own w g aw1 w3 from h3)
  clear h3
  go_wp2_with fail
  refine (own_bytes H3.out 2 64 (by omega)).mono ?_
  rintro e w4 ⟨X4, c4, rfl, _, r4, _, _, h4⟩
  have HR4 := Lib.hid r4
  have H4 := Lib.hid h4
  clear r4 h4
  go_wp2_with fail
  refine (own_write H4.out 1 X4 64 c4 _ (by simp) HR4.out (by omega) (by omega) (by omega) (by rw [aw_p1]; omega)).mono ?_
  rintro e w5 ⟨rfl, h5⟩
  rw [aw_e1]
  have H5 := Lib.hid (show Own w g aw2 w5 from h5)
  clear h5
  go_wp2_with fail
  refine (own_read H5.out 1 1 (by omega) (by omega)).mono ?_
  rintro e w6 ⟨X6, n6, c6, rfl, hn6, r6, hc6, h6⟩
  rw [aw_r2]
  have HN6 := Lib.hid hn6
  have HR6 := Lib.hid r6
  have H6 := Lib.hid h6
  clear hn6 r6 h6
  go_wp2_with fail
  refine (own_pending H6.out).mono ?_
  rintro e w7 ⟨rfl, rfl⟩
  rw [aw_p2]
  go_wp2_with fail
  refine (own_bytes H6.out 2 64 (by omega)).mono ?_
  rintro e w8 ⟨X8, c8, rfl, _, r8, _, hb8, h8⟩
  have HR8 := Lib.hid r8
  have H8 := Lib.hid h8
  have HS8 := Lib.hid (same_calls X6 X8 n6 64 c6 c8 _ _ w8 HN6.out.symm (by simp) (RB.below HR6.out hb8) HR8.out)
  rw [aw_s2] at HS8
  clear r8 h8 hb8
  go_wp2_with fail
  refine HS8.out.mono ?_
  rintro e w9 ⟨rfl, rfl⟩
  go_wp2_with fail
  refine (own_crash_new H8.out [1] 3).mono ?_
  rintro e w10 ⟨rfl, h10⟩
  have H10 := Lib.hid (show Own w g aw3 w10 from h10)
  clear h10
  go_wp2_with fail
  refine (own_read H10.out 1 2 (by omega) (by omega)).mono ?_
  rintro e w11 ⟨X11, n11, c11, rfl, hn11, r11, hc11, h11⟩
  rw [aw_r3]
  have HN11 := Lib.hid hn11
  have HR11 := Lib.hid r11
  have H11 := Lib.hid h11
  clear hn11 r11 h11
  go_wp2_with fail
  refine (own_pending H11.out).mono ?_
  rintro e w12 ⟨rfl, rfl⟩
  rw [show (aw3.p.length : Int) = 0 from rfl]
  go_wp2_with fail
  refine (own_bytes H11.out 1 64 (by omega)).mono ?_
  rintro e w13 ⟨X13, c13, rfl, o13, _, _, hb13, h13⟩
  have HO13 := Lib.hid o13
  have HB13 := Lib.hid hb13
  have H13 := Lib.hid h13
  clear o13 hb13 h13
  go_wp2_with fail
  refine (own_bytes H13.out 0 64 (by omega)).mono ?_
  rintro e w14 ⟨X14, c14, rfl, _, r14, hc14, hb14, h14⟩
  have HR14 := Lib.hid r14
  have HO14 := Lib.hid (own_below HO13.out hb14)
  have HB14 := Lib.hid (HB13.out.trans (hb14.mono HB13.out.size))
  have H14 := Lib.hid h14
  clear r14 hb14 h14 HO13
  go_wp2_with (at_builtin; refine wpList_appSW _ rfl (.tmp 62) (.tmp 63) 30 rfl w11.heap.size 5 (.int .u8 0) 1 1 Try.underlying30 info_u8 rfl (by omega) (.slice X13 64 c13) 64 _ rfl HO14.out X14 64 c14 _ rfl (by simp) HR14.out (vb_one _) (by simp only [maxLen]; omega) (by omega) HB14.out.size ?_; intro X15 c15 w15 hown15 happ15; have HO15 := Lib.hid hown15; have HB15 := Lib.hid (HB14.out.trans ((happ15.below HO14.out HB14.out.size))); clear hown15 happ15)
  obtain ⟨_, _, e15, _, _, _, rr15⟩ := own_form HO15.out
  cases e15
  have HS15 := Lib.hid (same_calls X11 X15 n11 128 c11 c15 (readL aw3 1 2) (List.replicate 64 1 ++ List.replicate 64 0) w15 HN11.out.symm (by simp) (RB.below HR11.out HB15.out) (by unfold RB; rw [List.map_append]; exact rr15))
  rw [aw_s3] at HS15
  have HBF := Lib.hid (H11.out.b.trans (HB15.out.mono H11.out.b.size))
  clear rr15
  refine HS15.out.mono ?_
  rintro e w16 ⟨rfl, rfl⟩
  go_wp2_with fail
  go_ret
  exact ⟨rfl, HBF.out⟩
end Dk
end Go.Proofs.Ytoallpinpeolfaa
