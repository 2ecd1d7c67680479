/- The walks of siphash's rounds and words. -/
import Derived.Test.YtnmgapokamkhpaaSpA
namespace Go.Proofs.Ytnmgapokamkhpaa
open Go.RowKit
namespace Sp
open Sip
attribute [local go_sem ↓] Go.wp_at_zero Go.wp_at_succ

def h01 (s : S4) : S4 := { s with a := s.a + s.b, b := rot s.b 13 ^^^ (s.a + s.b) }
def h23 (s : S4) : S4 := { s with c := s.c + s.d, d := rot s.d 16 ^^^ (s.c + s.d) }
def h03 (s : S4) : S4 := { s with a := s.a + s.d, d := rot s.d 21 ^^^ (s.a + s.d) }
def h21 (s : S4) : S4 := { s with c := s.c + s.b, b := rot s.b 17 ^^^ (s.c + s.b) }
def ra (s : S4) : S4 := { s with a := rot s.a 32 }
def rc (s : S4) : S4 := { s with c := rot s.c 32 }
theorem r1_eq (s : S4) : rc (h21 (h03 (h23 (ra (h01 s))))) = r1 s := rfl


set_option maxRecDepth 100000 in
set_option maxHeartbeats 1000000 in
theorem rounds_calls (n : Nat) (hn : n ≤ 100) (g : Nat) (t : TypeId) (s : S4) (tl : List Value) (w : World) (h : Q4 w g t s tl) :
    Calls Try.prog 44 #[.pointer (some ⟨g, 0, none⟩), .int .i64 n] w fun e w' => e = .returned (.tuple #[]) ∧ Q4 w' g t (rn n s) tl ∧ Chg [g] w w' := by
  have HQ := Lib.hid h
  clear h
  go_enter Try.func44, Try.ntmps44
  go_wp2_with fail
  go_loopw [5] (fun i wr => ∃ k : Nat, k ≤ n ∧ i = .int .i64 k ∧ Q4 wr g t (rn k s) tl ∧ Chg [g] w wr) (fun i _ => n - (intOf i).toNat)
  case atStart => exact ⟨0, Nat.zero_le _, rfl, HQ.out, Chg.refl _ _⟩
  case round =>
    obtain ⟨k, hk, rfl, hq, hc⟩ := hrel
    by_cases hlt : k < n
    · have HS : Hid (rn (k + 1) s = r1 (rn k s)) := rfl
      generalize rn k s = u0 at *
      have H0 := Lib.hid hq
      have C0 := Lib.hid hc
      clear hq hc
      go_wp2_with fail; refine (half01_calls g t _ tl _ H0.out).mono ?_; rintro e w1 ⟨rfl, hq, hc⟩; obtain ⟨u1, U1⟩ : ∃ x, Hid (x = h01 u0) := ⟨_, rfl⟩; have H1 : Hid (Q4 w1 g t u1 tl) := by rw [U1.out]; exact hq
      have C1 := Lib.hid (C0.out.trans' hc); clear hq hc H0 C0
      have c0 := H1.out.at0
      have f0 := H1.out.fr (j := 0)
      go_wp2_with fail
      go_region_with (go_at_call 46; refine (rot32_calls _ _).mono ?_; rintro e w' ⟨rfl, rfl⟩)
      obtain ⟨u2, U2⟩ : ∃ x, Hid (x = ra u1) := ⟨_, rfl⟩
      have H2 : Hid (Q4 (w1.setCell ⟨g, 0, none⟩ (vw (rot u1.a 32))).drew g t u2 tl) := by rw [U2.out]; exact H1.out.set0 _
      have C2 := Lib.hid ((C1.out.trans' (chg_set w1 g 0 (vw (rot u1.a 32)))).drew)
      clear c0 f0 H1 C1
      generalize (w1.setCell ⟨g, 0, none⟩ (vw (rot u1.a 32))).drew = w2 at *
      go_wp2_with fail; refine (half23_calls g t _ tl _ H2.out).mono ?_; rintro e w3 ⟨rfl, hq, hc⟩; obtain ⟨u3, U3⟩ : ∃ x, Hid (x = h23 u2) := ⟨_, rfl⟩; have H3 : Hid (Q4 w3 g t u3 tl) := by rw [U3.out]; exact hq
      have C3 := Lib.hid (C2.out.trans' hc); clear hq hc H2 C2
      go_wp2_with fail; refine (half03_calls g t _ tl _ H3.out).mono ?_; rintro e w4 ⟨rfl, hq, hc⟩; obtain ⟨u4, U4⟩ : ∃ x, Hid (x = h03 u3) := ⟨_, rfl⟩; have H4 : Hid (Q4 w4 g t u4 tl) := by rw [U4.out]; exact hq
      have C4 := Lib.hid (C3.out.trans' hc); clear hq hc H3 C3
      go_wp2_with fail; refine (half21_calls g t _ tl _ H4.out).mono ?_; rintro e w5 ⟨rfl, hq, hc⟩; obtain ⟨u5, U5⟩ : ∃ x, Hid (x = h21 u4) := ⟨_, rfl⟩; have H5 : Hid (Q4 w5 g t u5 tl) := by rw [U5.out]; exact hq
      have C5 := Lib.hid (C4.out.trans' hc); clear hq hc H4 C4
      have c0 := H5.out.at2
      have f0 := H5.out.fr (j := 2)
      go_wp2_with fail
      go_region_with (go_at_call 46; refine (rot32_calls _ _).mono ?_; rintro e w' ⟨rfl, rfl⟩)
      obtain ⟨u6, U6⟩ : ∃ x, Hid (x = rc u5) := ⟨_, rfl⟩
      have H6 : Hid (Q4 (w5.setCell ⟨g, 2, none⟩ (vw (rot u5.c 32))).drew g t u6 tl) := by rw [U6.out]; exact H5.out.set2 _
      have C6 := Lib.hid ((C5.out.trans' (chg_set w5 g 2 (vw (rot u5.c 32)))).drew)
      clear c0 f0 H5 C5
      generalize (w5.setCell ⟨g, 2, none⟩ (vw (rot u5.c 32))).drew = w6 at *
      have HF : Hid (rn (k + 1) s = u6) := by
        show _ = _
        rw [HS.out, ← r1_eq, U6.out, U5.out, U4.out, U3.out, U2.out, U1.out]
      go_wp2_with fail
      go_roundw
      case rel => exact ⟨k + 1, by omega, by go_num, by rw [HF.out]; exact H6.out, C6.out⟩
      case measure => simp [intOf]; omega
    · obtain rfl : k = n := by omega
      have H0 := Lib.hid hq
      have C0 := Lib.hid hc
      clear hq hc
      go_wp2_with fail
      go_end0
      exact ⟨rfl, H0.out, C0.out⟩

set_option maxRecDepth 100000 in
set_option maxHeartbeats 1000000 in
theorem word_calls (m : BitVec 64) (g : Nat) (t : TypeId) (s : S4) (tl : List Value) (w : World) (h : Q4 w g t s tl) :
    Calls Try.prog 43 #[.pointer (some ⟨g, 0, none⟩), vw m] w fun e w' => e = .returned (.tuple #[]) ∧ Q4 w' g t (absorb s m) tl ∧ Chg [g] w w' := by
  have c0 := h.at3
  have f0 := h.fr (j := 3)
  have HQ := Lib.hid h
  clear h
  go_enter Try.func43, Try.ntmps43
  go_wp2_with fail
  go_region
  rw [xor_bv]
  have H1 : Hid (Q4 (w.setCell ⟨g, 3, none⟩ (vw (s.d ^^^ m))).drew g t { s with d := s.d ^^^ m } tl) := HQ.out.set3 _
  have C1 : Hid (Chg [g] w (w.setCell ⟨g, 3, none⟩ (vw (s.d ^^^ m))).drew) := (chg_set _ _ _ _).drew
  clear HQ c0 f0
  generalize (w.setCell ⟨g, 3, none⟩ (vw (s.d ^^^ m))).drew = w1 at *
  go_wp2_with fail
  refine (rounds_calls 2 (by omega) g t _ tl w1 H1.out).mono ?_
  rintro e w2 ⟨rfl, hq, hc⟩
  obtain ⟨u, U⟩ : ∃ x, Hid (x = rn 2 { s with d := s.d ^^^ m }) := ⟨_, rfl⟩
  have H2 : Hid (Q4 w2 g t u tl) := by rw [U.out]; exact hq
  have C2 := Lib.hid (C1.out.trans' hc)
  clear hq hc H1 C1
  have c0 := H2.out.at0
  have f0 := H2.out.fr (j := 0)
  go_wp2_with fail
  go_region
  rw [xor_bv]
  have HA : Hid (absorb s m = { u with a := u.a ^^^ m }) := by show _ = _; rw [U.out]; rfl
  go_end0
  rw [HA.out]
  exact ⟨rfl, H2.out.set0 _, (C2.out.trans' (chg_set _ _ _ _)).drew⟩
end Sp
end Go.Proofs.Ytnmgapokamkhpaa
