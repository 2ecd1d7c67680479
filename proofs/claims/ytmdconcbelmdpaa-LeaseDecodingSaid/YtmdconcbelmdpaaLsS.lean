/- The walk of the law LeaseDecoding. -/
import Derived.Test.YtmdconcbelmdpaaLsR
namespace Go.Proofs.Ytmdconcbelmdpaa
open Go.RowKit
namespace Ls
open Wr Wi

set_option maxRecDepth 100000 in
set_option maxHeartbeats 2000000 in
theorem decoding_law (w : World) (A : Option Addr) (n ca : Nat) (l : List UInt8) (hl : l.length = n) (hnc : n ≤ ca) (hcm : ca ≤ maxLen) (hr : RB w A l) :
    Calls Try.prog 9 #[.slice A n ca] w (Yes w) := by
  have HL := Lib.hid hl
  have HR := Lib.hid hr
  clear hl hr
  by_cases hb : 300 < n
  · have d1 : decide ((300 : Int) < (n : Int)) = true := by simp; omega
    go_enter Try.func9, Try.ntmps9
    go_wp2_with fail
    refine (awake_calls w).mono ?_
    rintro e w1 ⟨rfl, hb1⟩
    have B1 := Lib.hid hb1
    clear hb1
    go_wp2_with fail
    go_ret
    exact ⟨rfl, B1.out⟩
  · have d1 : decide ((300 : Int) < (n : Int)) = false := by simp; omega
    have hn3 : n ≤ 300 := by omega
    go_enter Try.func9, Try.ntmps9
    go_wp2_with fail
    refine (awake_calls w).mono ?_
    rintro e w1 ⟨rfl, hb1⟩
    have B1 := Lib.hid hb1
    clear hb1 hb
    go_wp2_with fail
    have HQ := Lib.hid (fun w' (h : RB w' A l) => rdecode_calls A n ca l w' HL.out hnc hcm h)
    have HDE := Lib.hid (decD_enc l)
    refine (decode_calls A n ca l w1 HL.out (RB.below HR.out B1.out) (by omega)).mono ?_
    rintro e w2 (⟨h1, rfl, hb2⟩ | ⟨h1, h2, rfl, hb2⟩ | ⟨h1, h2, g, rfl, hg, hwg, hb2⟩)
    · have B2 := Lib.hid (B1.out.trans (hb2.mono B1.out.size))
      have HN := Lib.hid h1
      obtain ⟨d, HD⟩ : ∃ x, Hid (doneR (decD l).r = x) := ⟨_, rfl⟩
      rw [HD.out] at h1
      rw [HD.out]
      have q1 : (d != 0) = true := by simpa using h1
      clear h1 hb2
      go_wp2_with fail
      refine (HQ.out w2 (RB.below HR.out B2.out)).mono ?_
      rintro e w3 (⟨k1, rfl, hb3⟩ | ⟨k1, _⟩ | ⟨k1, _⟩)
      · have B3 := Lib.hid (B2.out.trans (hb3.mono B2.out.size))
        rw [HD.out]
        clear k1 hb3
        go_wp2_with fail
        have hb4 := below1 w3 (.cells #[.slice none 0 0, .slice none 0 0, .int .i64 0] 27)
        go_ret
        exact ⟨rfl, B3.out.trans (hb4.mono B3.out.size)⟩
      · exact absurd k1 HN.out
      · exact absurd k1 HN.out
    · have B2 := Lib.hid (B1.out.trans (hb2.mono B1.out.size))
      have H1 := Lib.hid h1
      have H2 := Lib.hid h2
      clear h1 h2 hb2
      go_wp2_with fail
      refine (HQ.out w2 (RB.below HR.out B2.out)).mono ?_
      rintro e w3 (⟨k1, _⟩ | ⟨k1, k2, rfl, hb3⟩ | ⟨_, k2, _⟩)
      · exact absurd H1.out k1
      · have B3 := Lib.hid (B2.out.trans (hb3.mono B2.out.size))
        clear k1 k2 hb3
        go_wp2_with fail
        have hb4 := below1 w3 (.cells #[.slice none 0 0, .slice none 0 0, .int .i64 0] 27)
        go_ret
        exact ⟨rfl, B3.out.trans (hb4.mono B3.out.size)⟩
      · rw [H2.out] at k2; cases k2
    · have B2 := Lib.hid (B1.out.trans (hb2.mono B1.out.size))
      have H1 := Lib.hid h1
      have H2 := Lib.hid h2
      have HG := Lib.hid hg
      clear h1 h2 hb2 hg
      go_wp2_with fail
      refine (HQ.out w2 (RB.below HR.out B2.out)).mono ?_
      rintro e w3 (⟨k1, _⟩ | ⟨_, k2, _⟩ | ⟨k1, k2, v, rfl, hv, hb3⟩)
      · exact absurd H1.out k1
      · rw [H2.out] at k2; cases k2
      · have B3 := Lib.hid (B2.out.trans (hb3.mono B2.out.size))
        have HG3 := Lib.hid (HG.out.below hb3)
        have HV3 := Lib.hid hv
        obtain ⟨L, HLL⟩ : ∃ x, Hid ((decD l).L = x) := ⟨_, rfl⟩
        rw [HLL.out] at HG3 HV3
        have HEN : Hid (encL L = l) := by show _ = _; rw [← HLL.out]; exact HDE.out H1.out H2.out
        obtain ⟨_, A2, ca2, B2', cb2, rfl, _, _⟩ := HV3.out
        clear k1 k2 hv hb3 HG
        go_wp2_with fail
        have hb4 := below1 w3 (.cells #[.slice A2 L.m ca2, .slice B2' L.m cb2, .int .i64 L.c] 27)
        have hk4 := heap_alloc_new w3 (.cells #[.slice A2 L.m ca2, .slice B2' L.m cb2, .int .i64 L.c] 27)
        have x0 : ∀ o : Obj, o = .cells #[.slice A2 L.m ca2, .slice B2' L.m cb2, .int .i64 L.c] 27 → True := fun _ _ => trivial
        clear x0
        have HGV : Hid (IsL (w3.alloc (.cells #[.slice A2 L.m ca2, .slice B2' L.m cb2, .int .i64 L.c] 27)) g L) := HG3.out.below hb4
        have HVV : Hid (IsR (w3.alloc (.cells #[.slice A2 L.m ca2, .slice B2' L.m cb2, .int .i64 L.c] 27)) (.agg #[.slice A2 L.m ca2, .slice B2' L.m cb2, .int .i64 L.c]) L) := HV3.out.below hb4
        have HB4 := Lib.hid (B3.out.trans (hb4.mono B3.out.size))
        generalize w3.alloc (.cells #[.slice A2 L.m ca2, .slice B2' L.m cb2, .int .i64 L.c] 27) = w4 at *
        clear hb4 hk4
        refine (same_calls g _ L w4 HGV.out HVV.out).mono ?_
        rintro e w5 ⟨rfl, hb5⟩
        have HB5 := Lib.hid (HB4.out.trans (hb5.mono HB4.out.size))
        have HG5 := Lib.hid (HGV.out.below hb5)
        clear hb5
        go_wp2_with fail
        refine (encode_calls g L w5 HG5.out).mono ?_
        rintro e w6 ⟨X6, c6, k6, rfl, hk6, ho6, hb6⟩
        have HB6 := Lib.hid (HB5.out.trans (hb6.mono HB5.out.size))
        have HS := Lib.hid (Wi.same_calls X6 A k6 n c6 ca l l w6 (by rw [hk6, HEN.out]) HL.out (by rw [HEN.out] at ho6; exact ho6.rb.1) (RB.below HR.out HB6.out))
        rw [show sameB l l = true by simp [sameB]] at HS
        clear hk6 ho6 hb6
        go_wp2_with fail
        refine HS.out.mono ?_
        rintro e w7 ⟨rfl, rfl⟩
        go_wp2_with fail
        go_ret
        exact ⟨rfl, HB6.out⟩
end Ls
end Go.Proofs.Ytmdconcbelmdpaa
