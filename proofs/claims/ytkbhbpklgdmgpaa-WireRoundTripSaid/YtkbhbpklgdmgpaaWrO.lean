/- The walks of refmeshref02's Int, String, ID, Bool and of wire.AppendID. -/
import Derived.Test.YtkbhbpklgdmgpaaWrN
namespace Go.Proofs.Ytkbhbpklgdmgpaa
open Go.RowKit
namespace Wi
open Wr

theorem NewB.of {w w' : World} {l : List UInt8} {e : Ending} {W : World} (h : NewB w' l e W) (hb : Below w.heap.size w w') : NewB w l e W := by
  obtain ⟨X, c, k, e1, e2, e3, e4⟩ := h
  exact ⟨X, c, k, e1, e2, e3.base hb.size, hb.trans (e4.mono hb.size)⟩

set_option maxRecDepth 100000 in
theorem rint_calls (A : Option Addr) (m cap : Nat) (l : List UInt8) (n : Int) (w : World) (hl : l.length = m) (hr : RB w A l) (hm : m ≤ 1000000) (h1 : -9223372036854775808 ≤ n) (h2 : n ≤ 9223372036854775807) :
    Calls Try.prog 32 #[.slice A m cap, .int .i64 n] w (NewB w (l ++ enc (zig n))) := by
  have HU := Lib.hid (ruint_calls A m cap l (zig n) w hl hr hm (zig_lt n h1 h2))
  clear hl hr
  by_cases h0 : 0 ≤ n
  · have d0 : decide (0 ≤ n) = true := by simpa using h0
    have HZ : Hid (IntKind.u64.wrap (2 * IntKind.u64.wrap n) = (zig n : Int)) := by
      show _ = _
      rw [IntKind.wrap_u64, IntKind.wrap_u64]; unfold zig; rw [if_pos h0]; omega
    have HZ2 : Hid (2 * n = (zig n : Int)) := by show _ = _; unfold zig; rw [if_pos h0]; omega
    go_enter Try.func32, Try.ntmps32
    go_wp2_with fail
    first | rw [HZ.out] | rw [HZ2.out]
    refine HU.out.mono ?_
    rintro e w1 ⟨X, c, k, rfl, hk, ho, hb⟩
    have HF : Hid (NewB w (l ++ enc (zig n)) (.returned (.slice X k c)) w1) := ⟨X, c, k, rfl, hk, ho, hb⟩
    clear hk ho hb
    go_wp2_with fail
    go_ret
    exact HF.out
  · have d0 : decide (0 ≤ n) = false := by simpa using h0
    have hn : n < 0 := by omega
    have HZ : Hid (2 * (-(n + 1)) + 1 = (zig n : Int)) := by
      show _ = _
      unfold zig; rw [if_neg h0]; omega
    clear h0
    go_enter Try.func32, Try.ntmps32
    go_wp2_with fail
    rw [HZ.out]
    refine HU.out.mono ?_
    rintro e w1 ⟨X, c, k, rfl, hk, ho, hb⟩
    have HF : Hid (NewB w (l ++ enc (zig n)) (.returned (.slice X k c)) w1) := ⟨X, c, k, rfl, hk, ho, hb⟩
    clear hk ho hb
    go_wp2_with fail
    go_ret
    exact HF.out

set_option maxRecDepth 100000 in
theorem rbool_calls (A : Option Addr) (m cap : Nat) (l : List UInt8) (b : Bool) (w : World) (hl : l.length = m) (hr : RB w A l) (hm : m ≤ 1000000) :
    Calls Try.prog 35 #[.slice A m cap, .bool b] w (NewB w (l ++ [if b then 1 else 0])) := by
  have HL := Lib.hid hl
  have HR := Lib.hid hr
  have hlm : l.length ≤ 1000000 := by omega
  clear hl hr
  cases b
  · go_enter Try.func35, Try.ntmps35
    go_wp2_with (first | (at_builtin; refine app0 _ rfl (.tmp 11) (.tmp 12) rfl l rfl _ m cap rfl HL.out HR.out (by omega) ?_; intro X1 c1 k1 w1 HK1 hk1 hk1' HO1 HB1 hs1) | (at_builtin; refine app1 _ rfl (.tmp 13) (.tmp 14) rfl w.heap.size _ l 0 _ rfl HO1.out rfl rfl (by omega) hs1 ?_; intro X2 c2 k2 w2 HK2 hk2 hk2' HO2 HA2 HB2 hs2))
    go_ret
    exact ⟨X2, c2, k2, rfl, HK2.out, HO2.out, HB1.out.trans HB2.out⟩
  · go_enter Try.func35, Try.ntmps35
    go_wp2_with (first | (at_builtin; refine app0 _ rfl (.tmp 6) (.tmp 7) rfl l rfl _ m cap rfl HL.out HR.out (by omega) ?_; intro X1 c1 k1 w1 HK1 hk1 hk1' HO1 HB1 hs1) | (at_builtin; refine app1 _ rfl (.tmp 8) (.tmp 9) rfl w.heap.size _ l 1 _ rfl HO1.out rfl rfl (by omega) hs1 ?_; intro X2 c2 k2 w2 HK2 hk2 hk2' HO2 HA2 HB2 hs2))
    go_ret
    exact ⟨X2, c2, k2, rfl, HK2.out, HO2.out, HB1.out.trans HB2.out⟩

set_option maxRecDepth 100000 in
set_option maxHeartbeats 1000000 in
theorem rstring_calls (A : Option Addr) (m cap : Nat) (l : List UInt8) (s : ByteArray) (w : World) (hl : l.length = m) (hr : RB w A l) (hm : m ≤ 900000) (hs : s.size ≤ 100000) :
    Calls Try.prog 33 #[.slice A m cap, .string s] w (NewB w (l ++ (enc s.size ++ strB s))) := by
  have HU := Lib.hid (ruint_calls A m cap l s.size w hl hr (by omega) (by omega))
  have hel := enc_len s.size
  have h8 := digits_len_le s.size
  have hlm : (l ++ enc s.size).length ≤ 900009 := by simp; omega
  have HSL := Lib.hid (strB_length s)
  clear hl hr hel h8
  go_enter Try.func33, Try.ntmps33
  go_wp2_with fail
  refine HU.out.mono ?_
  rintro e w1 ⟨X, c, k, rfl, hk, ho, hb⟩
  have HK := Lib.hid hk
  have HO := Lib.hid ho
  have HB := Lib.hid hb
  clear hk ho hb
  go_wp2_with fail
  go_loopw [5, 6] (fun v i wr => ∃ j : Nat, ∃ X c k, j ≤ s.size ∧ i = .int .i64 j ∧ v = .slice X k c ∧ k = (l ++ enc s.size ++ (strB s).take j).length ∧ OB wr w.heap.size (.slice X k c) (l ++ enc s.size ++ (strB s).take j) ∧ Below w.heap.size w wr) (fun _ i _ => s.size - (intOf i).toNat)
  case atStart => exact ⟨0, X, c, k, by omega, rfl, rfl, by simpa using HK.out, by simpa using HO.out, HB.out⟩
  case round =>
    obtain ⟨j, X, c, k, hj, rfl, rfl, hk, ho, hb⟩ := hrel
    have HK := Lib.hid hk
    have HO := Lib.hid ho
    have HB := Lib.hid hb
    have hws := hb.size
    clear hk ho hb
    by_cases hlt : j < s.size
    · have hln : (l ++ enc s.size ++ (strB s).take j).length ≤ 1000009 := by simp at hlm ⊢; omega
      have HN : Hid ((strB s).take (j + 1) = (strB s).take j ++ [s[j]]) := by
        show _ = _
        rw [List.take_succ_eq_append_getElem (by rw [HSL.out]; exact hlt)]; rfl
      go_wp2_with (at_builtin; refine app1 _ rfl (.tmp 18) (.tmp 22) rfl w.heap.size _ (l ++ enc s.size ++ (strB s).take j) (s[j]) _ rfl HO.out rfl rfl (by omega) hws ?_; intro X2 c2 k2 w2 HK2 hk2 hk2' HO2 HA2 HB2 hs2)
      go_roundw
      case rel => exact ⟨j + 1, X2, c2, k2, by omega, by go_num, rfl, by rw [HN.out, ← List.append_assoc]; exact HK2.out, by rw [HN.out, ← List.append_assoc]; exact HO2.out, HB.out.trans HB2.out⟩
      case measure => simp [intOf]; omega
    · have HN : Hid (l ++ enc s.size ++ (strB s).take j = l ++ (enc s.size ++ strB s)) := by
        show _ = _
        rw [List.take_of_length_le (by rw [HSL.out]; omega), List.append_assoc]
      go_wp2_with fail
      go_ret
      exact ⟨X, c, k, rfl, by rw [← HN.out]; exact HK.out, by rw [← HN.out]; exact HO.out, HB.out⟩
end Wi
end Go.Proofs.Ytkbhbpklgdmgpaa
