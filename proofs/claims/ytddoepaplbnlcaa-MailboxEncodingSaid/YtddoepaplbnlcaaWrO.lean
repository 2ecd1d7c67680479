/- The walks of refmeshref02's Int, String, ID, Bool and of wire.AppendID. -/
import Derived.Test.YtddoepaplbnlcaaWrN
namespace Go.Proofs.Ytddoepaplbnlcaa
open Go.RowKit
namespace Wi
open Wr

theorem NewB.of {w w' : World} {l : List UInt8} {e : Ending} {W : World} (h : NewB w' l e W) (hb : Below w.heap.size w w') : NewB w l e W := by
  obtain ⟨X, c, k, e1, e2, e3, e4⟩ := h
  exact ⟨X, c, k, e1, e2, e3.base hb.size, hb.trans (e4.mono hb.size)⟩

set_option maxRecDepth 100000 in
set_option maxHeartbeats 1000000 in
theorem rstring_calls (A : Option Addr) (m cap : Nat) (l : List UInt8) (s : ByteArray) (w : World) (hl : l.length = m) (hr : RB w A l) (hm : m ≤ 900000) (hs : s.size ≤ 100000) :
    Calls Try.prog 61 #[.slice A m cap, .string s] w (NewB w (l ++ (enc s.size ++ strB s))) := by
  have HU := Lib.hid (ruint_calls A m cap l s.size w hl hr (by omega) (by omega))
  have hel := enc_len s.size
  have h8 := digits_len_le s.size
  have hlm : (l ++ enc s.size).length ≤ 900009 := by simp; omega
  have HSL := Lib.hid (strB_length s)
  clear hl hr hel h8
  go_enter Try.func61, Try.ntmps61
  go_wp2_with fail
  refine HU.out.mono ?_
  rintro e w1 ⟨X, c, k, rfl, hk, ho, hb⟩
  have HK := Lib.hid hk
  have HO := Lib.hid ho
  have HB := Lib.hid hb
  clear hk ho hb
  go_wp2_with fail
  go_loopw [5, 6] (fun v i wr => ∃ j : Nat, ∃ X c k, j ≤ s.size ∧ i = .int .i64 j ∧ v = .slice X k c ∧ k = (l ++ enc s.size ++ (strB s).take j).length ∧ OB wr w.heap.size (.slice X k c) (l ++ enc s.size ++ (strB s).take j) ∧ Below w.heap.size w wr) (fun _ i _ => s.size - (intOf i).toNat)
  case atStart => exact ⟨0, X, c, k, by omega, rfl, rfl, by simpa using HK.out, by simpa using HO.out, HB.out⟩
  case round =>
    obtain ⟨j, X, c, k, hj, rfl, rfl, hk, ho, hb⟩ := hrel
    have HK := Lib.hid hk
    have HO := Lib.hid ho
    have HB := Lib.hid hb
    have hws := hb.size
    clear hk ho hb
    by_cases hlt : j < s.size
    · have hln : (l ++ enc s.size ++ (strB s).take j).length ≤ 1000009 := by simp at hlm ⊢; omega
      have HN : Hid ((strB s).take (j + 1) = (strB s).take j ++ [s[j]]) := by
        show _ = _
        rw [List.take_succ_eq_append_getElem (by rw [HSL.out]; exact hlt)]; rfl
      go_wp2_with (at_builtin; refine app1 _ rfl (.tmp 18) (.tmp 22) rfl w.heap.size _ (l ++ enc s.size ++ (strB s).take j) (s[j]) _ rfl HO.out rfl rfl (by omega) hws ?_; intro X2 c2 k2 w2 HK2 hk2 hk2' HO2 HA2 HB2 hs2)
      go_roundw
      case rel => exact ⟨j + 1, X2, c2, k2, by omega, by go_num, rfl, by rw [HN.out, ← List.append_assoc]; exact HK2.out, by rw [HN.out, ← List.append_assoc]; exact HO2.out, HB.out.trans HB2.out⟩
      case measure => simp [intOf]; omega
    · have HN : Hid (l ++ enc s.size ++ (strB s).take j = l ++ (enc s.size ++ strB s)) := by
        show _ = _
        rw [List.take_of_length_le (by rw [HSL.out]; omega), List.append_assoc]
      go_wp2_with fail
      go_ret
      exact ⟨X, c, k, rfl, by rw [← HN.out]; exact HK.out, by rw [← HN.out]; exact HO.out, HB.out⟩
end Wi
end Go.Proofs.Ytddoepaplbnlcaa
