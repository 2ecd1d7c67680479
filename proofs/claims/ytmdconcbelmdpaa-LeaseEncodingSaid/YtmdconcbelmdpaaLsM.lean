/- The walk of refmeshref26.Encode. -/
import Derived.Test.YtmdconcbelmdpaaLsL
import Derived.Test.YtmdconcbelmdpaaWrP
namespace Go.Proofs.Ytmdconcbelmdpaa
open Go.RowKit
namespace Ls
open In (vi conB)
open Wr Wi

/-- the head of the loop -/
def REncR (w : World) (L : St) (k : Nat) (X : Option Addr) (q c : Nat) (wr : World) : Prop :=
  q = (enc L.m ++ encB L k).length ∧ OB wr w.heap.size (.slice X q c) (enc L.m ++ encB L k) ∧ Below w.heap.size w wr

set_option maxRecDepth 100000 in
set_option maxHeartbeats 2000000 in
theorem rencode_calls (v : Value) (L : St) (w : World) (h : IsR w v L) : Calls Try.prog 25 #[v] w (NewB w (encL L)) := by
  obtain ⟨hm8, A, ca, B, cb, rfl, hA, hB⟩ := h
  obtain ⟨_, _, e1, hca, hcam, _, hrA⟩ := own_form hA
  cases e1
  obtain ⟨_, _, e1, hcb, hcbm, _, hrB⟩ := own_form hB
  cases e1
  have HRA := Lib.hid hrA
  have HRB := Lib.hid hrB
  obtain ⟨m, HM⟩ : ∃ m, Hid (m = L.m) := ⟨_, rfl⟩
  rw [← HM.out] at hm8 hca hcb
  rw [← HM.out]
  have hcam' := hcam
  have hcbm' := hcbm
  unfold maxLen at hcam' hcbm'
  clear hA hB hrA hrB
  have hk := heap_alloc_new w (.cells #[.slice A m ca, .slice B m cb, .int .i64 L.c] 27)
  have hb1 := below1 w (.cells #[.slice A m ca, .slice B m cb, .int .i64 L.c] 27)
  go_enter Try.func25, Try.ntmps25
  go_wp2_with fail
  generalize w.alloc (.cells #[.slice A m ca, .slice B m cb, .int .i64 L.c] 27) = w1 at *
  have HK := Lib.hid hk
  have HB1 := Lib.hid hb1
  have hs1 : w.heap.size < w1.heap.size := (Array.getElem?_eq_some_iff.1 hk).1
  clear hk hb1
  refine (ruint_calls none 0 0 [] m w1 rfl RB.nil (by omega) (by omega)).mono ?_
  rintro e w2 ⟨X2, c2, q2, rfl, hq2, ho2, hb2⟩
  have HB2 := Lib.hid hb2
  have HR2 : Hid (REncR w L 0 X2 q2 c2 w2) := ⟨by rw [hq2, HM.out]; simp [encB], by have := ho2.base (Nat.le_of_lt hs1); rw [HM.out] at this; simpa [encB] using this, HB1.out.trans (hb2.mono HB1.out.size)⟩
  clear hq2 ho2 hb2
  go_wp2_with fail
  have HC2 : Hid (Below w1.heap.size w1 w2) := HB2.out
  go_loopw [3, 4] (fun v i wr => ∃ k : Nat, ∃ X q c, k ≤ m ∧ i = .int .i64 k ∧ v = .slice X q c ∧ REncR w L k X q c wr ∧ Below w1.heap.size w1 wr) (fun _ i _ => m - (intOf i).toNat)
  case atStart => exact ⟨0, _, _, _, by omega, rfl, rfl, HR2.out, HC2.out⟩
  case round =>
    obtain ⟨k, X, q, c, hk, rfl, rfl, ⟨hq, ho, hb⟩, hb1⟩ := hrel
    have HQ := Lib.hid hq
    have HO := Lib.hid ho
    have HB := Lib.hid hb
    have HBB := Lib.hid hb1
    have hKr : wr.heap[w.heap.size]? = some (.cells #[.slice A m ca, .slice B m cb, .int .i64 L.c] 27 (0, 0)) := (hb1.block _ hs1).trans HK.out
    have HKR := Lib.hid hKr
    have hsr : w.heap.size < wr.heap.size := (Array.getElem?_eq_some_iff.1 hKr).1
    have hq2 : q ≤ 200 := by
      have h1 := encB_len L k
      have h2 := enc_le L.m
      rw [hq, List.length_append]; omega
    have b0 : wr.cell? ⟨w.heap.size, 0, none⟩ = some (.slice A m ca) := (cell_of_row _ _ 0 _ _ _ hKr).trans rfl
    have b1 : wr.cell? ⟨w.heap.size, 1, none⟩ = some (.slice B m cb) := (cell_of_row _ _ 1 _ _ _ hKr).trans rfl
    have b2 : wr.cell? ⟨w.heap.size, 2, none⟩ = some (.int .i64 L.c) := (cell_of_row _ _ 2 _ _ _ hKr).trans rfl
    clear hq ho hb hb1 hKr
    by_cases hlt : k < m
    · have hmpos : 0 < (ints L.t L.m).length := by rw [ints_length, ← HM.out]; omega
      have hmpos2 : 0 < (ints L.r L.m).length := by rw [ints_length, ← HM.out]; omega
      obtain ⟨ba, oa, rfl, hba, hca'⟩ := Rd.cells HRA.out hmpos
      obtain ⟨bb, ob, rfl, hbb, hcb'⟩ := Rd.cells HRB.out hmpos2
      have ta := hca' k _ (ints_get L.t L.m k (by rw [← HM.out]; exact hlt))
      have ra := hcb' k _ (ints_get L.r L.m k (by rw [← HM.out]; exact hlt))
      have j0 : (0 : Int) ≤ (k : Int) := by omega
      have j1 : (k : Int) < (m : Int) := by omega
      obtain ⟨tk, HT⟩ : ∃ x, Hid (x = L.t k) := ⟨_, rfl⟩
      obtain ⟨rk, HRK⟩ : ∃ x, Hid (x = L.r k) := ⟨_, rfl⟩
      rw [← HT.out] at ta
      rw [← HRK.out] at ra
      obtain ⟨O, HOO⟩ : ∃ x, Hid (x = enc L.m ++ encB L k) := ⟨_, rfl⟩
      rw [← HOO.out] at HO HQ
      have HE2 : Hid (enc L.m ++ encB L (k + 1) = O ++ enc (u64n tk) ++ enc (u64n rk)) := by
        show _ = _; rw [HOO.out, HT.out, HRK.out]; simp [encB]
      have h9 := enc_le (u64n tk)
      have hOl : O.length = q := HQ.out.symm
      have HOL := Lib.hid hOl
      clear hOl hca' hcb' hmpos hmpos2 b2
      have m0 : ∀ w', Below wr.heap.size wr w' → w'.cell? ⟨w.heap.size, 0, none⟩ = some (.slice (some ⟨ba, oa, none⟩) m ca) := fun w' h => (h.cell (p := ⟨w.heap.size, 0, none⟩) hsr).trans b0
      have m1 : ∀ w', Below wr.heap.size wr w' → w'.cell? ⟨w.heap.size, 1, none⟩ = some (.slice (some ⟨bb, ob, none⟩) m cb) := fun w' h => (h.cell (p := ⟨w.heap.size, 1, none⟩) hsr).trans b1
      have t0 : ∀ w', Below wr.heap.size wr w' → w'.cell? ⟨ba, oa + k, none⟩ = some (.int .i64 tk) := fun w' h => (h.cell (p := ⟨ba, oa + k, none⟩) (by show ba < _; omega)).trans ((HB.out.cell (p := ⟨ba, oa + k, none⟩) hba).trans ta)
      have r0 : ∀ w', Below wr.heap.size wr w' → w'.cell? ⟨bb, ob + k, none⟩ = some (.int .i64 rk) := fun w' h => (h.cell (p := ⟨bb, ob + k, none⟩) (by show bb < _; omega)).trans ((HB.out.cell (p := ⟨bb, ob + k, none⟩) hbb).trans ra)
      have HU := Lib.hid (ruint_calls X q c O (u64n tk) wr.drew HOL.out (HO.out.rb.1.below (below_drew wr)) (by omega) (u64n_lt tk))
      rw [u64n_cast] at HU
      have HU2 : Hid (∀ X c k w4, OB w4 wr.heap.size (.slice X k c) (O ++ enc (u64n tk)) → Calls Try.prog 37 #[.slice X k c, .int .u64 (IntKind.u64.wrap rk)] w4 (NewB w4 (O ++ enc (u64n tk) ++ enc (u64n rk)))) := by
        intro X c k w4 h
        rw [← u64n_cast]
        obtain ⟨h1, h2, _⟩ := h.rb
        exact ruint_calls X k c _ (u64n rk) w4 h2.symm h1 (by rw [h2, List.length_append, HOL.out]; omega) (u64n_lt rk)
      clear ta ra
      go_wp2_with fail
      have tok : True := trivial
      go_region_held3 (fun w' => Below wr.heap.size wr w') (first | exact (Below.refl _ _).drew | assumption) (first | (go_at_call 37; have _t := tok; refine HU.out.mono ?_; rintro e w4 ⟨X4, c4, k4, rfl, hk4, ho4, hb4⟩; have HO4 := Lib.hid ho4; have hc4 : Below wr.heap.size wr w4 := (below_drew wr).trans hb4; clear hk4 ho4 hb4 tok _t) | (go_at_call 37; refine (HU2.out _ _ _ _ HO4.out).mono ?_; rintro e w5 ⟨X5, c5, k5, rfl, hk5, ho5, hb5⟩; have HK5 := Lib.hid hk5; have HO5 := Lib.hid ho5; have hc5 : Below wr.heap.size wr w5 := hc4.trans (hb5.mono hc4.size); clear hk5 ho5 hb5))
      have hs4 : w.heap.size ≤ w4.heap.size := Nat.le_trans HB.out.size hc4.size
      have HREL : Hid (REncR w L (k + 1) X5 k5 c5 w5) := ⟨by rw [HE2.out]; exact HK5.out, by rw [HE2.out]; exact HO5.out.base hs4, HB.out.trans (hc5.mono HB.out.size)⟩
      have HBB5 := Lib.hid (HBB.out.trans (hc5.mono HBB.out.size))
      clear m0 m1 t0 r0 hc4 hc5 b0 b1
      go_wp2_with fail
      go_roundw
      case rel => exact ⟨k + 1, _, _, _, by omega, by go_num, rfl, HREL.out, HBB5.out⟩
      case measure => simp [intOf]; omega
    · have hkm : Hid (k = m) := by show _ = _; omega
      have HKL : Hid (k = L.m) := hkm.out.trans HM.out
      have HO2 : Hid (OB wr w.heap.size (.slice X q c) (enc L.m ++ encB L L.m)) := by have := HO.out; rw [HKL.out] at this; exact this
      have HQ2 : Hid (q = (enc L.m ++ encB L L.m).length) := by have := HQ.out; rw [HKL.out] at this; exact this
      have HU := Lib.hid (ruint_calls X q c _ (u64n L.c) wr HQ2.out.symm HO2.out.rb.1 (by omega) (u64n_lt L.c))
      rw [u64n_cast] at HU
      go_wp2_with fail
      refine HU.out.mono ?_
      rintro e w4 ⟨X4, c4, k4, rfl, hk4, ho4, hb4⟩
      have HF : Hid (NewB w (encL L) (.returned (.slice X4 k4 c4)) w4) := ⟨X4, c4, _, rfl, hk4, ho4.base HB.out.size, HB.out.trans (hb4.mono HB.out.size)⟩
      clear hk4 ho4 hb4 b0 b1 b2
      go_wp2_with fail
      go_ret
      exact HF.out
end Ls
end Go.Proofs.Ytmdconcbelmdpaa
