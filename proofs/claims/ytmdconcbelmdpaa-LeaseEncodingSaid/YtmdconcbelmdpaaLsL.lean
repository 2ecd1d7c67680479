/- The walks of lease.Encode and of its reference. -/
import Derived.Test.YtmdconcbelmdpaaLsJ
import Derived.Test.YtmdconcbelmdpaaWrT
namespace Go.Proofs.Ytmdconcbelmdpaa
open Go.RowKit
namespace Ls
open In (vi conB)
open Wr Wi

/-- the encoding of the first machines' leases -/
def encB (L : St) : Nat → List UInt8
  | 0 => []
  | k + 1 => encB L k ++ (enc (u64n (L.t k)) ++ enc (u64n (L.r k)))
def encL (L : St) : List UInt8 := enc L.m ++ encB L L.m ++ enc (u64n L.c)
theorem enc_le (n : Nat) : (enc n).length ≤ 9 := by have h1 := enc_len n; have h2 := digits_len_le n; omega
theorem encB_len (L : St) (k : Nat) : (encB L k).length ≤ 18 * k := by
  induction k with
  | zero => simp [encB]
  | succ k ih =>
    have h1 := enc_le (u64n (L.t k))
    have h2 := enc_le (u64n (L.r k))
    show (encB L k ++ (enc (u64n (L.t k)) ++ enc (u64n (L.r k)))).length ≤ _
    rw [List.length_append, List.length_append]; omega

theorem Ext.of_OB {w : World} {B k c : Nat} {X : Option Addr} {l : List UInt8} (h : OB w B (.slice X k c) l) (hk : k = l.length) : Ext w B (.slice X k c) l (.slice X k c) w := by
  subst hk
  exact ⟨X, c, rfl, h, App.refl _ _⟩
theorem OB.ge {w : World} {B : Nat} {v : Value} {l : List UInt8} (h : OB w B v l) : ∀ b, v.ownBlock = some b → B ≤ b ∧ b < w.heap.size := fun b hb => h.lt b hb

/-- the head of Encode's loop -/
def EncR (w : World) (L : St) (k : Nat) (X : Option Addr) (q c : Nat) (wr : World) : Prop :=
  q = (enc L.m ++ encB L k).length ∧ OB wr w.heap.size (.slice X q c) (enc L.m ++ encB L k) ∧ Below w.heap.size w wr

set_option maxRecDepth 100000 in
set_option maxHeartbeats 2000000 in
theorem encode_calls (g : Nat) (L : St) (w : World) (h : IsL w g L) : Calls Try.prog 22 #[.pointer (some ⟨g, 0, none⟩)] w (NewB w (encL L)) := by
  have HI := Lib.hid h
  have hm8 := h.2
  have hgl : g < w.heap.size := (Array.getElem?_eq_some_iff.1 h.1).1
  have c0 := h.machines
  have HU := Lib.hid (appendNat_calls w.heap.size (.slice none 0 0) [] L.m (by omega) w (Ext.nil w) (by simp) (Nat.le_refl _))
  have HEL : Hid (encL L = enc L.m ++ encB L L.m ++ enc (u64n L.c)) := rfl
  clear h
  obtain ⟨m, HM⟩ : ∃ m, Hid (m = L.m) := ⟨_, rfl⟩
  rw [← HM.out] at c0 HU hm8
  go_enter Try.func22, Try.ntmps22
  go_wp2_with fail
  refine HU.out.mono ?_
  rintro e w1 ⟨v1, rfl, hx1⟩
  have hb1 := Ext.below (Ext.nil w) (Nat.le_refl _) hx1
  obtain ⟨X1, q1, rfl, ho1, _⟩ := hx1
  rw [List.nil_append] at ho1 ⊢
  have HR1 : Hid (EncR w L 0 X1 (enc m).length q1 w1) := ⟨by simp [encB, HM.out], by simpa [encB, OB, HM.out] using ho1, hb1⟩
  have d0 : w1.cell? ⟨g, 0, none⟩ = some (.int .i64 m) := ((HI.out.below hb1).machines).trans (by rw [HM.out])
  have i0 : (0 : Int) ≤ (m : Int) := by omega
  have i1 : (m : Int) ≤ 8 := by omega
  generalize (enc m).length = ql at *
  clear hb1 ho1 c0 HU
  go_wp2_with fail
  go_quiet (fail)
  have HR2 : Hid (EncR w L 0 X1 ql q1 (w1.drewN nq)) := ⟨HR1.out.1, HR1.out.2.1.below (blw_drewN (Below.refl _ _) _), blw_drewN HR1.out.2.2 _⟩
  clear HR1 d0
  generalize w1.drewN nq = w2 at *
  go_wp2_with fail
  go_loopw [3, 21] (fun v i wr => ∃ k : Nat, ∃ X q c, k ≤ m ∧ i = .int .i64 k ∧ v = .slice X q c ∧ EncR w L k X q c wr) (fun _ i _ => m - (intOf i).toNat)
  case atStart => exact ⟨0, _, _, _, by omega, rfl, rfl, HR2.out⟩
  case round =>
    obtain ⟨k, X, q, c, hk, rfl, rfl, hq, ho, hb⟩ := hrel
    have HQ := Lib.hid hq
    have HO := Lib.hid ho
    have HB := Lib.hid hb
    have HI2 := Lib.hid (HI.out.below hb)
    have hq2 : q ≤ 200 := by
      have h1 := encB_len L k
      have h2 := enc_le L.m
      rw [hq, List.length_append]; omega
    clear hq ho hb
    by_cases hlt : k < m
    · have t0 := HI2.out.tick k (by omega)
      have r0 := HI2.out.round k (by omega)
      have j0 : (0 : Int) ≤ (k : Int) := by omega
      have j1 : (k : Int) < (m : Int) := by omega
      have hS0 : ∀ b, (Value.slice X q c).ownBlock = some b → b < wr.heap.size := fun b hb => (OB.ge HO.out b hb).2
      obtain ⟨tk, HT⟩ : ∃ x, Hid (x = L.t k) := ⟨_, rfl⟩
      obtain ⟨rk, HRK⟩ : ∃ x, Hid (x = L.r k) := ⟨_, rfl⟩
      rw [← HT.out] at t0
      rw [← HRK.out] at r0
      obtain ⟨O, HOO⟩ : ∃ x, Hid (x = enc L.m ++ encB L k) := ⟨_, rfl⟩
      rw [← HOO.out] at HO HQ
      have HE2 : Hid (enc L.m ++ encB L (k + 1) = O ++ enc (u64n tk) ++ enc (u64n rk)) := by
        show _ = _; rw [HOO.out, HT.out, HRK.out]; simp [encB]
      have h9 := enc_le (u64n tk)
      have h9' := enc_le (u64n rk)
      have hOl : O.length = q := HQ.out.symm
      have HOL := Lib.hid hOl
      clear hOl
      go_wp2_with fail
      have hk3 := heap_alloc_new wr (.cells #[.int .i64 tk, .int .i64 rk] 60)
      have hb3 := below1 wr (.cells #[.int .i64 tk, .int .i64 rk] 60)
      obtain ⟨S, HS⟩ : ∃ S, Hid (S = (Value.slice X q c).ownBlock.toList) := ⟨_, rfl⟩
      have hS : wr.heap.size ∉ S := by rw [HS.out]; simp only [Option.mem_toList]; intro h; have := hS0 _ h; omega
      generalize wr.alloc (.cells #[.int .i64 tk, .int .i64 rk] 60) = w3 at *
      have m0 : ∀ w', Chg S w3 w' → w'.cell? ⟨wr.heap.size, 0, none⟩ = some (.int .i64 tk) := fun w' h => (h.cellAt hk3 hS).trans rfl
      have m1 : ∀ w', Chg S w3 w' → w'.cell? ⟨wr.heap.size, 1, none⟩ = some (.int .i64 rk) := fun w' h => (h.cellAt hk3 hS).trans rfl
      have hws : w.heap.size ≤ wr.heap.size := HB.out.size
      have hws3 : w.heap.size ≤ w3.heap.size := Nat.le_trans hws hb3.size
      have HB3 := Lib.hid hb3
      have HE3 := Lib.hid (Ext.of_OB (HO.out.below (hb3.trans ((below_drew w3).mono hb3.size))) HQ.out)
      have HU := Lib.hid (appendNat_calls w.heap.size _ O (u64n tk) (u64n_lt tk) w3.drew HE3.out (by rw [HOL.out]; omega) hws3)
      rw [u64n_cast] at HU
      have HU2 : Hid (∀ v1 w4, Ext w3.drew w.heap.size (.slice X q c) (O ++ enc (u64n tk)) v1 w4 → Calls Try.prog 31 #[v1, .int .u64 (IntKind.u64.wrap rk)] w4 (ExtPost w4 w.heap.size v1 (O ++ enc (u64n tk) ++ enc (u64n rk)))) := by
        intro v1 w4 h
        rw [← u64n_cast]
        exact appendNat_calls w.heap.size v1 _ (u64n rk) (u64n_lt rk) w4 h.again (by rw [List.length_append, HOL.out]; omega) (Nat.le_trans hws3 h.size)
      clear hk3 hb3 t0 r0 hS0
      have tok : True := trivial
      go_region_held3 (fun w' => Chg S w3 w') (first | exact (Chg.refl _ _).drew | assumption) (first | (go_at_call 31; have _t := tok; refine HU.out.mono ?_; rintro e w4 ⟨v4, rfl, hx4⟩; have HX4 := Lib.hid hx4; have hc4 : Chg S w3 w4 := (Chg.refl S w3).drew.trans' (by rw [HS.out]; exact hx4.chg); clear hx4 tok _t) | (go_at_call 31; refine (HU2.out _ _ HX4.out).mono ?_; rintro e w5 ⟨v5, rfl, hx5⟩; have HX5 := Lib.hid hx5; have hc5 : Chg S w3 w5 := (Chg.refl S w3).drew.trans' (by rw [HS.out]; exact (HX4.out.trans hx5).chg); clear hx5))
      have hxx := HX4.out.trans HX5.out
      have hb5 := Ext.below HE3.out hws3 hxx
      obtain ⟨X5, c5, rfl, ho5, _⟩ := hxx
      obtain ⟨q5, HQ5⟩ : ∃ x, Hid (x = (O ++ enc (u64n tk) ++ enc (u64n rk)).length) := ⟨_, rfl⟩
      rw [← HQ5.out] at ho5
      have HREL : Hid (EncR w L (k + 1) X5 q5 c5 w5) := by
        refine ⟨by rw [HE2.out]; exact HQ5.out, by rw [HE2.out]; unfold OB; rw [← HQ5.out]; exact ho5, ?_⟩
        exact ((HB.out.trans (HB3.out.mono hws)).trans ((below_drew w3).mono hws3)).trans hb5
      rw [← HQ5.out]
      clear m0 m1 hc4 hc5 ho5 hb5
      go_wp2_with fail
      go_roundw
      case rel => exact ⟨k + 1, _, _, _, by omega, by go_num, rfl, HREL.out⟩
      case measure => simp [intOf]; omega
    · have hkm : Hid (k = m) := by show _ = _; omega
      have c2 : wr.cell? ⟨g, 17, none⟩ = some (.int .i64 L.c) := HI2.out.counter
      have HKL : Hid (k = L.m) := hkm.out.trans HM.out
      have HO2 : Hid (OB wr w.heap.size (.slice X q c) (enc L.m ++ encB L L.m)) := by have := HO.out; rw [HKL.out] at this; exact this
      have HQ2 : Hid (q = (enc L.m ++ encB L L.m).length) := by have := HQ.out; rw [HKL.out] at this; exact this
      have hE := Ext.of_OB HO2.out HQ2.out
      have HEX := Lib.hid hE
      have HU := Lib.hid (appendNat_calls w.heap.size (.slice X q c) _ (u64n L.c) (u64n_lt L.c) wr hE (by rw [← HQ2.out]; omega) HB.out.size)
      rw [u64n_cast] at HU
      clear hE
      go_wp2_with fail
      refine HU.out.mono ?_
      rintro e w4 ⟨v4, rfl, hx4⟩
      have hb4 := Ext.below HEX.out HB.out.size hx4
      obtain ⟨X4, c4, rfl, ho4, _⟩ := hx4
      have HF : Hid (NewB w (encL L) (.returned (.slice X4 (encL L).length c4)) w4) := ⟨X4, c4, _, rfl, rfl, ho4, HB.out.trans hb4⟩
      rw [show (enc L.m ++ encB L L.m ++ enc (u64n L.c)) = encL L from rfl]
      generalize (encL L).length = z at *
      clear ho4 hb4 c2
      go_wp2_with fail
      go_ret
      exact HF.out
end Ls
end Go.Proofs.Ytmdconcbelmdpaa
