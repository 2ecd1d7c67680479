/- The walk of the law WireCanonical. -/
import Derived.Test.YtkbhbpklgdmgpaaWc
namespace Go.Proofs.Ytkbhbpklgdmgpaa
open Go.RowKit
namespace Wi
open Wr

theorem OB.ge {w : World} {B : Nat} {v : Value} {l : List UInt8} (h : OB w B v l) : ∀ b, v.ownBlock = some b → B ≤ b := by
  intro b hb
  exact (h.lt b hb).1
theorem OB.chg {w w' : World} {B g : Nat} {v : Value} {l : List UInt8} (h : OB w B v l) (hc : Chg [g] w w') (hg : g < B) : OB w' B v l :=
  hc.own h fun b hb hm => by have := h.ge b hb; simp at hm; omega

/-- the head of the loop of WireCanonical -/
def CRel (w : World) (g B n k : Nat) (l O : List UInt8) (X : Option Addr) (q c : Nat) (r : Rs) (wr : World) : Prop :=
  q = O.length ∧ OB wr B (.slice X q c) O ∧ IsRd wr g r ∧ Below w.heap.size w wr ∧ O.length + r.l.length ≤ n + 3 * k ∧ (r.e = 0 → l = O ++ r.l) ∧ (r.e ≠ 0 → r.l = []) ∧ B ≤ wr.heap.size

set_option maxRecDepth 100000 in
set_option maxHeartbeats 4000000 in
theorem canonical_law (w : World) (A : Option Addr) (n ca : Nat) (l : List UInt8) (hl : l.length = n) (hnc : n ≤ ca) (hcm : ca ≤ maxLen) (hr : RB w A l)
    (K : Option Addr) (m ck : Nat) (ks : List UInt8) (hn : ks.length = m) (_hmc : m ≤ ck) (hck : ck ≤ maxLen) (hk : RB w K ks) :
    Calls Try.prog 9 #[.slice A n ca, .slice K m ck] w (Tru w) := by
  have HL := Lib.hid hl
  have HR := Lib.hid hr
  have HN := Lib.hid hn
  have HK := Lib.hid hk
  have hcm' := hcm
  have hck' := hck
  unfold maxLen at hcm' hck'
  clear hl hr hn hk
  by_cases hb : 5000 < n
  · have d1 : decide ((5000 : Int) < (n : Int)) = true := by simp; omega
    go_enter Try.func9, Try.ntmps9
    go_wp2_with fail; refine (awake_calls w).mono ?_; rintro e w1 ⟨rfl, hb⟩; have B1 := Lib.hid hb; clear hb; go_wp2_with fail
    go_ret
    exact ⟨rfl, B1.out⟩
  · have d1 : decide ((5000 : Int) < (n : Int)) = false := by simp; omega
    by_cases hb2 : 30 < m
    · have d2 : decide ((30 : Int) < (m : Int)) = true := by simp; omega
      go_enter Try.func9, Try.ntmps9
      go_wp2_with fail; refine (awake_calls w).mono ?_; rintro e w1 ⟨rfl, hb⟩; have B1 := Lib.hid hb; clear hb; go_wp2_with fail
      go_ret
      exact ⟨rfl, B1.out⟩
    · have d2 : decide ((30 : Int) < (m : Int)) = false := by simp; omega
      have hn5 : n ≤ 5000 := by omega
      have hm30 : m ≤ 30 := by omega
      clear hb hb2
      go_enter Try.func9, Try.ntmps9
      go_wp2_with fail; refine (awake_calls w).mono ?_; rintro e w1 ⟨rfl, hb⟩; have B1 := Lib.hid hb; clear hb; go_wp2_with fail
      refine (newReader_calls A n ca l w1 HL.out (RB.below HR.out B1.out) (by omega)).mono ?_
      rintro e w2 ⟨g, rfl, hr2, hg2, hb2⟩
      have B2 := Lib.hid (B1.out.trans (hb2.mono B1.out.size))
      have RD2 := Lib.hid hr2
      have hgw : w.heap.size ≤ g := by have := B1.out.size; omega
      have hgB : g < w2.heap.size := hr2.lt
      clear hb2 hr2 hg2
      go_wp2_with fail
      have hb3 := below1 w2 (.cells #[] 5)
      have ho3 : OB (w2.alloc (.cells #[] 5)) w2.heap.size (.slice (some ⟨w2.heap.size, 0, none⟩) 0 0) [] := own_empty _ _ _ _ rfl (Nat.le_refl _)
      generalize w2.alloc (.cells #[] 5) = w3 at *
      have HR3 : Hid (CRel w g w2.heap.size n 0 l [] (some ⟨w2.heap.size, 0, none⟩) 0 0 ⟨l, 0⟩ w3) :=
        ⟨rfl, ho3, RD2.out.below hb3, B2.out.trans (hb3.mono B2.out.size), by have := HL.out; simp; omega, fun _ => rfl, fun h => absurd rfl h, hb3.size⟩
      have hwB : w.heap.size ≤ w2.heap.size := B2.out.size
      clear hb3 ho3 RD2 B2
      generalize w2.heap.size = B at *
      go_loopw [6, 7] (fun v i wr => ∃ k : Nat, ∃ O X q c r, k ≤ m ∧ i = .int .i64 k ∧ v = .slice X q c ∧ CRel w g B n k l O X q c r wr) (fun _ i _ => m - (intOf i).toNat)
      case atStart => exact ⟨0, _, _, _, _, _, by omega, rfl, rfl, HR3.out⟩
      case round =>
        obtain ⟨k, O, X, q, c, r, hk, rfl, rfl, hq, ho, hrd, hb, hsz, hz, hf, hBw⟩ := hrel
        have HQ := Lib.hid hq
        have HO := Lib.hid ho
        have HRD := Lib.hid hrd
        have HB := Lib.hid hb
        have HZ := Lib.hid hz
        have HFF := Lib.hid hf
        have hq6 : q ≤ 5200 := by rw [hq]; omega
        by_cases hlt : k < m
        · have hkl : k < ks.length := by rw [HN.out]; exact hlt
          obtain ⟨b, off, rfl, hbw, hc⟩ := (RB.cells HK.out (by omega))
          have kd0 : w.cell? ⟨b, off + k, none⟩ = some (vb ks[k]) := hc k hkl
          generalize ks[k] = kd at *
          have kc : wr.cell? ⟨b, off + k, none⟩ = some (vb kd) := (hb.cell (p := ⟨b, off + k, none⟩) hbw).trans kd0
          have i0 : (0 : Int) ≤ (k : Int) := by omega
          have i1 : (k : Int) < (m : Int) := by omega
          clear hc kd0 hrd hb hz hf ho hq
          have hmod : kd.toNat % 5 ≤ 4 := by omega
          have HKV : Hid (vb (UInt8.ofNat (kd.toNat % 5)) = .int .u8 ((kd.toNat : Int) % 5)) := by
            show Value.int .u8 ((UInt8.ofNat (kd.toNat % 5)).toNat : Int) = _
            rw [UInt8.toNat_ofNat', Nat.mod_eq_of_lt (by omega)]; rfl
          have HC1 := Lib.hid (read_calls g r (UInt8.ofNat (kd.toNat % 5)) 0 wr HRD.out (by omega) (by omega))
          have hm6 : (UInt8.ofNat (kd.toNat % 5)).toNat % 6 = kd.toNat % 5 := by rw [UInt8.toNat_ofNat', Nat.mod_eq_of_lt (by omega)]; omega
          rw [HKV.out, hm6] at HC1
          have HCAN := Lib.hid (readR_canon (kd.toNat % 5) hmod r)
          obtain ⟨x, r2, HV⟩ : ∃ v r2, Hid (readR (kd.toNat % 5) 0 r = (v, r2)) := ⟨_, _, rfl⟩
          rw [HV.out] at HC1 HCAN
          simp only at HC1 HCAN
          clear hm6 hmod HKV
          go_wp2_with fail
          refine HC1.out.mono ?_
          rintro e w4 ⟨rfl, hr4, hc4⟩
          obtain ⟨hfit, hss, hcan⟩ := HCAN.out
          have HCN := Lib.hid hcan
          have HO4 := Lib.hid (HO.out.chg hc4 hgB)
          have HR4 := Lib.hid hr4
          have HB4 := Lib.hid (HB.out.trans (hc4.below HB.out.size (by simp; omega)))
          have hBw4 : B ≤ w4.heap.size := Nat.le_trans hBw hc4.size
          have hE4 := Ext.of_OB HO4.out HQ.out
          have HW := Lib.hid (write_calls B (.slice X q c) O x w4 hE4 (by rw [← HQ.out]; omega) hBw4 hfit (by omega))
          have HE4 := Lib.hid hE4
          clear hr4 hc4 hcan kc HC1 hE4
          go_wp2_with fail
          refine HW.out.mono ?_
          rintro e w5 ⟨v5, rfl, hx5⟩
          have hch := hx5.chg
          have hS : ∀ y ∈ (Value.slice X q c).ownBlock.toList, g < y := by
            intro y hy
            have h1 := HO4.out.ge y (by simpa using hy)
            omega
          have HR5 := Lib.hid (HR4.out.chg hch hS)
          have HB5 := Lib.hid (HB4.out.trans ((Ext.below HE4.out hBw4 hx5).mono hwB))
          have hBw5 : B ≤ w5.heap.size := Nat.le_trans hBw4 hx5.size
          obtain ⟨X5, c5, rfl, ho5, _⟩ := hx5
          have HO5 : Hid (OB w5 B (.slice X5 (O ++ encIt x).length c5) (O ++ encIt x)) := ho5
          have HREL : Hid (CRel w g B n (k + 1) l (O ++ encIt x) X5 (O ++ encIt x).length c5 r2 w5) := by
            refine ⟨rfl, HO5.out, HR5.out, HB5.out, ?_, ?_, ?_, hBw5⟩
            · rcases HCN.out with ⟨_, _, h3⟩ | ⟨h1, h2, h3⟩
              · have := congrArg List.length h3
                rw [List.length_append] at this
                rw [List.length_append]; omega
              · have hl0 : r2.l = [] := by
                  rcases h2 with h2 | h2
                  · rw [h2] at h1 ⊢; exact HFF.out h1
                  · exact h2
                rw [hl0, List.length_append]; simp; omega
            · intro h0
              rcases HCN.out with ⟨_, h2, h3⟩ | ⟨h1, _⟩
              · rw [HZ.out h2, h3, List.append_assoc]
              · exact absurd h0 h1
            · intro h0
              rcases HCN.out with ⟨h1, _⟩ | ⟨h1, h2, _⟩
              · exact absurd h1 h0
              · rcases h2 with h2 | h2
                · rw [h2] at h1 ⊢; exact HFF.out h1
                · exact h2
          have HREL' : Hid (CRel w g B n (k + 1) l (O ++ encIt x) X5 (O.length + (encIt x).length) c5 r2 w5) := by
            have := HREL.out; rw [List.length_append] at this; exact this
          clear ho5 hch hS HCN
          go_wp2_with fail
          go_roundw
          case rel => exact ⟨k + 1, _, _, _, _, _, by omega, by go_num, rfl, HREL'.out⟩
          case measure => simp [intOf]; omega
        · clear hrd hb hz hf ho hq
          obtain ⟨D, HD⟩ : ∃ x, Hid (x = doneR r) := ⟨_, rfl⟩
          obtain ⟨N2, HN2⟩ : ∃ x, Hid (x = r.l.length) := ⟨_, rfl⟩
          have HLE := Lib.hid (left_calls g r wr HRD.out)
          have HDO := Lib.hid (done_calls g r wr HRD.out)
          rw [← HN2.out] at HLE
          rw [← HD.out] at HDO
          have hN2 : N2 ≤ 6000 := by rw [HN2.out]; omega
          by_cases he : r.e = 0
          · have HLO : Hid (l = O ++ r.l) := HZ.out he
            have hsum : n = q + N2 := by rw [← HL.out, HLO.out, List.length_append, HQ.out, HN2.out]
            have HU : Hid ((n : Int) - (N2 : Int) = (q : Int)) := by show _ = _; omega
            have hqn : q ≤ n := by omega
            have k1 : decide ((0 : Int) ≤ (q : Int)) = true := by simp
            have k2 : decide ((q : Int) ≤ (n : Int)) = true := by simp; omega
            have k3 : (q : Int) ≤ (ca : Int) := by omega
            have HS := Lib.hid (same_calls X A q q c ca O (l.take q) wr HQ.out.symm (by rw [List.length_take, HL.out]; omega) HO.out.rb.1 (RB.take (RB.below HR.out HB.out) q))
            rw [show l.take q = O by rw [HLO.out, HQ.out, List.take_left'] ; rfl, sameB_self] at HS
            clear hsum
            by_cases hN : N2 = 0
            · have HD0 : Hid (D = 0) := by show _ = _; rw [HD.out]; unfold doneR; rw [if_neg (by rw [← HN2.out]; omega)]; exact he
              rw [HD0.out] at HDO
              clear hN he
              go_wp2_with fail
              refine HLE.out.mono ?_
              rintro e w6 ⟨rfl, rfl⟩
              go_wp2_with fail
              rw [HU.out]
              refine HDO.out.mono ?_
              rintro e w6 ⟨rfl, rfl⟩
              go_wp2_with (go_at_call 12; refine HS.out.mono ?_; rintro e w6 ⟨rfl, rfl⟩)
              go_ret
              exact ⟨rfl, HB.out⟩
            · have HD0 : Hid (D = 11) := by show _ = _; rw [HD.out]; unfold doneR; rw [if_pos ⟨he, by rw [← HN2.out]; omega⟩]
              rw [HD0.out] at HDO
              have q2 : ((N2 : Int) == 0) = false := by rw [beq_eq_false_iff_ne]; omega
              clear hN he
              go_wp2_with fail
              refine HLE.out.mono ?_
              rintro e w6 ⟨rfl, rfl⟩
              go_wp2_with fail
              rw [HU.out]
              refine HDO.out.mono ?_
              rintro e w6 ⟨rfl, rfl⟩
              go_wp2_with (first | (go_at_call 12; refine HS.out.mono ?_; rintro e w6 ⟨rfl, rfl⟩) | (go_at_call 21; refine HLE.out.mono ?_; rintro e w6 ⟨rfl, rfl⟩))
              go_ret
              exact ⟨rfl, HB.out⟩
          · have HN0 : Hid (N2 = 0) := by show _ = _; rw [HN2.out, HFF.out he]; rfl
            have HD0 : Hid (D = r.e) := by show _ = _; rw [HD.out]; unfold doneR; rw [if_neg (by rintro ⟨h, _⟩; exact he h)]
            have q1 : (D != 0) = true := by rw [HD0.out]; simpa using he
            rw [HN0.out] at HLE
            clear he
            by_cases h11 : D = 11
            · rw [h11] at HDO
              clear h11 q1
              go_wp2_with fail
              refine HLE.out.mono ?_
              rintro e w6 ⟨rfl, rfl⟩
              go_wp2_with fail
              refine HDO.out.mono ?_
              rintro e w6 ⟨rfl, rfl⟩
              go_wp2_with (go_at_call 21; refine HLE.out.mono ?_; rintro e w6 ⟨rfl, rfl⟩)
              go_ret
              exact ⟨rfl, HB.out⟩
            · have q3 : (D != 11) = true := by simpa using h11
              clear h11
              go_wp2_with fail
              refine HLE.out.mono ?_
              rintro e w6 ⟨rfl, rfl⟩
              go_wp2_with fail
              refine HDO.out.mono ?_
              rintro e w6 ⟨rfl, rfl⟩
              go_wp2_with fail
              go_ret
              exact ⟨rfl, HB.out⟩
end Wi
end Go.Proofs.Ytkbhbpklgdmgpaa
