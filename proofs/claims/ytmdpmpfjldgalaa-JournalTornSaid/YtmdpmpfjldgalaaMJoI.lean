/- The walk of the law JournalCheckpoints. -/
import Derived.Test.YtmdpmpfjldgalaaMJoH
namespace Go.Proofs.Ytmdpmpfjldgalaa
open Go.RowKit
namespace Jn
open Dk Wi Wr

section
variable {w0 w1 w w' : World} {F F' S : List Nat} {x g q b t : Nat} {s : List UInt8} {rs : List (List UInt8)} {D : St} {j : Jr}
theorem PJ.wr (h : PJ w0 x g q F D j w) (hc : Chg S w w') (hS : ∀ y ∈ S, y ∈ F ∧ w0.heap.size ≤ y) (hx : x ∉ S) : PJ w0 x g q F D j w' :=
  ⟨h.jo.wr hc hS, (World.cell?_of_block (a := ⟨x, 0, none⟩) (hc.block x h.xl hx)).trans h.c0, (World.cell?_of_block (a := ⟨x, 1, none⟩) (hc.block x h.xl hx)).trans h.c1, h.xF⟩
theorem PJ.seen (h : PJ w0 x g q F D j w) (hn : D.n ≤ 100) : Calls Try.prog 24 #[.pointer (some ⟨q, 0, none⟩)] w fun e w' => ∃ v N, e = .returned v ∧ SmV w' N v j.t j.s j.rs ∧ Below w.heap.size w w' :=
  (jo_seen h.jo hn).mono fun _ _ ⟨v, N, a, b, c, _⟩ => ⟨v, N, a, b, c⟩
/-- the variable is made -/
theorem WB.make (h1 : Below w1.heap.size w1 w) {c0 c1 c2 c3 c7 c8 : Value} {A : Option Addr} {c n : Nat} {l : List UInt8} {N : List Nat} (hr : InR w1 N ⟨A, c, l⟩) (hl : l.length = n) (hN : ∀ y ∈ N, y < w1.heap.size)
    (hd : w.heap[b]? = some (.cells #[c0, c1, c2, c3, .int .i64 (t : Int), .slice A n c, .slice none 0 0, c7, c8] 46 (0, 0))) (hb : b ∈ F) (hb1 : w1.heap.size ≤ b) : WB w1 F b t l [] w := by
  subst hl
  exact ⟨_, _, _, _, _, _, _, _, _, N, hd, ⟨_, _, _, _, _, _, none, 0, [], _, _, rfl, hr.below h1, ⟨Rd.nil, Nat.le_refl _, Nat.zero_le _, fun hp => by simp at hp, fun m hm => by cases hm⟩, rfl⟩, hb, fun y hy => .inr (hN y hy), fun hy => by have := hN b hy; omega⟩
/-- one record is put into it -/
theorem WB.one (h1 : Below w1.heap.size w1 w) {c0 c1 c2 c3 c7 c8 : Value} {A B : Option Addr} {c n rc rn : Nat} {l r : List UInt8} {N N2 : List Nat} {b2 : Nat} (hr : InR w1 N ⟨A, c, l⟩) (hl : l.length = n) (hN : ∀ y ∈ N, y < w1.heap.size) (hr2 : InR w1 N2 ⟨B, rc, r⟩) (hl2 : r.length = rn) (hN2 : ∀ y ∈ N2, y < w1.heap.size)
    (hd : w.heap[b]? = some (.cells #[c0, c1, c2, c3, .int .i64 (t : Int), .slice A n c, .slice (some ⟨b2, 0, none⟩) 1 1, c7, c8] 46 (0, 0))) (hb : b ∈ F) (hb2 : w.heap[b2]? = some (.cells #[.slice B rn rc] 29 (0, 0))) (hb2F : b2 ∈ F) (hb1 : w1.heap.size ≤ b) (hne : b ≠ b2) : WB w1 F b t l [r] w := by
  subst hl hl2
  refine ⟨_, _, _, _, _, _, _, _, _, b2 :: (N ++ N2), hd, ⟨_, _, _, _, _, _, some ⟨b2, 0, none⟩, 1, [⟨B, rc, r⟩], _, _, rfl, (hr.below h1).sub (fun y hy => by simp [hy]), ⟨?_, Nat.le_refl _, by simp [maxLen], fun _ b off e => by cases e; simp, fun m hm => ?_⟩, rfl⟩, hb, fun y hy => ?_, fun hy => ?_⟩
  · exact Rd.mk fun i v hv => by
      rw [Nat.zero_add, cell_of_row _ _ _ _ _ _ hb2]
      simpa [rval] using hv
  · simp only [List.mem_singleton] at hm
    subst hm
    exact (hr2.below h1).sub (fun y hy => by simp [hy])
  · rcases List.mem_cons.1 hy with rfl | hy
    · exact .inl hb2F
    · rcases List.mem_append.1 hy with hy | hy
      · exact .inr (hN y hy)
      · exact .inr (hN2 y hy)
  · rcases List.mem_cons.1 hy with hy | hy
    · exact hne hy
    · rcases List.mem_append.1 hy with hy | hy
      · have := hN b hy; omega
      · have := hN2 b hy; omega
end

set_option maxRecDepth 100000 in
set_option maxHeartbeats 8000000 in
theorem jcheckpoints_law (w : World) (sb : UInt8) (A : Option Addr) (n ca : Nat) (ms : List Om) (hn : ms.length = n) (hr : RdO w A ms) (hnm : n ≤ 9223372036854775807)
    (Bs : Option Addr) (sn sc : Nat) (st : List UInt8) (hs : st.length = sn) (hsc : sn ≤ sc) (hsm : sc ≤ maxLen) (hrs : RB w Bs st)
    (Br : Option Addr) (rn rc : Nat) (rr : List UInt8) (hr2 : rr.length = rn) (hrc : rn ≤ rc) (hrm : rc ≤ maxLen) (hrr : RB w Br rr)
    (Z : Option Addr) (zn zc : Nat) (sv : List Int) (hz : sv.length = zn) (hrz : Rd w Z (sv.map (Value.int .i64))) (hzm : zn ≤ 9223372036854775807) :
    Calls Try.prog 8 #[vb sb, .slice A n ca, .slice Bs sn sc, .slice Br rn rc, .slice Z zn zc] w fun e w' => e = .returned (.bool true) ∧ Below w.heap.size w w' := by
  have HN := Lib.hid hn
  have HR := Lib.hid hr
  have HS := Lib.hid hs
  have HRS := Lib.hid hrs
  have HR2 := Lib.hid hr2
  have HRR := Lib.hid hrr
  have HZ := Lib.hid hz
  have HRZ := Lib.hid hrz
  have HSC : Hid (st.length ≤ sc ∧ sc ≤ maxLen ∧ rr.length ≤ rc ∧ rc ≤ maxLen) := ⟨by rw [hs]; exact hsc, hsm, by rw [hr2]; exact hrc, hrm⟩
  have HFEW := Lib.hid (ofew_calls A n ca 20 ms w hn hr hnm)
  rw [show ((20 : Nat) : Int) = 20 from rfl] at HFEW
  unfold maxLen at hsm hrm
  have hsn : sn ≤ 9223372036854775807 := by omega
  have hrn : rn ≤ 9223372036854775807 := by omega
  clear hn hr hs hrs hr2 hrr hz hrz hsc hsm hrc hrm
  unfold vb
  go_enter Try.func8, Try.ntmps8
  go_wp2_with fail
  (with_reducible refine HFEW.out.mono ?_)
  rintro e w1 ⟨rfl, hb1⟩
  have HB1 := Lib.hid hb1
  have HAW := Lib.hid (oawake_calls w1)
  cases hf : fewO ms 20 with
  | false =>
    clear hb1 HFEW
    (go_wp2_with fail; (with_reducible refine HAW.out.mono ?_); rintro e w2 ⟨rfl, hb2⟩; have HF := Lib.hid (HB1.out.trans (hb2.mono HB1.out.size)); clear hb2; go_wp2_with fail; go_ret; exact ⟨rfl, HF.out⟩)
  | true =>
    obtain ⟨hall, hn20⟩ := fewO_of hf
    have HPC := Lib.hid (play_calls w1 sb A n ca ms HN.out (HR.out.below hb1) (fun m hm => (hall m hm).1) hnm)
    clear hf hall hb1 HFEW
    by_cases h1 : sn ≤ 400
    · have d1 : decide ((400 : Int) < (sn : Int)) = false := by simp; omega
      by_cases h2 : rn ≤ 400
      · have d2 : decide ((400 : Int) < (rn : Int)) = false := by simp; omega
        by_cases h3 : zn ≤ 10
        · have d3 : decide ((10 : Int) < (zn : Int)) = false := by simp; omega
          have HRZ1 := Lib.hid (Rd.below HRZ.out HB1.out)
          have HRS1 := Lib.hid (RB.below HRS.out HB1.out)
          have HRR1 := Lib.hid (RB.below HRR.out HB1.out)
          obtain ⟨NS, hNS, hNSl⟩ := arg_inR HRS1.out HSC.out.1 HSC.out.2.1
          obtain ⟨NR, hNR, hNRl⟩ := arg_inR HRR1.out HSC.out.2.2.1 HSC.out.2.2.2
          have HNS := Lib.hid hNS
          have HNSL := Lib.hid hNSl
          have HNR := Lib.hid hNR
          have HNRL := Lib.hid hNRl
          clear HAW hNS hNSl hNR hNRl
          go_wp2_with fail
          (with_reducible refine HPC.out.mono ?_)
          rintro e w2 ⟨x, N, hN2, hN41, rfl, hpb⟩
          obtain ⟨g, q, F, D, j, hpj, hp, hDn⟩ := hpb.pj
          have HPJ := Lib.hid hpj
          have HP := Lib.hid hp
          have hD : D.n ≤ 100 := hp.hn
          have HTU := jo_turn hpj.jo
          obtain ⟨jt, HJT⟩ : ∃ y, Hid (j.t = y) := ⟨_, rfl⟩
          obtain ⟨t1, HT1⟩ : ∃ y, Hid (jt + 1 = y) := ⟨_, rfl⟩
          have e1 : (jt : Int) + 1 = (t1 : Int) := by have := HT1.out; omega
          have hjt : jt ≤ 1099511627776 := by have := hp.t2; have := HJT.out; omega
          rw [HJT.out] at HTU
          have HTUU := Lib.hid HTU
          have c1 := hpj.c1
          clear hpb hpj hp HPC HTU
          go_wp2_with fail
          (with_reducible refine HTUU.out.mono ?_)
          rintro e w3 ⟨rfl, rfl⟩
          have hb3 := below1 w2 (.cells #[.slice none 0 0, .slice none 0 0, .bool false, .int .i64 0, .int .i64 (t1 : Int), .slice Bs sn sc, .slice none 0 0, .int .i64 0, .bool false] 46)
          have hx3 := heap_alloc_new w2 (.cells #[.slice none 0 0, .slice none 0 0, .bool false, .int .i64 0, .int .i64 (t1 : Int), .slice Bs sn sc, .slice none 0 0, .int .i64 0, .bool false] 46)
          go_upto_region 7 with (fail)
          generalize w2.alloc (.cells #[.slice none 0 0, .slice none 0 0, .bool false, .int .i64 0, .int .i64 (t1 : Int), .slice Bs sn sc, .slice none 0 0, .int .i64 0, .bool false] 46) = w3 at *
          have hs3 : w2.heap.size < w3.heap.size := (Array.getElem?_eq_some_iff.1 hx3).1
          have HX3 := Lib.hid hx3
          have HPJ3 := Lib.hid (HPJ.out.grow (F' := w2.heap.size :: F) hb3 (fun y hy => by
            rcases List.mem_cons.1 hy with rfl | hy
            · exact .inr ⟨Nat.le_refl _, hs3⟩
            · exact .inl hy) (by have := HPJ.out.xF; simp [this]))
          have HXB : Hid (x ≠ w2.heap.size ∧ w1.heap.size ≤ w2.heap.size) := ⟨by have := HPJ.out.xl; omega, HPJ.out.b.size⟩
          obtain ⟨b, HB⟩ : ∃ y, Hid (w2.heap.size = y) := ⟨_, rfl⟩
          rw [HB.out] at HX3 HPJ3 HXB hs3 ⊢
          have HCK := Lib.hid (HPJ3.out.checkpoint_calls Bs sn sc st HS.out (by omega) HRS1.out hD HP.out.calm)
          have c3 := HPJ3.out.c1
          have HCE := Lib.hid (HP.out.chke st)
          clear hx3 hb3 c1 HTUU HPJ
          obtain ⟨er, HER⟩ : ∃ y, Hid (chkE D j st = y) := ⟨_, rfl⟩
          rw [HER.out] at HCK HCE
          go_wp2_with fail
          (with_reducible refine HCK.out.mono ?_)
          rintro e w4 ⟨rfl, hpj4, hk4⟩
          have HK4 := Lib.hid hk4
          have HPJ4 := Lib.hid hpj4
          clear hpj4 hk4 HCK
          rcases HCE.out with he8 | ⟨he0, hp1, hn1, hj1⟩
          · subst he8
            have HAW4 := Lib.hid (oawake_calls w4)
            have HBW4 := Lib.hid (HB1.out.trans (HPJ4.out.b.mono HB1.out.size))
            go_wp2_with fail
            (with_reducible refine HAW4.out.mono ?_)
            rintro e w5 ⟨rfl, hb5⟩
            have HF := Lib.hid (HBW4.out.trans (hb5.mono HBW4.out.size))
            clear hb5
            go_wp2_with fail
            go_ret
            exact ⟨rfl, HF.out⟩
          · subst he0
            have HX4 := Lib.hid ((HK4.out b (by simp)).trans HX3.out)
            have HP1 := Lib.hid hp1
            have hj1t : (chkJ D j st).t = t1 ∧ (chkJ D j st).s = st ∧ (chkJ D j st).rs = [] := by rw [hj1]; exact ⟨by show j.t + 1 = t1; rw [HJT.out]; exact HT1.out, rfl, rfl⟩
            have hD1 : (chkD D j st).n ≤ 100 := by rw [hn1]; exact hD
            generalize chkD D j st = D1 at *
            generalize chkJ D j st = j1 at *
            have HJ1 := Lib.hid hj1t
            have HAP := Lib.hid (HPJ4.out.append_calls Br rn rc rr HR2.out (by omega) HRR1.out hD1 HP1.out.calm)
            have HAE := Lib.hid (HP1.out.appe rr)
            have c4 := HPJ4.out.c1
            obtain ⟨e2, HE2⟩ : ∃ y, Hid (appE D1 j1 rr = y) := ⟨_, rfl⟩
            rw [HE2.out] at HAP HAE
            clear hp1 hn1 hj1 hj1t c3 HK4 HX3 HPJ3 HCE
            go_wp2_with fail
            (with_reducible refine HAP.out.mono ?_)
            rintro e w5 ⟨rfl, hpj5, hk5⟩
            have HPJ5 := Lib.hid hpj5
            have HX5 := Lib.hid ((hk5 b (by simp)).trans HX4.out)
            have hs5 : b < w5.heap.size := (Array.getElem?_eq_some_iff.1 HX5.out).1
            clear hpj5 hk5 c4 HAP HX4 HPJ4
            go_upto_if 65 with (fail)
            go_cut [] (fun wx => ∃ D2 j2 F2, Play D2 j2 ∧ D2.n ≤ 100 ∧ PJ w1 x g q F2 D2 j2 wx ∧ WB w1 F2 b j2.t j2.s j2.rs wx)
            case first =>
              rcases HAE.out with ⟨_, he, hd, hj⟩ | ⟨_, he, hp2, hn2, hj⟩
              · subst he
                have HG : Hid (∃ D2 j2 F2, Play D2 j2 ∧ D2.n ≤ 100 ∧ PJ w1 x g q F2 D2 j2 w5 ∧ WB w1 F2 b j2.t j2.s j2.rs w5) := by
                  have h := HPJ5.out
                  rw [hd, hj] at h
                  refine ⟨D1, j1, _, HP1.out, hD1, h, ?_⟩
                  rw [HJ1.out.1, HJ1.out.2.1, HJ1.out.2.2]
                  exact WB.make h.b HNS.out HS.out HNSL.out HX5.out (by simp) HXB.out.2
                go_wp2_with fail
                go_meet
                exact HG.out
              · subst he
                have hcs : Chg [b] w5 (w5.setCell ⟨b, 6, none⟩ (.slice (some ⟨w5.heap.size, 0, none⟩) 1 1)) := (Chg.refl _ _).setCell (p := ⟨b, 6, none⟩) (.inl (by simp)) _
                have hsz : (w5.setCell ⟨b, 6, none⟩ (.slice (some ⟨w5.heap.size, 0, none⟩) 1 1)).heap.size = w5.heap.size := by simp [World.setCell]
                have hx6 : (w5.setCell ⟨b, 6, none⟩ (.slice (some ⟨w5.heap.size, 0, none⟩) 1 1)).heap[b]? = _ := heap_setCell_same _ _ _ _ _ _ HX5.out
                have HG : Hid (∃ D2 j2 F2, Play D2 j2 ∧ D2.n ≤ 100 ∧ PJ w1 x g q F2 D2 j2 ((w5.setCell ⟨b, 6, none⟩ (.slice (some ⟨w5.heap.size, 0, none⟩) 1 1)).alloc (.cells #[.slice Br rn rc] 29)) ∧ WB w1 F2 b j2.t j2.s j2.rs ((w5.setCell ⟨b, 6, none⟩ (.slice (some ⟨w5.heap.size, 0, none⟩) 1 1)).alloc (.cells #[.slice Br rn rc] 29))) := by
                  have h2 := HPJ5.out.wr hcs (fun y hy => by
                    simp only [List.mem_singleton] at hy
                    subst hy
                    exact ⟨by simp, HXB.out.2⟩) (by simp; exact HXB.out.1)
                  generalize w5.setCell ⟨b, 6, none⟩ (.slice (some ⟨w5.heap.size, 0, none⟩) 1 1) = w6 at *
                  have hb6 := below1 w6 (.cells #[.slice Br rn rc] 29)
                  have hn6 := heap_alloc_new w6 (.cells #[.slice Br rn rc] 29)
                  rw [hsz] at hn6
                  have hz6 : (w6.alloc (.cells #[.slice Br rn rc] 29)).heap.size = w5.heap.size + 1 := by simp [hsz]
                  have h := h2.grow (F' := w5.heap.size :: b :: F) hb6 (fun y hy => by
                    simp only [List.mem_cons] at hy
                    rcases hy with rfl | rfl | hy
                    · exact .inr ⟨by omega, by omega⟩
                    · exact .inl (by simp)
                    · exact .inl (by simp [hy])) (by have := HPJ5.out.xF; simp at this ⊢; exact .inr this)
                  refine ⟨_, _, _, hp2, by rw [hn2]; exact hD1, h, ?_⟩
                  rw [hj]
                  show WB w1 _ b j1.t j1.s (j1.rs ++ [rr]) _
                  rw [HJ1.out.1, HJ1.out.2.1, HJ1.out.2.2]
                  exact WB.one h.b HNS.out HS.out HNSL.out HNR.out HR2.out HNRL.out ((hb6.block _ (by omega)).trans hx6) (by simp) hn6 (by simp) HXB.out.2 (by omega)
                clear hcs hsz hx6
                have fc0 : w5.cell? ⟨b, 0, none⟩ = some _ := (cell_of_row _ _ 0 _ _ _ HX5.out).trans rfl; have ff0 : w5.frozen? ⟨b, 0, none⟩ = false := frozen_of_row _ _ _ _ _ HX5.out; have fc1 : w5.cell? ⟨b, 1, none⟩ = some _ := (cell_of_row _ _ 1 _ _ _ HX5.out).trans rfl; have ff1 : w5.frozen? ⟨b, 1, none⟩ = false := frozen_of_row _ _ _ _ _ HX5.out; have fc2 : w5.cell? ⟨b, 2, none⟩ = some _ := (cell_of_row _ _ 2 _ _ _ HX5.out).trans rfl; have ff2 : w5.frozen? ⟨b, 2, none⟩ = false := frozen_of_row _ _ _ _ _ HX5.out; have fc3 : w5.cell? ⟨b, 3, none⟩ = some _ := (cell_of_row _ _ 3 _ _ _ HX5.out).trans rfl; have ff3 : w5.frozen? ⟨b, 3, none⟩ = false := frozen_of_row _ _ _ _ _ HX5.out; have fc4 : w5.cell? ⟨b, 4, none⟩ = some _ := (cell_of_row _ _ 4 _ _ _ HX5.out).trans rfl; have ff4 : w5.frozen? ⟨b, 4, none⟩ = false := frozen_of_row _ _ _ _ _ HX5.out; have fc5 : w5.cell? ⟨b, 5, none⟩ = some _ := (cell_of_row _ _ 5 _ _ _ HX5.out).trans rfl; have ff5 : w5.frozen? ⟨b, 5, none⟩ = false := frozen_of_row _ _ _ _ _ HX5.out; have fc6 : w5.cell? ⟨b, 6, none⟩ = some _ := (cell_of_row _ _ 6 _ _ _ HX5.out).trans rfl; have ff6 : w5.frozen? ⟨b, 6, none⟩ = false := frozen_of_row _ _ _ _ _ HX5.out; have fc7 : w5.cell? ⟨b, 7, none⟩ = some _ := (cell_of_row _ _ 7 _ _ _ HX5.out).trans rfl; have ff7 : w5.frozen? ⟨b, 7, none⟩ = false := frozen_of_row _ _ _ _ _ HX5.out; have fc8 : w5.cell? ⟨b, 8, none⟩ = some _ := (cell_of_row _ _ 8 _ _ _ HX5.out).trans rfl; have ff8 : w5.frozen? ⟨b, 8, none⟩ = false := frozen_of_row _ _ _ _ _ HX5.out
                go_wp2_with fail
                go_meet
                exact HG.out
            case rest =>
            obtain ⟨D2, j2, F2, hp2, hn2, hpj, hwb⟩ := hcut
            clear HAE HE2 HPJ5 HX5 hs5 HP1 HJ1 hD1
            have HP2 := Lib.hid hp2
            have HPC := Lib.hid hpj
            have HWC := Lib.hid hwb
            obtain ⟨c0, c1, c2, c3, c4, c5, c6, c7, c8, NW, hbd, hsm, hbF, hNF, hbNW⟩ := hwb
            have HBD := Lib.hid hbd
            have HSM := Lib.hid hsm
            have HBS : Hid (b < wc.heap.size) := (Array.getElem?_eq_some_iff.1 hbd).1
            obtain ⟨wk, HWK⟩ : ∃ y : World, Hid (y = wc) := ⟨_, rfl⟩
            have hrl : j2.rs.length ≤ 1000 := hpj.rsl hn2
            have HSN : ∀ u, Below wc.heap.size wc u → Hid (Calls Try.prog 24 #[.pointer (some ⟨q, 0, none⟩)] u fun e w' => ∃ v N, e = .returned v ∧ SmV w' N v j2.t j2.s j2.rs ∧ Below wc.heap.size wc w') := fun u hu => ((HPC.out.below hu).seen hn2).mono fun _ _ ⟨v, N, a, b, c⟩ => ⟨v, N, a, b, hu.trans (c.mono hu.size)⟩
            have HSA : ∀ u v1 N1, Below wc.heap.size wc u → SmV u N1 v1 j2.t j2.s j2.rs → Hid (Calls Try.prog 23 #[v1, .agg #[c0, c1, c2, c3, c4, c5, c6, c7, c8]] u fun e w' => e = .returned (.bool true) ∧ Below wc.heap.size wc w') := fun u v1 N1 hu h1 => by
              refine (rsame_calls v1 _ N1 NW j2.t j2.t j2.s j2.s j2.rs j2.rs u h1 (HSM.out.below hu) hrl).mono ?_
              rintro e w' ⟨rfl, b⟩
              exact ⟨by rw [sameJ_yes ⟨rfl, rfl, rfl⟩], hu.trans (b.mono hu.size)⟩
            have x1 : ∀ u, Below wc.heap.size wc u → u.cell? ⟨x, 1, none⟩ = some (.pointer (some ⟨q, 0, none⟩)) := fun u hu => (HPC.out.below hu).c1
            have bc0 : ∀ u, Below (wc).heap.size (wc) u → u.cell? ⟨b, 0, none⟩ = some c0 := fun u hu => (cell_of_row _ _ 0 _ _ _ ((hu.block _ HBS.out).trans HBD.out)).trans rfl; have bc1 : ∀ u, Below (wc).heap.size (wc) u → u.cell? ⟨b, 1, none⟩ = some c1 := fun u hu => (cell_of_row _ _ 1 _ _ _ ((hu.block _ HBS.out).trans HBD.out)).trans rfl; have bc2 : ∀ u, Below (wc).heap.size (wc) u → u.cell? ⟨b, 2, none⟩ = some c2 := fun u hu => (cell_of_row _ _ 2 _ _ _ ((hu.block _ HBS.out).trans HBD.out)).trans rfl; have bc3 : ∀ u, Below (wc).heap.size (wc) u → u.cell? ⟨b, 3, none⟩ = some c3 := fun u hu => (cell_of_row _ _ 3 _ _ _ ((hu.block _ HBS.out).trans HBD.out)).trans rfl; have bc4 : ∀ u, Below (wc).heap.size (wc) u → u.cell? ⟨b, 4, none⟩ = some c4 := fun u hu => (cell_of_row _ _ 4 _ _ _ ((hu.block _ HBS.out).trans HBD.out)).trans rfl; have bc5 : ∀ u, Below (wc).heap.size (wc) u → u.cell? ⟨b, 5, none⟩ = some c5 := fun u hu => (cell_of_row _ _ 5 _ _ _ ((hu.block _ HBS.out).trans HBD.out)).trans rfl; have bc6 : ∀ u, Below (wc).heap.size (wc) u → u.cell? ⟨b, 6, none⟩ = some c6 := fun u hu => (cell_of_row _ _ 6 _ _ _ ((hu.block _ HBS.out).trans HBD.out)).trans rfl; have bc7 : ∀ u, Below (wc).heap.size (wc) u → u.cell? ⟨b, 7, none⟩ = some c7 := fun u hu => (cell_of_row _ _ 7 _ _ _ ((hu.block _ HBS.out).trans HBD.out)).trans rfl; have bc8 : ∀ u, Below (wc).heap.size (wc) u → u.cell? ⟨b, 8, none⟩ = some c8 := fun u hu => (cell_of_row _ _ 8 _ _ _ ((hu.block _ HBS.out).trans HBD.out)).trans rfl
            clear hp2 hpj hbd hsm hbF hNF hbNW
            go_upto_region 11 with (fail)
            go_region_held3 (fun w' => Below wc.heap.size wc w') (first | exact (Below.refl _ _).drew | assumption) (first | (go_at_call 24; (with_reducible refine (HSN _ (by assumption)).out.mono ?_); rintro e w7 ⟨v7, N7, rfl, hv7, hb7⟩; have HV7 := Lib.hid hv7; clear hv7) | (go_at_call 23; (with_reducible refine (HSA w7 v7 N7 hb7 HV7.out).out.mono ?_); rintro e w8 ⟨rfl, hb8⟩))
            have HP8 := Lib.hid (HPC.out.below hb8)
            have HW8 := Lib.hid (HWC.out.below hb8)
            clear bc0 bc1 bc2 bc3 bc4 bc5 bc6 bc7 bc8
            clear x1 HSA HSN hb7 hb8 HBD HSM HBS HPC HWC
            have HCR := HP8.out.crash_calls Z zn zc sv HZ.out HRZ1.out
            rw [HP2.out.crash sv] at HCR
            have HCRR := Lib.hid HCR
            have k0 := HP8.out.c0
            clear HCR
            go_wp2_with fail
            (with_reducible refine HCRR.out.mono ?_)
            rintro e w9 ⟨rfl, hpj, hk9⟩
            have HW9 := Lib.hid (HW8.out.kept hk9 HP8.out.b hpj.b)
            have HOP := hpj.open_calls HP2.out.open.1 HP2.out.calm hn2
            rw [HP2.out.open.2] at HOP
            have HOPP := Lib.hid HOP
            have k9 := hpj.c0
            have HP9 := Lib.hid hpj
            clear hpj HOP k0 HCRR hk9 HP8 HW8
            go_wp2_with fail
            (with_reducible refine HOPP.out.mono ?_)
            rintro e wd ⟨q2, rfl, htw, hkd⟩
            have HT := Lib.hid htw
            have HWD := HW9.out.kept hkd HP9.out.b htw.b
            have HBW : Hid (Below w.heap.size w wd) := HB1.out.trans (htw.b.mono HB1.out.size)
            obtain ⟨c0, c1, c2, c3, c4, c5, c6, c7, c8, NW, hbd, hsm, hbF, hNF, hbNW⟩ := HWD
            have HBD := Lib.hid hbd
            have HSM := Lib.hid hsm
            have HBS : Hid (b < wd.heap.size) := (Array.getElem?_eq_some_iff.1 hbd).1
            have HSN : ∀ u, Below wd.heap.size wd u → Hid (Calls Try.prog 24 #[.pointer (some ⟨q2, 0, none⟩)] u fun e w' => ∃ v N, e = .returned v ∧ SmV w' N v j2.t j2.s j2.rs ∧ Below wd.heap.size wd w') := fun u hu => ((HT.out.below hu).seen2 hn2).mono fun _ _ ⟨v, N, a, b, c⟩ => ⟨v, N, a, b, hu.trans (c.mono hu.size)⟩
            have HSA : ∀ u v1 N1, Below wd.heap.size wd u → SmV u N1 v1 j2.t j2.s j2.rs → Hid (Calls Try.prog 23 #[v1, .agg #[c0, c1, c2, c3, c4, c5, c6, c7, c8]] u fun e w' => e = .returned (.bool true) ∧ Below wd.heap.size wd w') := fun u v1 N1 hu h1 => by
              refine (rsame_calls v1 _ N1 NW j2.t j2.t j2.s j2.s j2.rs j2.rs u h1 (HSM.out.below hu) hrl).mono ?_
              rintro e w' ⟨rfl, b⟩
              exact ⟨by rw [sameJ_yes ⟨rfl, rfl, rfl⟩], hu.trans (b.mono hu.size)⟩
            have HAWD : ∀ u, Below wd.heap.size wd u → Hid (Calls Try.prog 11 #[] u fun e w' => e = .returned (.bool true) ∧ Below wd.heap.size wd w') := fun u hu => (oawake_calls u).mono fun _ _ ⟨a, b⟩ => ⟨a, hu.trans (b.mono hu.size)⟩
            have bc0 : ∀ u, Below (wd).heap.size (wd) u → u.cell? ⟨b, 0, none⟩ = some c0 := fun u hu => (cell_of_row _ _ 0 _ _ _ ((hu.block _ HBS.out).trans HBD.out)).trans rfl; have bc1 : ∀ u, Below (wd).heap.size (wd) u → u.cell? ⟨b, 1, none⟩ = some c1 := fun u hu => (cell_of_row _ _ 1 _ _ _ ((hu.block _ HBS.out).trans HBD.out)).trans rfl; have bc2 : ∀ u, Below (wd).heap.size (wd) u → u.cell? ⟨b, 2, none⟩ = some c2 := fun u hu => (cell_of_row _ _ 2 _ _ _ ((hu.block _ HBS.out).trans HBD.out)).trans rfl; have bc3 : ∀ u, Below (wd).heap.size (wd) u → u.cell? ⟨b, 3, none⟩ = some c3 := fun u hu => (cell_of_row _ _ 3 _ _ _ ((hu.block _ HBS.out).trans HBD.out)).trans rfl; have bc4 : ∀ u, Below (wd).heap.size (wd) u → u.cell? ⟨b, 4, none⟩ = some c4 := fun u hu => (cell_of_row _ _ 4 _ _ _ ((hu.block _ HBS.out).trans HBD.out)).trans rfl; have bc5 : ∀ u, Below (wd).heap.size (wd) u → u.cell? ⟨b, 5, none⟩ = some c5 := fun u hu => (cell_of_row _ _ 5 _ _ _ ((hu.block _ HBS.out).trans HBD.out)).trans rfl; have bc6 : ∀ u, Below (wd).heap.size (wd) u → u.cell? ⟨b, 6, none⟩ = some c6 := fun u hu => (cell_of_row _ _ 6 _ _ _ ((hu.block _ HBS.out).trans HBD.out)).trans rfl; have bc7 : ∀ u, Below (wd).heap.size (wd) u → u.cell? ⟨b, 7, none⟩ = some c7 := fun u hu => (cell_of_row _ _ 7 _ _ _ ((hu.block _ HBS.out).trans HBD.out)).trans rfl; have bc8 : ∀ u, Below (wd).heap.size (wd) u → u.cell? ⟨b, 8, none⟩ = some c8 := fun u hu => (cell_of_row _ _ 8 _ _ _ ((hu.block _ HBS.out).trans HBD.out)).trans rfl
            clear htw hkd hbd hsm hbF hNF hbNW k9 HOPP
            go_upto_region 14 with (fail)
            go_region_held3 (fun w' => Below wd.heap.size wd w') (first | exact (Below.refl _ _).drew | assumption) (first | (go_at_call 24; (with_reducible refine (HSN _ (by assumption)).out.mono ?_); rintro e w11 ⟨v7, N7, rfl, hv7, hb11⟩; have HV7 := Lib.hid hv7; clear hv7) | (go_at_call 23; (with_reducible refine (HSA w11 v7 N7 hb11 HV7.out).out.mono ?_); rintro e w12 ⟨rfl, hb12⟩) | (go_at_call 11; (with_reducible refine (HAWD _ (by assumption)).out.mono ?_); rintro e w13 ⟨rfl, hb13⟩))
            have HF : Hid (Below w.heap.size w w13) := HBW.out.trans (hb13.mono HBW.out.size)
            go_wp2_with fail
            go_ret
            exact ⟨rfl, HF.out⟩
        · have d3 : decide ((10 : Int) < (zn : Int)) = true := by simp; omega
          clear HPC
          (go_wp2_with fail; (with_reducible refine HAW.out.mono ?_); rintro e w2 ⟨rfl, hb2⟩; have HF := Lib.hid (HB1.out.trans (hb2.mono HB1.out.size)); clear hb2; go_wp2_with fail; go_ret; exact ⟨rfl, HF.out⟩)
      · have d2 : decide ((400 : Int) < (rn : Int)) = true := by simp; omega
        clear HPC
        (go_wp2_with fail; (with_reducible refine HAW.out.mono ?_); rintro e w2 ⟨rfl, hb2⟩; have HF := Lib.hid (HB1.out.trans (hb2.mono HB1.out.size)); clear hb2; go_wp2_with fail; go_ret; exact ⟨rfl, HF.out⟩)
    · have d1 : decide ((400 : Int) < (sn : Int)) = true := by simp; omega
      clear HPC
      (go_wp2_with fail; (with_reducible refine HAW.out.mono ?_); rintro e w2 ⟨rfl, hb2⟩; have HF := Lib.hid (HB1.out.trans (hb2.mono HB1.out.size)); clear hb2; go_wp2_with fail; go_ret; exact ⟨rfl, HF.out⟩)
end Jn
end Go.Proofs.Ytmdpmpfjldgalaa
