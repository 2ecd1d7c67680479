/- The walk of the law JournalOpens. -/
import Derived.Test.YtmdpmpfjldgalaaMJoL
namespace Go.Proofs.Ytmdpmpfjldgalaa
open Go.RowKit
namespace Jn
open Dk Wi Wr

theorem AnyB.same {w0 w : World} {x N : Nat} (h : AnyB w0 x N w) (hN : N ≤ 100) :
    Calls Try.prog 19 #[.pointer (some ⟨x, 0, none⟩)] w fun e w' => e = .returned (.bool true) ∧ AnyB w0 x N w' := by
  obtain ⟨D, o, jm, hb, hag, hc, hn⟩ := h
  exact (bsame_calls w0 w [] x D o jm hb hag (by omega)).mono fun _ _ ⟨a, b⟩ => ⟨a, D, o, jm, Bo2.below hb b, hag, hc, hn⟩
theorem bopen_any {w0 w : World} {x : Nat} {D : St} (h : Bo w0 [] x D none j0 w) (hc : Calm D) (hN : D.n ≤ 100) :
    Calls Try.prog 18 #[.pointer (some ⟨x, 0, none⟩)] w fun e w' => e = .returned (.bool true) ∧ AnyB w0 x D.n w' :=
  (bopen_calls w0 w [] x D none j0 h hc hN).mono fun _ _ ⟨a, b, _⟩ => ⟨a, _, _, _, b, fun j h => by rw [h]; rfl, openD_calm D hc, openD_n D⟩

set_option maxRecDepth 100000 in
set_option maxHeartbeats 4000000 in
theorem jopens_law (w : World) (sb : UInt8) (A : Option Addr) (n ca : Nat) (l : List UInt8) (hn : l.length = n) (hr : RB w A l) (hnm : n ≤ 9223372036854775807)
    (Bd : Option Addr) (bn bc : Nat) (d : List UInt8) (hd : d.length = bn) (hrd : RB w Bd d) (hbm : bn ≤ 9223372036854775807) :
    Calls Try.prog 4 #[vb sb, .slice A n ca, .slice Bd bn bc] w fun e w' => e = .returned (.bool true) ∧ Below w.heap.size w w' := by
  have HN := Lib.hid hn
  have HR := Lib.hid hr
  have HD := Lib.hid hd
  have HRD := Lib.hid hrd
  have HAW := Lib.hid (oawake_calls w)
  obtain ⟨m0, HM0⟩ : ∃ y, Hid (sb.toNat % 20 = y) := ⟨_, rfl⟩
  have hm20 : m0 < 20 := by have := HM0.out; omega
  have e20 : ((sb.toNat : Int) % 20) = (m0 : Int) := by have := HM0.out; omega
  obtain ⟨nn, HNN⟩ : ∃ y, Hid (1 + m0 = y) := ⟨_, rfl⟩
  have hnn : 1 ≤ nn ∧ nn ≤ 20 := by have := HNN.out; omega
  have e1 : 1 + (m0 : Int) = (nn : Int) := by have := HNN.out; omega
  obtain ⟨N, HNL⟩ : ∃ x, Hid (64 * nn = x) := ⟨_, rfl⟩
  have hm64 : (nn : Int) * 64 = (N : Int) := by have := HNL.out; omega
  have hN1 : 64 ≤ N ∧ N ≤ 1280 := by have := HNL.out; omega
  clear hn hr hd hrd
  unfold vb
  by_cases h1 : n ≤ 2000
  · have d1 : decide ((2000 : Int) < (n : Int)) = false := by simp; omega
    by_cases h2 : bn ≤ 400
    · have d2 : decide ((400 : Int) < (bn : Int)) = false := by simp; omega
      obtain ⟨i0, hi0, hz0, hz1, hz2⟩ := info_parts Dk.info_u8
      have hmk : ∀ u : World, (Instr.makeSlice 29 (.int .i64 (N : Int)) (.int .i64 (N : Int))).run Try.prog u = .ok (.slice (some ⟨u.heap.size, 0, none⟩) N N) (u.alloc (.cells (madeCells #[.int .u8 0] N) 5)) := fun u => by
        have h := run_make (P := Try.prog) u 29 5 i0 (.int .u8 0) Try.underlying29 hi0 hz0 .i64 .i64 N N (by omega) (Int.le_refl _) (by rw [hz2]; omega) (by omega)
        simpa [hz1, Value.cells] using h
      have HMC : Hid ((madeCells #[.int .u8 0] N).toList = (List.replicate N (0 : UInt8)).map vb) := made_bytes N
      generalize madeCells #[.int .u8 0] N = mc at *
      have hmcl : mc.size = N := by have := congrArg List.length HMC.out; simpa using this
      have hO1 : (w.alloc (.cells mc 5)).ownsRow w.heap.size 5 1 (.slice (some ⟨w.heap.size, 0, none⟩) N N) N ((List.replicate N (0 : UInt8)).map vb) :=
        ⟨by simp, .inr ⟨w.heap.size, N, mc, rfl, Nat.le_refl _, heap_alloc_new _ _, Nat.le_refl _, by simp only [maxLen]; omega, by omega, by rw [Nat.mul_one, List.take_of_length_le (by simp; omega), HMC.out]⟩⟩
      obtain ⟨w2, kc, hcp, hO2, hW2⟩ := run_copyM (P := Try.prog) (w.alloc (.cells mc 5)) 29 29 3 5 Try.underlying29 Dk.size_u8 (some ⟨w.heap.size, 0, none⟩) N (by omega) hO1 A n ca (l.map vb) (by rw [List.length_map]; exact HN.out) (Rd.alloc HR.out _) (vb_one l)
      rw [← List.map_take, map_splice] at hO2
      obtain ⟨Bl, HBL⟩ : ∃ y, Hid (Dk.splice (List.replicate N (0 : UInt8)) 0 (l.take N) = y) := ⟨_, rfl⟩
      have hBl : Bl.length = N := by rw [← HBL.out, Dk.splice_len _ _ _ (by simp; omega), List.length_replicate]
      rw [HBL.out] at hO2
      have HO2 := Lib.hid hO2
      have HBN := Lib.hid hBl
      have hc2 : Chg [w.heap.size] (w.alloc (.cells mc 5)) w2 := hW2.chg (fun b hb => by
        have : w.heap.size = b := by simpa [Value.ownBlock] using hb
        simp [this])
      have hbl2 : w.heap.size < w2.heap.size := Nat.lt_of_lt_of_le (by simp) hc2.size
      have HBW2 : Hid (Below w.heap.size w w2) := (below1 w _).trans (hc2.below (by simp) (by simp))
      have HNC := new_calls (nn : Int) w2
      have HNCC := Lib.hid HNC
      clear hi0 hz0 hz1 hz2 hO1 hO2 hW2 hc2 hmcl HNC hBl
      go_enter Try.func4, Try.ntmps4
      go_wp2_with fail
      (with_reducible refine HNCC.out.mono ?_)
      rintro e w3 (⟨hbad, _⟩ | ⟨_, _, g, M, rfl, hdk, hM, hb3⟩)
      · exact absurd hbad (by omega)
      rw [Int.toNat_natCast] at hdk
      have ho3 : OwnF w [w.heap.size] g (newD nn) w3 := ⟨M, [], hdk, fun x hx => Nat.le_trans HBW2.out.size (hM x hx), HBW2.out.trans (hb3.mono HBW2.out.size), fun x hx => by
        simp only [List.mem_singleton] at hx
        subst hx
        exact ⟨fun hm => by have := hM _ hm; omega, by simp, Nat.lt_of_lt_of_le hbl2 hb3.size⟩⟩
      have HRB3 := Lib.hid ((RB.of_own HO2.out).below hb3)
      obtain ⟨s1, s2, s3⟩ := setD_of nn Bl (by rw [HNL.out]; exact HBN.out)
      have HWR := ownF_write ho3 0 (some ⟨w.heap.size, 0, none⟩) N N Bl HBN.out HRB3.out (by omega) (by omega) (by omega) (by simp [newD])
      rw [s1] at HWR
      have HWRR := Lib.hid HWR
      have HS2 := Lib.hid s2
      have HS3 := Lib.hid s3
      clear s1 s2 s3 HWR ho3 hdk hM hb3 HNCC hcp
      go_wp2_with fail
      (with_reducible refine HWRR.out.mono ?_)
      rintro e w4 ⟨rfl, ho4, hk4⟩
      have HRB4 := Lib.hid (hk4.rd HRB3.out (fun _ b off e => by cases e; simp))
      have HSY := ownF_sync ho4
      rw [HS2.out, HS3.out] at HSY
      have HSYY := Lib.hid HSY
      clear HSY ho4 hk4 HWRR HS2 HS3
      go_wp2_with fail
      (with_reducible refine HSYY.out.mono ?_)
      rintro e w5 ⟨rfl, ho5, hk5⟩
      have HRB5 := Lib.hid (hk5.rd HRB4.out (fun _ b off e => by cases e; simp))
      have HO5 := Lib.hid ho5
      have HRN := Lib.hid (rnew_calls nn w5 (by omega) (by omega))
      clear ho5 hk5 HSYY
      go_wp2_with fail
      (with_reducible refine HRN.out.mono ?_)
      rintro e w6 ⟨v, N6, rfl, ⟨A6, ca6, X6, cx6, P6, rfl, hk⟩, hb6, hn6⟩
      have HK6 := Lib.hid hk
      have HB6 := Lib.hid hb6
      have HN6 := Lib.hid hn6
      unfold kval id
      simp only
      clear hk hb6 hn6 HRN
      obtain ⟨pl6, HPL6⟩ : ∃ y, Hid (P6.length = y) := ⟨_, rfl⟩
      rw [HPL6.out]
      go_upto_region 10 with (fail)
      have hb7 := below1 w6 (.cells #[.slice A6 (64 * (newD nn).n) ca6, .slice X6 pl6 cx6, .bool (newD nn).x, .int .i64 (newD nn).f] 42)
      have hx7 := heap_alloc_new w6 (.cells #[.slice A6 (64 * (newD nn).n) ca6, .slice X6 pl6 cx6, .bool (newD nn).x, .int .i64 (newD nn).f] 42)
      generalize w6.alloc (.cells #[.slice A6 (64 * (newD nn).n) ca6, .slice X6 pl6 cx6, .bool (newD nn).x, .int .i64 (newD nn).f] 42) = w7 at *
      have HX7 := Lib.hid hx7
      have HK7 := Lib.hid (HK6.out.below hb7)
      have HB7 := Lib.hid (HB6.out.trans (hb7.mono HB6.out.size))
      have hs7 : w6.heap.size < w7.heap.size := (Array.getElem?_eq_some_iff.1 hx7).1
      obtain ⟨db, HDB⟩ : ∃ y, Hid (w6.heap.size = y) := ⟨_, rfl⟩
      have hs5 : w5.heap.size ≤ db := by have := HB6.out.size; have := HDB.out; omega
      rw [HDB.out] at HX7 hs7 ⊢
      have HRB7 := Lib.hid (HRB5.out.below HB7.out)
      have hN9 : N ≤ 100000000 := by omega
      have HNDB : Hid (∀ y ∈ N6, y < db) := fun y hy => by rw [← HDB.out]; exact HK6.out.nl y hy
      clear hb7 hx7 HK6
      go_upto_region 11 with (at_builtin; refine app0 _ rfl (.tmp 52) (.tmp 53) rfl Bl rfl (some ⟨w.heap.size, 0, none⟩) N N rfl HBN.out HRB7.out hN9 ?_; intro X9 c9 k9 w9 HK9 hk9 hk9' HO9 HB9 hs9; have HX9 := Lib.hid ((HB9.out.block _ hs7).trans HX7.out); have tc0 : w9.cell? ⟨db, 0, none⟩ = some _ := (cell_of_row _ _ 0 _ _ _ HX9.out).trans rfl; have tf0 : w9.frozen? ⟨db, 0, none⟩ = false := frozen_of_row _ _ _ _ _ HX9.out; have tc1 : w9.cell? ⟨db, 1, none⟩ = some _ := (cell_of_row _ _ 1 _ _ _ HX9.out).trans rfl; have tf1 : w9.frozen? ⟨db, 1, none⟩ = false := frozen_of_row _ _ _ _ _ HX9.out; have tc2 : w9.cell? ⟨db, 2, none⟩ = some _ := (cell_of_row _ _ 2 _ _ _ HX9.out).trans rfl; have tf2 : w9.frozen? ⟨db, 2, none⟩ = false := frozen_of_row _ _ _ _ _ HX9.out; have tc3 : w9.cell? ⟨db, 3, none⟩ = some _ := (cell_of_row _ _ 3 _ _ _ HX9.out).trans rfl; have tf3 : w9.frozen? ⟨db, 3, none⟩ = false := frozen_of_row _ _ _ _ _ HX9.out)
      have hk9N : k9 = N := HK9.out.trans HBN.out
      subst hk9N
      have HX10 : Hid ((w9.setCell ⟨db, 0, none⟩ (.slice X9 k9 c9)).heap[db]? = some (.cells #[.slice X9 k9 c9, .slice X6 pl6 cx6, .bool (newD nn).x, .int .i64 (newD nn).f] 42 (0, 0))) := heap_setCell_same _ _ _ _ _ _ HX9.out
      have hcs : Chg [db] w9 (w9.setCell ⟨db, 0, none⟩ (.slice X9 k9 c9)) := (Chg.refl _ _).setCell (p := ⟨db, 0, none⟩) (.inl (by simp)) _
      have HB9' := Lib.hid (HB7.out.trans (HB9.out.mono HB7.out.size))
      have HB10 := Lib.hid (HB9'.out.trans (hcs.below HB9'.out.size (by simp; omega)))
      obtain ⟨hr9, hke9, hkc9, hmx9⟩ := HO9.out.rb
      clear hke9
      have hbl9 : ∀ y ∈ bl X9, w7.heap.size ≤ y ∧ y < w9.heap.size := fun y hy => by
        obtain ⟨off, rfl⟩ := mem_bl hy
        have h := HO9.out
        unfold OB at h
        rw [HBN.out] at h
        exact own_cut (k := 0) (c' := c9) h (by rw [cutA_zero])
      have hK9 := HK7.out.below HB9.out
      have hK10 : IsK' (w9.setCell ⟨db, 0, none⟩ (.slice X9 k9 c9)) N6 (newD nn) A6 ca6 X6 cx6 P6 := hK9.kept (fun y hy => hcs.block y (hK9.nl y hy) (fun hm => by simp only [List.mem_singleton] at hm; subst hm; have := HNDB.out _ hy; omega)) hcs.size
      have hR10 : RB (w9.setCell ⟨db, 0, none⟩ (.slice X9 k9 c9)) X9 Bl := hcs.rd hr9 (fun b off e hm => by
        simp only [List.mem_singleton] at hm
        have := hbl9 b (by rw [e]; simp [bl])
        omega)
      have HS10 : Hid (IsK' (w9.setCell ⟨db, 0, none⟩ (.slice X9 k9 c9)) (bl X9 ++ N6) (setD nn Bl) X9 c9 X6 cx6 P6) :=
        IsK'.setb hK10 (by omega) (by omega) (by rw [HNL.out]; exact HBN.out) hR10 (by rw [HNL.out]; exact hkc9) hmx9 (fun y hy => Nat.lt_of_lt_of_le (hbl9 y hy).2 hcs.size)
      have HNL10 : Hid (∀ y ∈ bl X9 ++ N6, w5.heap.size ≤ y) := fun y hy => by
        rcases List.mem_append.1 hy with hy | hy
        · have := (hbl9 y hy).1; have := HB7.out.size; omega
        · rcases HN6.out y hy with h | h
          · cases h
          · exact h
      clear hcs hK9 hK10 hR10 hr9 hkc9 hmx9 hbl9 tc0 tc1 tc2 tc3 tf0 tf1 tf2 tf3
      generalize w9.setCell ⟨db, 0, none⟩ (.slice X9 k9 c9) = w10 at *
      have hbo : Bo w [] w10.heap.size (setD nn Bl) none j0 (w10.alloc (.cells (bocells g none (setD nn Bl) X9 c9 X6 P6.length cx6 j0 none 0 none 0 0) 49)) := by
        have hb11 := below1 w10 (.cells (bocells g none (setD nn Bl) X9 c9 X6 P6.length cx6 j0 none 0 none 0 0) 49)
        have hn11 := heap_alloc_new w10 (.cells (bocells g none (setD nn Bl) X9 c9 X6 P6.length cx6 j0 none 0 none 0 0) 49)
        have hz11 : (w10.alloc (.cells (bocells g none (setD nn Bl) X9 c9 X6 P6.length cx6 j0 none 0 none 0 0) 49)).heap.size = w10.heap.size + 1 := by simp
        have h5 := HO5.out.b.size
        have h510 := HB10.out.size
        refine ⟨g, none, bl X9 ++ N6, X9, c9, X6, cx6, P6, none, 0, none, 0, [], hn11, ⟨HS10.out.below hb11, ⟨RB.nil, Nat.le_refl _, Nat.zero_le _, fun hp => by simp [j0] at hp⟩, ⟨Rd.nil, Nat.le_refl _, Nat.zero_le _, fun hp => by simp at hp, fun m hm => by cases hm⟩, rfl⟩, fun hx => (by have := HS10.out.nl _ hx; omega), by omega, by simp, .inl ⟨rfl, rfl, HO5.out.grow (HB10.out.trans (hb11.mono h510)) (fun y hy => ?_)⟩⟩
        simp only [List.append_nil, List.mem_cons] at hy
        rcases hy with rfl | hy
        · exact .inr ⟨h510, by omega⟩
        · exact .inr ⟨HNL10.out y hy, by have := HS10.out.nl y hy; omega⟩
      have HBO := Lib.hid hbo
      unfold bocells at HBO
      rw [show jptr none = .pointer none from rfl, show (j0.t : Int) = 0 from rfl, show j0.s.length = 0 from rfl, show (j0.e : Int) = 0 from rfl, show j0.x = false from rfl, HPL6.out, show 64 * (setD nn Bl).n = k9 from HNL.out, show (setD nn Bl).x = (newD nn).x from rfl, show (setD nn Bl).f = (newD nn).f from rfl] at HBO
      have HCM := Lib.hid (setD_calm nn Bl (by omega) (by omega) (by rw [HNL.out]; exact HBN.out))
      clear hbo
      have tc0 : w10.cell? ⟨db, 0, none⟩ = some _ := (cell_of_row _ _ 0 _ _ _ HX10.out).trans rfl; have tc1 : w10.cell? ⟨db, 1, none⟩ = some _ := (cell_of_row _ _ 1 _ _ _ HX10.out).trans rfl; have tc2 : w10.cell? ⟨db, 2, none⟩ = some _ := (cell_of_row _ _ 2 _ _ _ HX10.out).trans rfl; have tc3 : w10.cell? ⟨db, 3, none⟩ = some _ := (cell_of_row _ _ 3 _ _ _ HX10.out).trans rfl
      go_upto_region 12 with (fail)
      obtain ⟨xb, HXB⟩ : ∃ y, Hid (w10.heap.size = y) := ⟨_, rfl⟩
      rw [HXB.out] at HBO ⊢
      generalize w10.alloc (.cells #[.pointer (some ⟨g, 0, none⟩), .pointer none, .slice X9 k9 c9, .slice X6 pl6 cx6, .bool (newD nn).x, .int .i64 (newD nn).f, .int .i64 0, .slice none 0 0, .slice none 0 0, .int .i64 0, .bool false] 49) = w11 at *
      have HOP := bopen_any HBO.out HCM.out (by show nn ≤ 100; omega)
      rw [show (setD nn Bl).n = nn from rfl] at HOP
      have HOPP := Lib.hid HOP
      have hnn100 : nn ≤ 100 := by omega
      have HOM : ∀ kd : UInt8, Hid (Om.ok w ⟨kd, Bd, bc, d, 0, none, 0, []⟩) := fun kd => ⟨HRD.out, Rd.nil, by show -9223372036854775808 ≤ (0 : Int); omega, by show (0 : Int) ≤ _; omega, by show d.length ≤ _; rw [HD.out]; exact hbm, by show 0 ≤ _; omega⟩
      have HDO : ∀ (kd : UInt8) u, AnyB w xb nn u → Hid (Calls Try.prog 13 #[.pointer (some ⟨xb, 0, none⟩), .agg #[.int .u8 (kd.toNat : Int), .slice Bd bn bc, .int .i64 0, .slice none 0 0]] u fun e w' => e = .returned (.bool true) ∧ AnyB w xb nn w') := fun kd u h => by
        have := h.do hnn100 ⟨kd, Bd, bc, d, 0, none, 0, []⟩ (HOM kd).out (by show d.length ≤ _; rw [HD.out]; exact h2)
        unfold opval at this
        simp only [HD.out, List.length_nil] at this
        exact this
      clear tc0 tc1 tc2 tc3 HBO HS10 HX10 HOP HK7 HB7 HB9
      go_wp2_with fail
      (with_reducible refine HOPP.out.mono ?_)
      rintro e w12 ⟨rfl, hany⟩
      have HSM := Lib.hid (hany.same hnn100)
      clear hany HOPP
      go_wp2_with fail
      (with_reducible refine HSM.out.mono ?_)
      rintro e w13 ⟨rfl, hany⟩
      have HD0 := Lib.hid (HDO 0 w13 hany).out
      rw [show (((0 : UInt8).toNat : Nat) : Int) = 0 from rfl] at HD0
      clear hany HSM
      go_wp2_with fail
      (with_reducible refine HD0.out.mono ?_)
      rintro e w14 ⟨rfl, hany⟩
      have HD1 := Lib.hid (HDO 1 w14 hany).out
      rw [show (((1 : UInt8).toNat : Nat) : Int) = 1 from rfl] at HD1
      clear hany HD0
      go_wp2_with fail
      (with_reducible refine HD1.out.mono ?_)
      rintro e w15 ⟨rfl, hany⟩
      have HBF := Lib.hid hany.b
      have HAW2 := Lib.hid (oawake_calls w15)
      clear hany HD1
      go_wp2_with fail
      (with_reducible refine HAW2.out.mono ?_)
      rintro e w16 ⟨rfl, hb16⟩
      have HF := Lib.hid (HBF.out.trans (hb16.mono HBF.out.size))
      clear hb16
      go_wp2_with fail
      go_ret
      exact ⟨rfl, HF.out⟩
    · have d2 : decide ((400 : Int) < (bn : Int)) = true := by simp; omega
      go_enter Try.func4, Try.ntmps4
      go_wp2_with fail
      (with_reducible refine HAW.out.mono ?_)
      rintro e w2 ⟨rfl, hb2⟩
      have HF := Lib.hid hb2
      clear hb2
      go_wp2_with fail
      go_ret
      exact ⟨rfl, HF.out⟩
  · have d1 : decide ((2000 : Int) < (n : Int)) = true := by simp; omega
    go_enter Try.func4, Try.ntmps4
    go_wp2_with fail
    (with_reducible refine HAW.out.mono ?_)
    rintro e w2 ⟨rfl, hb2⟩
    have HF := Lib.hid hb2
    clear hb2
    go_wp2_with fail
    go_ret
    exact ⟨rfl, HF.out⟩
end Jn
end Go.Proofs.Ytmdpmpfjldgalaa
