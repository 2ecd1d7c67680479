/- Merged: JnJ. -/
import Derived.BigRegion
import Derived.Test.YtmdpmpfjldgalaaMF
/- The walk of Journal.Checkpoint. -/
namespace Go.Proofs.Ytmdpmpfjldgalaa
open Go.RowKit
namespace Jn
open Dk Wi Wr

/-- the journal starts anew -/
theorem JO.reset {w0 w3 w7 : World} {F W R : List Nat} {g gj : Nat} {D : St} {j : Jr} {X1 : Option Addr} {c1 e' t' f : Nat} {d : List UInt8} (hO : OwnF w0 (W ++ (R ++ F)) g D w3) (k : IsJ w3 gj g W R (half D) j) (hx : j.x = false)
    (hW : ∀ x ∈ W, w0.heap.size ≤ x ∧ x ∉ F) (hb : Below w3.heap.size w3 w7) (ho7 : OB w7 w3.heap.size (.slice X1 d.length c1) d) (he : e' ≤ half D) (h1 : 1 ≤ t') (h2 : t' ≤ 1099511627776) (hd : d.length ≤ 64 * half D) (hf : t' % 2 * half D + e' = f) :
    JO w0 F g gj D ⟨t', d, [], e', false⟩ ((((w7.setCell ⟨gj, 1, none⟩ (.int .i64 (t' : Int))).setCell ⟨gj, 2, none⟩ (.slice X1 d.length c1)).setCell ⟨gj, 3, none⟩ (.slice none 0 0)).setCell ⟨gj, 4, none⟩ (.int .i64 (f : Int))) ∧
      Kept F w3 ((((w7.setCell ⟨gj, 1, none⟩ (.int .i64 (t' : Int))).setCell ⟨gj, 2, none⟩ (.slice X1 d.length c1)).setCell ⟨gj, 3, none⟩ (.slice none 0 0)).setCell ⟨gj, 4, none⟩ (.int .i64 (f : Int))) := by
  subst hf
  have hlk := k.lt
  obtain ⟨sa, sc, ra, rc, ms, hWE, k⟩ := k
  have hX : ∀ x ∈ bl X1, w3.heap.size ≤ x ∧ x < w7.heap.size := fun x hx => by
    obtain ⟨off, rfl⟩ := mem_bl hx
    exact own_cut (k := 0) (c' := c1) ho7 (by rw [cutA_zero])
  have hr7 := ho7.rb
  have hg7 := (hb.block gj hlk.2.2.1).trans k.hd
  have hc7 : Chg [gj] w7 ((((w7.setCell ⟨gj, 1, none⟩ (.int .i64 (t' : Int))).setCell ⟨gj, 2, none⟩ (.slice X1 d.length c1)).setCell ⟨gj, 3, none⟩ (.slice none 0 0)).setCell ⟨gj, 4, none⟩ (.int .i64 ((t' % 2 * half D + e' : Nat) : Int))) :=
    ((((Chg.refl [gj] w7).setCell (p := ⟨gj, 1, none⟩) (.inl (by simp)) _).setCell (p := ⟨gj, 2, none⟩) (.inl (by simp)) _).setCell (p := ⟨gj, 3, none⟩) (.inl (by simp)) _).setCell (p := ⟨gj, 4, none⟩) (.inl (by simp)) _
  have hn : ∀ x ∈ [gj], x ∉ bl X1 := fun x hx hm => by
    simp only [List.mem_singleton] at hx; subst hx
    have := hX _ hm; have := hlk.2.2.1; omega
  have hJ : IsJ ((((w7.setCell ⟨gj, 1, none⟩ (.int .i64 (t' : Int))).setCell ⟨gj, 2, none⟩ (.slice X1 d.length c1)).setCell ⟨gj, 3, none⟩ (.slice none 0 0)).setCell ⟨gj, 4, none⟩ (.int .i64 ((t' % 2 * half D + e' : Nat) : Int))) gj g [gj] (bl X1) (half D) ⟨t', d, [], e', false⟩ := by
    refine ⟨X1, c1, none, 0, [], rfl, ⟨?_, ?_, ⟨rfl, .inl ⟨rfl, rfl⟩⟩, fun b hb => (by cases hb), fun m hm => (by cases hm), rfl, hn gj (by simp), fun x hx => Nat.lt_of_lt_of_le (hX x hx).2 hc7.size, ⟨h1, h2, he, Nat.zero_le _, hd, fun d hd => (by cases hd)⟩⟩⟩
    · rw [heap_setCell_same _ _ _ _ _ _ (heap_setCell_same _ _ _ _ _ _ (heap_setCell_same _ _ _ _ _ _ (heap_setCell_same _ _ _ _ _ _ hg7)))]
      unfold jcells
      rw [hx]
      rfl
    · have h1 : InR w7 (bl X1) ⟨X1, c1, d⟩ := ⟨hr7.1, hr7.2.2.1, hr7.2.2.2, fun _ b off e => by rw [show X1 = _ from e]; simp [bl]⟩
      exact h1.chg hc7 hn
  have hc : Chg [gj] w3 _ := (Chg.of_below hb [gj]).trans' hc7
  have hsz := hO.b.size
  refine ⟨⟨_, _, hO.step hc (fun x hx => ?_) (fun x hx => ?_), hJ, fun x hx => ?_, fun x hx hF => ?_⟩, fun x hx => hc.block x (hO.lt x (by simp [hx])) (fun hm => ?_)⟩
  · simp only [List.mem_singleton] at hx; subst hx
    exact ⟨by simp [hlk.2.2.2.1], (hW _ hlk.2.2.2.1).1⟩
  · rcases List.mem_append.1 hx with hx | hx
    · simp only [List.mem_singleton] at hx; subst hx
      exact .inl (by simp [hlk.2.2.2.1])
    · rcases List.mem_append.1 hx with hx | hx
      · exact .inr ⟨(hX x hx).1, Nat.lt_of_lt_of_le (hX x hx).2 hc7.size⟩
      · exact .inl (by simp [hx])
  · simp only [List.mem_singleton] at hx; subst hx
    exact hW _ hlk.2.2.2.1
  · have := hO.lt x (by simp [hF]); have := hX x hx; omega
  · simp only [List.mem_singleton] at hm; subst hm
    exact (hW _ hlk.2.2.2.1).2 hx

theorem wi_nat {n : Nat} (h : n < 4611686018427387904) : IntKind.i64.wrap (n : Int) = (n : Int) := by rw [IntKind.wrap_i64]; omega
theorem wi_sum {f nb e : Nat} (h : f + nb = e) (he : e < 4611686018427387904) : IntKind.i64.wrap ((f : Int) + IntKind.i64.wrap (nb : Int)) = (e : Int) := by rw [IntKind.wrap_i64, IntKind.wrap_i64]; omega
theorem full_arith2 {f q tt nb e2 : Nat} (h1 : f + q = tt) (h2 : f + nb = e2) : tt < e2 ↔ q < nb := by omega
set_option maxRecDepth 100000 in
set_option maxHeartbeats 4000000 in
theorem checkpoint_calls (w0 w : World) (F : List Nat) (g gj : Nat) (D : St) (j : Jr) (A : Option Addr) (n c : Nat) (d : List UInt8) (h : JO w0 F g gj D j w) (hn : d.length = n) (hm : n ≤ 500000)
    (hr : ∀ w', Kept F w w' → Below w0.heap.size w0 w' → RB w' A d) (hD : D.n ≤ 100) (hc : Calm D) :
    Calls Try.prog 30 #[.pointer (some ⟨gj, 0, none⟩), .slice A n c] w (CallP w0 F g gj (chkD D j d) (chkJ D j d) (chkE D j d) w) := by
  have HJO := Lib.hid h
  obtain ⟨W, R, hO, hJ, hW, hR⟩ := h
  have HO := Lib.hid hO
  have HJ := Lib.hid hJ
  have HW := Lib.hid hW
  have HRF := Lib.hid hR
  have HRD := Lib.hid hr
  have HN := Lib.hid hn
  have HC := Lib.hid hc
  obtain ⟨sa, sc, ra, rc, ms, hWE, hJ'⟩ := hJ
  obtain ⟨c0, c1, c2, c3, c4, c5⟩ := hJ'.cells
  have hgl := (Array.getElem?_eq_some_iff.1 hJ'.hd).1
  have ht1 := hJ'.ok.t1
  have ht2 := hJ'.ok.t2
  have hq50 : half D ≤ 50 := by unfold half; omega
  clear hO hW hR hr hn hc hJ' hWE
  by_cases hx : j.x = true
  · have HF : Hid (CallP w0 F g gj (chkD D j d) (chkJ D j d) (chkE D j d) w (.returned (.int .i64 9)) w) := by
      have e1 : chkD D j d = D := by unfold chkD; rw [if_pos hx]
      have e2 : chkJ D j d = j := by unfold chkJ; rw [if_pos hx]
      have e3 : chkE D j d = 9 := by unfold chkE; rw [if_pos hx]
      rw [e1, e2, e3]
      exact ⟨rfl, HJO.out, Kept.refl _ _⟩
    rw [hx] at c5
    clear hx
    go_enter Try.func30, Try.ntmps30
    go_wp2_with fail
    go_ret
    exact HF.out
  have hx' : j.x = false := by simpa using hx
  rw [hx'] at c5
  have HX := Lib.hid hx
  have HX' := Lib.hid hx'
  obtain ⟨t1, HT1⟩ : ∃ x, Hid (j.t + 1 = x) := ⟨_, rfl⟩
  have ht1b : t1 ≤ 1099511627777 := by have := HT1.out; omega
  have HH : Hid (∀ z, Calls Try.prog 50 #[.pointer (some ⟨g, 0, none⟩), .int .i64 (t1 : Int)] (w.drewN z) fun e w' => e = .returned (.tuple #[.int .i64 (fst D t1 : Int), .int .i64 ((fst D t1 + half D : Nat) : Int)]) ∧ w' = w.drewN z) := by
    obtain ⟨M, E, h1, _⟩ := HO.out
    exact fun z => (half_calls g M E D t1 (w.drewN z) (h1.below (below_drewN (Below.refl _ _) z)) (by omega)).mono fun e w' ⟨a, b⟩ => ⟨a, b.symm⟩
  obtain ⟨BL, HBL⟩ : ∃ x, Hid (ckB j d = x) := ⟨_, rfl⟩
  have hb1 := blockL_len (j.t + 1) 0 d
  have hbl1 : BL.length % 64 = 0 := by rw [← HBL.out]; exact hb1.1
  have hbl2 : BL.length < n + 99 := by rw [← HBL.out, ← HN.out]; exact hb1.2.2
  have HB1 : Hid (∀ w', Kept F w w' → Below w.heap.size w w' → Calls Try.prog 51 #[.int .i64 (t1 : Int), .int .i64 0, .slice A n c] w' (NewB w' BL)) := by
    intro w' hk hb
    rw [← HBL.out, show ckB j d = blockL t1 0 d by unfold ckB; rw [HT1.out]]
    exact block_calls t1 0 A n c d w' HN.out (HRD.out w' hk (HO.out.b.trans (hb.mono HO.out.b.size))) hm (by omega) (by omega)
  obtain ⟨f, HFF⟩ : ∃ x, Hid (fst D t1 = x) := ⟨_, rfl⟩
  obtain ⟨q, HQ⟩ : ∃ x, Hid (half D = x) := ⟨_, rfl⟩
  obtain ⟨tt, HTT⟩ : ∃ x, Hid (f + q = x) := ⟨_, rfl⟩
  have hf50 : f ≤ 50 := by rw [← HFF.out]; unfold fst; have : t1 % 2 * half D ≤ 1 * half D := Nat.mul_le_mul_right _ (by omega); omega
  rw [HFF.out, HQ.out, HTT.out] at HH
  rw [HQ.out] at hq50
  have em : (j.t : Int) + 1 = (t1 : Int) := by have := HT1.out; omega
  have hwi : IntKind.i64.wrap (t1 : Int) = (t1 : Int) := by rw [IntKind.wrap_i64]; omega
  clear hx hx' hb1
  go_enter Try.func30, Try.ntmps30
  go_upto_region 3 with (fail)
  go_quiet ((go_at_call 50; exact Calls.quiet_of_same (HH.out _)))
  have hb1 : Below w.heap.size w (w.drewN nq) := below_drewN (Below.refl _ _) nq
  generalize w.drewN nq = w1 at *
  have HBW1 := Lib.hid hb1
  have HKW1 := Lib.hid (Kept.of_below HO.out.lt hb1)
  have HO1 := Lib.hid (HO.out.below hb1)
  have HJ1 := Lib.hid (HJ.out.below hb1)
  have hg1 : gj < w1.heap.size := Nat.lt_of_lt_of_le hgl hb1.size
  have HB2 : Hid (Calls Try.prog 51 #[.int .i64 (t1 : Int), .int .i64 0, .slice A n c] w1 (NewB w1 BL)) := HB1.out w1 (HKW1.out.sub (fun x hx => by simp [hx])) hb1
  have z1 : w1.cell? ⟨gj, 1, none⟩ = some (.int .i64 (j.t : Int)) := (hb1.cell (p := ⟨gj, 1, none⟩) hgl).trans c1
  have hwm : wrap64 (t1 : Int) = t1 := w64_nat t1 (by omega)
  clear hb1 c0 c1 c2 c3 c4 c5 HO HJ HB1 HH
  go_wp2_with fail
  (with_reducible refine HB2.out.mono ?_)
  rintro e w2 ⟨X, cX, k, rfl, hk, ho, hbw2'⟩
  have HK := Lib.hid hk
  have HOX := Lib.hid ho
  clear hwi em hwm hk ho
  have HBW2 := Lib.hid hbw2'
  have HKF2 := Lib.hid ((HKW1.out.trans (Kept.of_below HO1.out.lt hbw2')).sub (F' := F) (fun x hx => by simp [hx]))
  have HO2 := Lib.hid (HO1.out.below hbw2')
  have HJ2 := Lib.hid (HJ1.out.below hbw2')
  have hk64 : k % 64 = 0 := by rw [HK.out]; exact hbl1
  have hkl : k < n + 99 := by rw [HK.out]; exact hbl2
  obtain ⟨nb, HNB⟩ : ∃ x, Hid (k / 64 = x) := ⟨_, rfl⟩
  have en : (k : Int) / 64 = (nb : Int) := by have := HNB.out; omega
  have HNL : Hid ((ckB j d).length / 64 = nb) := by show _ = _; rw [HBL.out, ← HK.out]; exact HNB.out
  obtain ⟨e2, HE2⟩ : ∃ x, Hid (f + nb = x) := ⟨_, rfl⟩
  have ee2 : (f : Int) + (nb : Int) = (e2 : Int) := by have := HE2.out; omega
  have hkb : k ≤ 600000 := by omega
  have hnb : nb ≤ 10000 := by have := HNB.out; omega
  have he2 : e2 ≤ 20000 := by have := HE2.out; omega
  have HAR := Lib.hid (full_arith2 HTT.out HE2.out)
  have z1 : w2.cell? ⟨gj, 1, none⟩ = some (.int .i64 (j.t : Int)) := (hbw2'.cell (p := ⟨gj, 1, none⟩) hg1).trans z1
  clear hbw2' HJ1 HB2 hk64 hkl
  have HFUL : Hid (ckFull D j d = true → CallP w0 F g gj (chkD D j d) (chkJ D j d) (chkE D j d) w (.returned (.int .i64 8)) w2) := by
    intro hff
    have e1 : chkD D j d = D := by unfold chkD; rw [if_neg HX.out, if_pos hff]
    have e2 : chkJ D j d = j := by unfold chkJ; rw [if_neg HX.out, if_pos hff]
    have e3 : chkE D j d = 8 := by unfold chkE; rw [if_neg HX.out, if_pos hff]
    rw [e1, e2, e3]
    exact ⟨rfl, ⟨W, R, HO2.out, HJ2.out, HW.out, HRF.out⟩, HKF2.out⟩
  by_cases hfull : tt < e2
  · have d1 : decide (tt < e2) = true := by simpa using hfull
    have HF := Lib.hid (HFUL.out (by unfold ckFull; rw [HNL.out, HQ.out]; simp [HAR.out.1 hfull]))
    clear hfull
    go_wp2_with fail
    go_ret
    exact HF.out
  have d1 : decide (tt < e2) = false := by simpa using hfull
  by_cases htm : 1099511627776 ≤ j.t
  · have d2 : decide ((1099511627776 : Int) ≤ (j.t : Int)) = true := by simp; omega
    have HF := Lib.hid (HFUL.out (by unfold ckFull; simp [htm]))
    clear hfull htm
    go_wp2_with fail
    go_ret
    exact HF.out
  have d2 : decide ((1099511627776 : Int) ≤ (j.t : Int)) = false := by simp; omega
  have HFU : Hid (ckFull D j d = false) := by
    show _ = _
    unfold ckFull
    rw [HNL.out, HQ.out]
    simp only [Bool.or_eq_false_iff, decide_eq_false_iff_not]
    exact ⟨fun hc => hfull (HAR.out.2 hc), htm⟩
  have ht1c : t1 ≤ 1099511627776 := by have := HT1.out; omega
  clear hfull htm
  go_upto_region 7 with (fail)
  have HX2 : Hid (∀ x ∈ bl X, w1.heap.size ≤ x ∧ x < w2.heap.size) := by
    intro x hx
    obtain ⟨off, rfl⟩ := mem_bl hx
    have h := HOX.out
    unfold OB at h
    rw [← HK.out] at h
    exact own_cut (k := 0) (c' := cX) h (by rw [cutA_zero])
  have hgW : gj ∈ W := HJ2.out.lt.2.2.2.1
  have HOF := Lib.hid (HO1.out.grow (F' := bl X ++ (W ++ (R ++ F))) HBW2.out (fun x hx => by
    rcases List.mem_append.1 hx with hx | hx
    · exact .inr (HX2.out x hx)
    · exact .inl hx))
  have HWR := Lib.hid (write_calls w0 w2 (bl X ++ (W ++ (R ++ F))) g f tt D X k cX BL HOF.out HK.out.symm (HOX.out.rb.1) (fun _ b off e => by rw [e]; simp [bl]) (by omega) (by omega) (by have := HTT.out; omega) (by have := HC.out.l; omega))
  have HCKW : Hid (wrJ D f tt BL = ckW D j d) := by
    show _ = _
    unfold ckW
    rw [HBL.out, HT1.out, HFF.out, HQ.out, HTT.out]
  rw [HCKW.out] at HWR
  have y0 : w2.cell? ⟨gj, 0, none⟩ = some (.pointer (some ⟨g, 0, none⟩)) := by
    obtain ⟨_, _, _, _, _, _, h⟩ := HJ2.out
    exact h.cells.1
  clear z1
  go_wp2_with fail
  (with_reducible refine HWR.out.mono ?_)
  rintro e w3 ⟨he, ho3, hk3⟩
  obtain ⟨er, HER⟩ : ∃ x, Hid ((if (ckW D j d).2 = true then (0 : Int) else 10) = x) := ⟨_, rfl⟩
  rw [HER.out] at he
  subst he
  have HJ3 := Lib.hid (HJ2.out.kept (hk3.sub (fun x hx => by
    rcases List.mem_append.1 hx with hx | hx
    · simp [hx]
    · simp [hx])))
  have HO3' := Lib.hid (ho3.sub (F' := W ++ (R ++ F)) (fun x hx => List.mem_append_right _ hx))
  have HKF3 := Lib.hid (HKF2.out.trans (hk3.sub (fun x hx => by simp [hx])))
  have HHD : Hid (half (ckW D j d).1 = half D) := by show _ = _; unfold ckW; exact wrJ_half _ _ _ _
  clear y0 ho3 hk3 HOX HX2
  cases hr2 : (ckW D j d).2 with
  | false =>
    have hE := HER.out
    rw [hr2, if_neg (by simp)] at hE
    subst hE
    have HF : Hid (CallP w0 F g gj (chkD D j d) (chkJ D j d) (chkE D j d) w (.returned (.int .i64 10)) (w3.setCell ⟨gj, 5, none⟩ (.bool true))) := by
      have e1 : chkD D j d = (ckW D j d).1 := by unfold chkD; rw [if_neg HX.out, if_neg (by rw [HFU.out]; simp)]
      have e2 : chkJ D j d = { j with x := true } := by unfold chkJ; rw [if_neg HX.out, if_neg (by rw [HFU.out]; simp), if_neg (by rw [hr2]; simp)]
      have e3 : chkE D j d = 10 := by unfold chkE; rw [if_neg HX.out, if_neg (by rw [HFU.out]; simp), if_neg (by rw [hr2]; simp)]
      rw [e1, e2, e3]
      have := JO.setx HO3'.out (by rw [HHD.out]; exact HJ3.out) HW.out HRF.out
      exact ⟨rfl, this.1, HKF3.out.trans this.2⟩
    obtain ⟨_, _, _, _, _, _, hJ3'⟩ := HJ3.out
    have c5 := hJ3'.cells.2.2.2.2.2
    have f5 := hJ3'.froz 5
    clear hJ3' hr2
    go_wp2_with fail
    go_ret
    exact HF.out
  | true =>
    have hE := HER.out
    rw [hr2, if_pos rfl] at hE
    subst hE
    have HR2 := Lib.hid hr2
    clear hr2
    go_upto_region 11 with (fail)
    have HJ3D : Hid (IsJ w3 gj g W R (half (ckW D j d).1) j) := by show IsJ _ _ _ _ _ _ _; rw [HHD.out]; exact HJ3.out
    obtain ⟨sa3, sc3, ra3, rc3, ms3, hWE3, hJ3'⟩ := HJ3D.out
    have hg3 := (Array.getElem?_eq_some_iff.1 hJ3'.hd).1
    have hgr := hJ3'.hd
    unfold jcells at hgr
    have HGR := Lib.hid hgr
    clear hgr
    have HRDW : Hid (∀ u, Below w3.heap.size w3 u → RB u A d) := fun u hu => HRD.out u (HKF3.out.trans (Kept.of_below (fun x hx => HO3'.out.lt x (by simp [hx])) hu)) (HO3'.out.b.trans (hu.mono HO3'.out.b.size))
    have HPU : Hid (∀ w7 X1 c1 k1, Below w3.heap.size w3 w7 → k1 = d.length → OB w7 w3.heap.size (.slice X1 k1 c1) d →
        CallP w0 F g gj (chkD D j d) (chkJ D j d) (chkE D j d) w (.returned (.int .i64 0)) ((((w7.setCell ⟨gj, 1, none⟩ (.int .i64 (t1 : Int))).setCell ⟨gj, 2, none⟩ (.slice X1 k1 c1)).setCell ⟨gj, 3, none⟩ (.slice none 0 0)).setCell ⟨gj, 4, none⟩ (.int .i64 (e2 : Int)))) := by
      intro w7 X1 c1 k1 hb hk ho7
      subst hk
      have e1 : chkD D j d = (ckW D j d).1 := by unfold chkD; rw [if_neg HX.out, if_neg (by rw [HFU.out]; simp)]
      have e2' : chkJ D j d = ⟨t1, d, [], nb, false⟩ := by unfold chkJ; rw [if_neg HX.out, if_neg (by rw [HFU.out]; simp), if_pos HR2.out, HNL.out, HT1.out]
      have e3 : chkE D j d = 0 := by unfold chkE; rw [if_neg HX.out, if_neg (by rw [HFU.out]; simp), if_pos HR2.out]
      have hfu := HFU.out
      unfold ckFull at hfu
      simp only [Bool.or_eq_false_iff, decide_eq_false_iff_not] at hfu
      have hfu1 := hfu.1
      rw [HNL.out] at hfu1
      rw [e1, e2', e3]
      have hbl := blockL_len (j.t + 1) 0 d
      have hbd := blockL_ge (j.t + 1) 0 d
      have hdn : d.length ≤ 64 * nb := by rw [← HNL.out]; have h64 := hbl.1; show _ ≤ 64 * ((blockL (j.t + 1) 0 d).length / 64); omega
      have hp := JO.reset (t' := t1) (e' := nb) (f := e2) HO3'.out HJ3D.out HX'.out HW.out hb ho7 (by rw [HHD.out]; omega) (by have := HT1.out; omega) ht1c (by rw [HHD.out]; omega) (by rw [HHD.out, ← HE2.out, ← HFF.out]; rfl)
      exact ⟨rfl, hp.1, HKF3.out.trans hp.2⟩
    have c1 : w3.cell? ⟨gj, 1, none⟩ = some (.int .i64 (j.t : Int)) := hJ3'.cells.2.1
    have c1a : ∀ o : Obj, (w3.alloc o).cell? ⟨gj, 1, none⟩ = some (.int .i64 (j.t : Int)) := fun o => (World.cell?_alloc_lt w3 o ⟨gj, 1, none⟩ hg3).trans c1
    have em : (j.t : Int) + 1 = (t1 : Int) := by have := HT1.out; omega
    clear hJ3'
    generalize j.t = jt at *
    go_region_law (go_must (refine st_app0 _ (by rfl) _ _ (by rfl) d (by rfl) A n c (by rfl) HN.out (HRDW.out _ (Go.Proofs.Ytmdpmpfjldgalaa.below_drew w3)) (by omega) ?_; intro X1 c1 k1 w7 HK1 hk1 hk1' HO7 HB7 hs7; have hb7 : Below w3.heap.size w3 w7 := (Go.Proofs.Ytmdpmpfjldgalaa.below_drew w3).trans HB7.out; have hg7 := Lib.hid ((hb7.block gj hg3).trans HGR.out); have e71 : w7.cell? ⟨gj, 1, none⟩ = some (.int .i64 (jt : Int)) := (cell_of_row _ _ 1 _ _ _ hg7.out).trans rfl; have e72 : w7.cell? ⟨gj, 2, none⟩ = some _ := (cell_of_row _ _ 2 _ _ _ hg7.out).trans rfl; have e73 : w7.cell? ⟨gj, 3, none⟩ = some _ := (cell_of_row _ _ 3 _ _ _ hg7.out).trans rfl; have e74 : w7.cell? ⟨gj, 4, none⟩ = some _ := (cell_of_row _ _ 4 _ _ _ hg7.out).trans rfl; have f71 : w7.frozen? ⟨gj, 1, none⟩ = false := frozen_of_row _ _ _ _ _ hg7.out; have f72 : w7.frozen? ⟨gj, 2, none⟩ = false := frozen_of_row _ _ _ _ _ hg7.out; have f73 : w7.frozen? ⟨gj, 3, none⟩ = false := frozen_of_row _ _ _ _ _ hg7.out; have f74 : w7.frozen? ⟨gj, 4, none⟩ = false := frozen_of_row _ _ _ _ _ hg7.out))
    all_goals
      have HF := Lib.hid (HPU.out w7 X1 c1 k1 hb7 HK1.out HO7.out)
      clear hb7 e71 e72 e73 e74
      go_wp2_with fail
      go_ret
      have hwt : IntKind.i64.wrap (t1 : Int) = (t1 : Int) := wi_nat (Nat.lt_of_le_of_lt ht1b (by decide))
      have hwe : IntKind.i64.wrap ((f : Int) + IntKind.i64.wrap (nb : Int)) = (e2 : Int) := wi_sum HE2.out (Nat.lt_of_le_of_lt he2 (by decide))
      first | exact HF.out | (rw [hwt]; exact HF.out) | (rw [hwe]; exact HF.out) | (rw [hwt, hwe]; exact HF.out)
end Jn
end Go.Proofs.Ytmdpmpfjldgalaa
