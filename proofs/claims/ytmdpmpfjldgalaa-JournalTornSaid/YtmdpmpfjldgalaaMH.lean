/- Merged: JnK JnL JnM JnN JnO. -/
import Derived.Test.YtmdpmpfjldgalaaMG
/- The walks of the reference's half, first, Block, find, at. -/
namespace Go.Proofs.Ytmdpmpfjldgalaa
open Go.RowKit
namespace Jn
open Dk Wi Wr

set_option maxRecDepth 100000 in
theorem rhalf_calls (v : Value) (N0 : List Nat) (D : St) (w : World) (h : IsK w N0 v D) : Calls Try.prog 54 #[v] w fun e w' => e = .returned (.int .i64 (half D : Int)) ∧ Below w.heap.size w w' := by
  obtain ⟨A, ca, X, cx, P, rfl, h⟩ := h
  have hn := h.ok.n2
  have hq : ((64 * D.n : Nat) : Int) / 128 = (half D : Int) := by unfold half; omega
  unfold kval
  obtain ⟨N, HN⟩ : ∃ x, Hid (64 * D.n = x) := ⟨_, rfl⟩
  rw [HN.out] at hq ⊢
  have hN9 : N ≤ 4194304 := by have := HN.out; omega
  generalize P.length = pl at *
  have HB1 := Lib.hid (below1 w (.cells #[.slice A N ca, .slice X pl cx, .bool D.x, .int .i64 D.f] 42))
  clear h hn
  generalize half D = q at *
  go_enter Try.func54, Try.ntmps54
  go_wp2_with fail
  go_ret
  exact ⟨rfl, HB1.out⟩

set_option maxRecDepth 100000 in
theorem rfirst_calls (v : Value) (N0 : List Nat) (D : St) (t : Nat) (w : World) (h : IsK w N0 v D) (hD : D.n ≤ 100) : Calls Try.prog 70 #[v, .int .i64 (t : Int)] w fun e w' => e = .returned (.int .i64 (fst D t : Int)) ∧ Below w.heap.size w w' := by
  have HK := Lib.hid h
  obtain ⟨A, ca, X, cx, P, rfl, h⟩ := h
  unfold kval at HK ⊢
  obtain ⟨N, HN⟩ : ∃ x, Hid (64 * D.n = x) := ⟨_, rfl⟩
  rw [HN.out] at HK ⊢
  generalize P.length = pl at *
  have HB1 := Lib.hid (below1 w (.cells #[.slice A N ca, .slice X pl cx, .bool D.x, .int .i64 D.f] 42))
  have HH := Lib.hid (rhalf_calls _ N0 D _ (HK.out.below HB1.out))
  have hq : half D ≤ 50 := by unfold half; omega
  obtain ⟨q, HQ⟩ : ∃ x, Hid (half D = x) := ⟨_, rfl⟩
  have e2 : (t : Int) % 2 = ((t % 2 : Nat) : Int) := by omega
  obtain ⟨r, HR⟩ : ∃ x, Hid (t % 2 = x) := ⟨_, rfl⟩
  have hr : r < 2 := by have := HR.out; omega
  rw [HQ.out] at hq HH
  rw [HR.out] at e2
  obtain ⟨f, HF⟩ : ∃ x, Hid (fst D t = x) := ⟨_, rfl⟩
  have e3 : (r : Int) * (q : Int) = (f : Int) := by
    have := HF.out
    unfold fst at this
    rw [HR.out, HQ.out] at this
    rw [← this, Int.natCast_mul]
  have hf : f ≤ 50 := by
    have := HF.out
    unfold fst at this
    rw [HR.out, HQ.out] at this
    have : r * q ≤ 1 * q := Nat.mul_le_mul_right q (by omega)
    omega
  rw [HF.out]
  clear h
  go_enter Try.func70, Try.ntmps70
  go_wp2_with fail
  refine HH.out.mono ?_
  rintro e w2 ⟨rfl, hb2⟩
  have HB2 := Lib.hid (HB1.out.trans (hb2.mono HB1.out.size))
  clear hb2 HH
  go_wp2_with fail
  go_ret
  exact ⟨rfl, HB2.out⟩

set_option maxRecDepth 100000 in
set_option maxHeartbeats 1000000 in
theorem rblock_calls (t i : Nat) (A : Option Addr) (n c : Nat) (d : List UInt8) (w : World) (hn : d.length = n) (hr : RB w A d) (hm : n ≤ 500000) (ht : t ≤ 4398046511104) (hi : i ≤ 4398046511104) :
    Calls Try.prog 34 #[.int .i64 (t : Int), .int .i64 (i : Int), .slice A n c] w (NewB w (blockL t i d)) := by
  have HN := Lib.hid hn
  have HR := Lib.hid hr
  have h1 : IntKind.u64.wrap (t : Int) = t := by rw [IntKind.wrap_u64]; omega
  have h2 : IntKind.u64.wrap (i : Int) = i := by rw [IntKind.wrap_u64]; omega
  have h3 : IntKind.u64.wrap (n : Int) = n := by rw [IntKind.wrap_u64]; omega
  have l1 := enc_len9 t
  have l2 := enc_len9 i
  have l3 := enc_len9 n
  have HA := Lib.hid (ruint_calls none 0 0 [] t w rfl RB.nil (by omega) (by omega))
  obtain ⟨BL, HBL⟩ : ∃ x, Hid (blockL t i d = x) := ⟨_, rfl⟩
  have HBD : Hid (pad (Crc.sealed (enc t ++ enc i ++ enc n ++ d)) = BL) := by show _ = _; rw [← HBL.out, ← HN.out]; rfl
  rw [HBL.out]
  clear hn hr
  go_enter Try.func34, Try.ntmps34
  go_wp2_with fail
  refine HA.out.mono ?_
  rintro e w1 ⟨X1, c1, k1, rfl, hk1, ho1, hb1⟩
  rw [List.nil_append] at hk1 ho1
  have HB := Lib.hid (ruint_calls X1 k1 c1 (enc t) i w1 hk1.symm ho1.rb.1 (by omega) (by omega))
  have B1 := Lib.hid hb1
  clear hk1 ho1 hb1 HA
  go_wp2_with fail
  refine HB.out.mono ?_
  rintro e w2 ⟨X2, c2, k2, rfl, hk2, ho2, hb2⟩
  have hl2 : (enc t ++ enc i).length ≤ 18 := by rw [List.length_append]; omega
  have HC := Lib.hid (ruint_calls X2 k2 c2 (enc t ++ enc i) n w2 hk2.symm ho2.rb.1 (by omega) (by omega))
  have B2 := Lib.hid (B1.out.trans (hb2.mono B1.out.size))
  clear hk2 ho2 hb2 HB B1
  go_wp2_with fail
  refine HC.out.mono ?_
  rintro e w3 ⟨X3, c3, k3, rfl, hk3, ho3, hb3⟩
  have B3 := Lib.hid (B2.out.trans (hb3.mono B2.out.size))
  have hL : (enc t ++ enc i ++ enc n).length ≤ 27 := by simp only [List.length_append]; omega
  generalize enc t ++ enc i ++ enc n = L3 at *
  have HO3 : Hid (OB w3 w.heap.size (.slice X3 L3.length c3) L3) := by show OB _ _ _ _; rw [← hk3]; exact ho3.base B2.out.size
  rw [hk3]
  have hs3 := B3.out.size
  clear hk3 ho3 hb3 HC B2
  go_wp2_with (at_builtin; refine appB _ rfl (.tmp 18) (.tmp 19) rfl w.heap.size _ L3 d rfl HO3.out A n c rfl HN.out (RB.below HR.out B3.out) (by omega) hs3 ?_; intro X4 c4 k4 w4 HK4 hk4 hk4' HO4 HA4 HB4 hs4)
  have B4 : Hid (Below w.heap.size w w4) := B3.out.trans HB4.out
  refine (Ck.rseal_calls X4 k4 c4 (L3 ++ d) w4 HK4.out.symm (by omega) HO4.out.rb.1).mono ?_
  rintro e w5 ⟨v5, rfl, ho5, hb5⟩
  obtain ⟨X5, c5, rfl, _, _, hsl, _⟩ := own_form ho5
  have B5 := Lib.hid (B4.out.trans (hb5.mono B4.out.size))
  have hk5 : (Crc.sealed (L3 ++ d)).length = k4 + 8 := by rw [List.length_map] at hsl; exact hsl
  have HP5 : Hid (PadD w BL (Crc.sealed (L3 ++ d)) (.slice X5 (k4 + 8) c5) w5) := by
    refine ⟨X5, c5, k4 + 8, rfl, hk5.symm, ?_, B5.out, HBD.out, by omega⟩
    unfold OB
    rw [hk5]
    exact own_base ho5 B4.out.size
  clear ho5 hb5 hsl hk5 HK4 HO4 HA4 HB4 HO3 B3 B4
  generalize Crc.sealed (L3 ++ d) = L5 at *
  go_wp2_with fail
  go_loopw [7] (fun v wr => ∃ L, PadD w BL L v wr) (fun v _ => (64 - slLen v % 64) % 64)
  case atStart => exact ⟨L5, HP5.out⟩
  case round =>
    obtain ⟨L, X, c, k, rfl, hk, ho, hb, hp, hl⟩ := hrel
    have HK := Lib.hid hk
    have HO := Lib.hid ho
    have HB := Lib.hid hb
    have HP := Lib.hid hp
    have hs := hb.size
    by_cases h0 : k % 64 = 0
    · have d0 : (((k : Int) % 64) != 0) = false := by rw [bne_eq_false_iff_eq]; omega
      have HE : Hid (L = BL) := by show _ = _; rw [← hp, pad_self L (by omega)]
      clear hk ho hb hp HBD HBL
      go_wp2_with fail
      go_ret
      exact ⟨X, c, k, rfl, by rw [← HE.out]; exact HK.out, by rw [← HE.out]; exact HO.out, HB.out⟩
    · have d0 : (((k : Int) % 64) != 0) = true := by rw [bne_iff_ne]; omega
      have HE : Hid (pad (L ++ [0]) = BL) := by show _ = _; rw [← hp, pad_step L (by omega)]
      have hl9 : L.length + 1 ≤ 600000 := by omega
      have h64 : k % 64 ≠ 0 := h0
      clear ho hb hp HBD HBL h0
      go_wp2_with (at_builtin; refine app1 _ rfl (.tmp 26) (.tmp 27) rfl w.heap.size _ L 0 _ rfl HO.out rfl rfl (by omega) hs ?_; intro X6 c6 k6 w6 HK6 hk6 hk6' HO6 HA6 HB6 hs6)
      go_roundw
      case rel => exact ⟨L ++ [0], X6, c6, k6, rfl, HK6.out, HO6.out, HB.out.trans HB6.out, HE.out, by simp; omega⟩
      case measure => show (64 - k6 % 64) % 64 < (64 - k % 64) % 64; omega

/-- what find leaves -/
def FindP (w : World) (l : List UInt8) (e : Ending) (w' : World) : Prop :=
  Below w.heap.size w w' ∧ ((parseB l = none ∧ e = .returned (.tuple #[.agg #[.int .i64 0, .int .i64 0, .slice none 0 0, .int .i64 0], .bool false])) ∨
    ∃ b X c, parseB l = some b ∧ e = .returned (.tuple #[.agg #[.int .i64 (b.t : Int), .int .i64 (b.i : Int), .slice X b.d.length c, .int .i64 (b.n : Int)], .bool true]) ∧ RB w' X b.d ∧ b.d.length ≤ c ∧ c ≤ maxLen ∧
      ∀ blk off, X = some ⟨blk, off, none⟩ → w.heap.size ≤ blk ∧ blk < w'.heap.size)
end Jn
end Go.Proofs.Ytmdpmpfjldgalaa

/- The walks of the reference's find and at. -/
namespace Go.Proofs.Ytmdpmpfjldgalaa
open Go.RowKit
namespace Jn
open Dk Wi Wr

theorem size_fd : (Try.prog.info? 112).map (·.size) = some 4 := by kernel_rfl
theorem ax_le {x z a m : Nat} (h1 : x + 8 = z) (h2 : z = a + m + 8) : a ≤ x := by omega
theorem z63 {z zz : Nat} (h : (z + 63) / 64 = zz) : ((z : Int) + 63) / 64 = (zz : Int) := by omega
set_option maxRecDepth 100000 in
set_option maxHeartbeats 2000000 in
theorem find_calls (A : Option Addr) (n c : Nat) (l : List UInt8) (w : World) (hn : l.length = n) (hnc : n ≤ c) (hr : RB w A l) (hm : n ≤ 900000) :
    Calls Try.prog 80 #[.slice A n c] w (FindP w l) := by
  have HN := Lib.hid hn
  have HR := Lib.hid hr
  have hl3 := left3 l
  have h1lt := uintR_lt ⟨l, 0⟩
  have h2lt := uintR_lt (uintR ⟨l, 0⟩).2
  have h3lt := uintR_lt (uintR (uintR ⟨l, 0⟩).2).2
  have HBAD : Hid (badB l = (decide ((uintR (uintR (uintR ⟨l, 0⟩).2).2).2.e ≠ 0) || decide ((uintR ⟨l, 0⟩).1 < 1) || decide (1099511627776 < (uintR ⟨l, 0⟩).1) || decide (1099511627776 < (uintR (uintR ⟨l, 0⟩).2).1) ||
    decide ((uintR (uintR (uintR ⟨l, 0⟩).2).2).2.l.length < 8) || decide ((uintR (uintR (uintR ⟨l, 0⟩).2).2).2.l.length < (uintR (uintR (uintR ⟨l, 0⟩).2).2).1 + 8))) := (badR_eq l).symm
  have HAT : Hid (at3 l = l.length - (uintR (uintR (uintR ⟨l, 0⟩).2).2).2.l.length) := rfl
  have HSZ : Hid (size3 l = at3 l + (uintR (uintR (uintR ⟨l, 0⟩).2).2).1 + 8) := rfl
  have HPS := fun x h1 h2 => Lib.hid (parseB_some l x h1 h2)
  have HPN := fun h1 h2 => Lib.hid (parseB_none l h1 h2)
  have HPB := fun h1 => Lib.hid (parseB_bad l h1)
  have hb1 := below1 w (.cells #[.int .i64 0, .int .i64 0, .slice none 0 0, .int .i64 0] 112)
  have hk1 := heap_alloc_new w (.cells #[.int .i64 0, .int .i64 0, .slice none 0 0, .int .i64 0] 112)
  obtain ⟨w1, HW1⟩ : ∃ x, Hid (w.alloc (.cells #[.int .i64 0, .int .i64 0, .slice none 0 0, .int .i64 0] 112) = x) := ⟨_, rfl⟩
  rw [HW1.out] at hb1 hk1
  have HB1 := Lib.hid hb1
  have HK1 := Lib.hid hk1
  have hs1 : w.heap.size < w1.heap.size := (Array.getElem?_eq_some_iff.1 hk1).1
  clear hn hr hb1 hk1
  go_enter Try.func80, Try.ntmps80
  go_upto_region 1 with (fail)
  rw [HW1.out]
  go_upto_region 2 with (at_builtin; refine app0 _ rfl (.tmp 13) (.tmp 14) rfl l rfl A n c rfl HN.out (RB.below HR.out HB1.out) (by omega) ?_; intro X2 c2 k2 w2 HK2 hk2 hk2' HO2 HB2 hs2)
  have hb3 := below1 w2 (.cells #[.slice X2 k2 c2, .int .i64 0] 130)
  have hk3 := heap_alloc_new w2 (.cells #[.slice X2 k2 c2, .int .i64 0] 130)
  have HR3 : Hid (IsRr w2.heap.size (w2.alloc (.cells #[.slice X2 k2 c2, .int .i64 0] 130)) w2.heap.size ⟨l, 0⟩) := by
    have hr2 := HO2.out.rb
    refine ⟨X2, c2, ?_, by have := hr2.2.2.1; have := HK2.out; show l.length ≤ c2; omega, hr2.2.2.2, RB.below hr2.1 hb3, fun hp b off e => RB.lt hr2.1 hp b off e, Nat.le_refl _⟩
    rw [hk3, HK2.out]
  have HB3 := Lib.hid (HB2.out.trans (hb3.mono hs2))
  generalize hgg : w2.heap.size = g at *
  have hg1 : w1.heap.size ≤ g := hs2
  generalize w2.alloc (.cells #[.slice X2 k2 c2, .int .i64 0] 130) = w3 at *
  have HU1 := Lib.hid (rdUint_calls g ⟨l, 0⟩ w3 HR3.out)
  clear hgg hb3 hk3 HR3 HO2 HB2 hs2 HK2 hk2 hk2'
  go_wp2_with fail
  refine HU1.out.mono ?_
  rintro e w4 ⟨rfl, hg4, hc4⟩
  have HU2 := Lib.hid (rdUint_calls g _ w4 hg4)
  have B4 := Lib.hid (HB3.out.trans (hc4.below HB3.out.size (by simpa using hg1)))
  clear hg4 hc4 HU1 HB3
  generalize uintR ⟨l, 0⟩ = r1 at *
  obtain ⟨t, r1⟩ := r1
  simp only at *
  go_wp2_with fail
  refine HU2.out.mono ?_
  rintro e w5 ⟨rfl, hg5, hc5⟩
  have HU3 := Lib.hid (rdUint_calls g _ w5 hg5)
  have B5 := Lib.hid (B4.out.trans (hc5.below B4.out.size (by simpa using hg1)))
  clear hg5 hc5 HU2 B4
  generalize uintR r1 = r2 at *
  obtain ⟨i, r2⟩ := r2
  simp only at *
  go_wp2_with fail
  refine HU3.out.mono ?_
  rintro e w6 ⟨rfl, hg6, hc6⟩
  have B6 := Lib.hid (B5.out.trans (hc6.below B5.out.size (by simpa using hg1)))
  clear hc6 HU3 B5
  generalize uintR r2 = r3 at *
  obtain ⟨m, r3⟩ := r3
  simp only at *
  obtain ⟨A6, c6, hh6, _⟩ := hg6
  have y0 : w6.cell? ⟨g, 0, none⟩ = some (.slice A6 r3.l.length c6) := (cell_of_row _ _ 0 _ _ _ hh6).trans rfl
  have y1 : w6.cell? ⟨g, 1, none⟩ = some (.int .i64 r3.e) := (cell_of_row _ _ 1 _ _ _ hh6).trans rfl
  have HZ := Lib.hid ((B6.out.block _ hs1).trans HK1.out)
  have HZB := Lib.hid (HB1.out.trans (B6.out.mono HB1.out.size))
  have zc0 : w6.cell? ⟨w.heap.size, 0, none⟩ = some _ := (cell_of_row _ _ 0 _ _ _ HZ.out).trans rfl; have zf0 : w6.frozen? ⟨w.heap.size, 0, none⟩ = false := frozen_of_row _ _ _ _ _ HZ.out; have zc1 : w6.cell? ⟨w.heap.size, 1, none⟩ = some _ := (cell_of_row _ _ 1 _ _ _ HZ.out).trans rfl; have zf1 : w6.frozen? ⟨w.heap.size, 1, none⟩ = false := frozen_of_row _ _ _ _ _ HZ.out; have zc2 : w6.cell? ⟨w.heap.size, 2, none⟩ = some _ := (cell_of_row _ _ 2 _ _ _ HZ.out).trans rfl; have zf2 : w6.frozen? ⟨w.heap.size, 2, none⟩ = false := frozen_of_row _ _ _ _ _ HZ.out; have zc3 : w6.cell? ⟨w.heap.size, 3, none⟩ = some _ := (cell_of_row _ _ 3 _ _ _ HZ.out).trans rfl; have zf3 : w6.frozen? ⟨w.heap.size, 3, none⟩ = false := frozen_of_row _ _ _ _ _ HZ.out
  clear hh6
  rw [HN.out] at hl3
  obtain ⟨q3, HQ3⟩ : ∃ x, Hid (r3.l.length = x) := ⟨_, rfl⟩
  obtain ⟨er, HER⟩ : ∃ x, Hid (r3.e = x) := ⟨_, rfl⟩
  rw [HQ3.out, HER.out] at HBAD
  rw [HQ3.out] at y0 hl3 HAT
  rw [HER.out] at y1
  obtain ⟨a, HA⟩ : ∃ x, Hid (at3 l = x) := ⟨_, rfl⟩
  obtain ⟨z, HZZ⟩ : ∃ x, Hid (size3 l = x) := ⟨_, rfl⟩
  rw [HA.out] at HAT HSZ
  rw [HZZ.out] at HSZ
  have ha : (n : Int) - (q3 : Int) = (a : Int) := by have := HAT.out; rw [HN.out] at this; omega
  have eu : IntKind.u64.wrap (q3 : Int) = q3 := by rw [IntKind.wrap_u64]; omega
  have HF0 : Hid (badB l = true → FindP w l (.returned (.tuple #[.agg #[.int .i64 0, .int .i64 0, .slice none 0 0, .int .i64 0], .bool false])) ((((w6.setCell ⟨w.heap.size, 0, none⟩ (.int .i64 0)).setCell ⟨w.heap.size, 1, none⟩ (.int .i64 0)).setCell ⟨w.heap.size, 2, none⟩ (.slice none 0 0)).setCell ⟨w.heap.size, 3, none⟩ (.int .i64 0))) := fun h =>
    ⟨HZB.out.trans ((chg_set4 w6 w.heap.size _ _ _ _).below HZB.out.size (by simp)), .inl ⟨(HPB h).out, rfl⟩⟩
  by_cases c0 : er = 0
  · have d0 : (er != 0) = false := by simpa using c0
    by_cases c1 : t < 1
    · have d1 : decide ((t : Int) < 1) = true := by simp; omega
      have hb : badB l = true := by rw [HBAD.out]; simp [c1]
      clear c0
      go_wp2_with fail
      have hz := heap_set4 HZ.out (.int .i64 0) (.int .i64 0) (.slice none 0 0) (.int .i64 0); refine bodyPost_ret (results_cell_tmp rfl _ _ w.heap.size 112 _ (0, 0) _ rfl hz Try.underlying112 rfl size_fd) rfl ?_
      exact HF0.out hb
    have d1 : decide ((t : Int) < 1) = false := by simp; omega
    by_cases c2 : 1099511627776 < t
    · have d2 : decide ((1099511627776 : Int) < (t : Int)) = true := by simp; omega
      have hb : badB l = true := by rw [HBAD.out]; simp [c2]
      clear c0
      go_wp2_with fail
      have hz := heap_set4 HZ.out (.int .i64 0) (.int .i64 0) (.slice none 0 0) (.int .i64 0); refine bodyPost_ret (results_cell_tmp rfl _ _ w.heap.size 112 _ (0, 0) _ rfl hz Try.underlying112 rfl size_fd) rfl ?_
      exact HF0.out hb
    have d2 : decide ((1099511627776 : Int) < (t : Int)) = false := by simp; omega
    by_cases c3 : 1099511627776 < i
    · have d3 : decide ((1099511627776 : Int) < (i : Int)) = true := by simp; omega
      have hb : badB l = true := by rw [HBAD.out]; simp [c3]
      clear c0
      go_wp2_with fail
      have hz := heap_set4 HZ.out (.int .i64 0) (.int .i64 0) (.slice none 0 0) (.int .i64 0); refine bodyPost_ret (results_cell_tmp rfl _ _ w.heap.size 112 _ (0, 0) _ rfl hz Try.underlying112 rfl size_fd) rfl ?_
      exact HF0.out hb
    have d3 : decide ((1099511627776 : Int) < (i : Int)) = false := by simp; omega
    by_cases c4 : q3 < 8
    · have d4 : decide ((q3 : Int) < 8) = true := by simp; omega
      have hb : badB l = true := by rw [HBAD.out]; simp [c4]
      clear c0
      go_wp2_with fail
      have hz := heap_set4 HZ.out (.int .i64 0) (.int .i64 0) (.slice none 0 0) (.int .i64 0); refine bodyPost_ret (results_cell_tmp rfl _ _ w.heap.size 112 _ (0, 0) _ rfl hz Try.underlying112 rfl size_fd) rfl ?_
      exact HF0.out hb
    have d4 : decide ((q3 : Int) < 8) = false := by simp; omega
    obtain ⟨q8, HQ8⟩ : ∃ x, Hid (q3 - 8 = x) := ⟨_, rfl⟩
    have e8 : (q3 : Int) - 8 = (q8 : Int) := by have := HQ8.out; omega
    by_cases c5 : q8 < m
    · have d5 : decide (q8 < m) = true := by simpa using c5
      have hb : badB l = true := by rw [HBAD.out]; have : q3 < m + 8 := (by have := HQ8.out; omega); simp [this]
      clear c0 c5
      go_wp2_with fail
      have hz := heap_set4 HZ.out (.int .i64 0) (.int .i64 0) (.slice none 0 0) (.int .i64 0); refine bodyPost_ret (results_cell_tmp rfl _ _ w.heap.size 112 _ (0, 0) _ rfl hz Try.underlying112 rfl size_fd) rfl ?_
      exact HF0.out hb
    have d5 : decide (q8 < m) = false := by simpa using c5
    have hb : badB l = false := by rw [HBAD.out]; have : ¬ q3 < m + 8 := (by have := HQ8.out; omega); simp [c0, c1, c2, c3, c4, this]
    have hz : z = a + m + 8 := HSZ.out
    have hzn : z ≤ n := by have := HQ8.out; omega
    have e1 : IntKind.i64.wrap (m : Int) = m := by rw [IntKind.wrap_i64]; omega
    have e2 : (a : Int) + (m : Int) + 8 = (z : Int) := by omega
    have hcut1 : ∀ w', (Instr.slice 29 (.slice A n c) none (some (.int .i64 (z : Int))) none).run Try.prog w' = .ok (.slice A z c) w' := fun w' => by
      have h := run_cut_h (P := Try.prog) Try.underlying29 (by kernel_rfl) A n c z (by omega) Dk.size_u8 w'
      rwa [cutA_zero] at h
    have HOP := Lib.hid (Ck.ropen_calls A z c (l.take z) w6 (by rw [List.length_take]; have := HN.out; omega) (by omega) (by omega) (RB.take (RB.below HR.out HZB.out) z))
    have HE1 := Lib.hid (HPN hb)
    have HE2 := fun x => Lib.hid (HPS x hb)
    rw [HZZ.out] at HE1 HE2
    rw [HA.out] at HE2
    have et : IntKind.i64.wrap (t : Int) = t := by rw [IntKind.wrap_i64]; omega
    have ei : IntKind.i64.wrap (i : Int) = i := by rw [IntKind.wrap_i64]; omega
    have hLz : (l.take z).length = z := by rw [List.length_take]; have := HN.out; omega
    have HLZ := Lib.hid hLz
    have HZA := Lib.hid hz
    have ok0 : ((0 : Int) != 0) = false := by decide
    clear hb HBAD HPS HPN HPB HF0 hLz hz c0 c5
    go_wp2_with fail
    refine HOP.out.mono ?_
    rintro e w7 ⟨hb7, ho7⟩
    have HZ7 := Lib.hid ((hb7.block _ (Nat.lt_of_lt_of_le hs1 B6.out.size)).trans HZ.out)
    have HZB7 := Lib.hid (HZB.out.trans (hb7.mono HZB.out.size))
    clear zc0 zc1 zc2 zc3 zf0 zf1 zf2 zf3 y0 y1 e1 e2 hcut1
    have zc0 : w7.cell? ⟨w.heap.size, 0, none⟩ = some _ := (cell_of_row _ _ 0 _ _ _ HZ7.out).trans rfl; have zf0 : w7.frozen? ⟨w.heap.size, 0, none⟩ = false := frozen_of_row _ _ _ _ _ HZ7.out; have zc1 : w7.cell? ⟨w.heap.size, 1, none⟩ = some _ := (cell_of_row _ _ 1 _ _ _ HZ7.out).trans rfl; have zf1 : w7.frozen? ⟨w.heap.size, 1, none⟩ = false := frozen_of_row _ _ _ _ _ HZ7.out; have zc2 : w7.cell? ⟨w.heap.size, 2, none⟩ = some _ := (cell_of_row _ _ 2 _ _ _ HZ7.out).trans rfl; have zf2 : w7.frozen? ⟨w.heap.size, 2, none⟩ = false := frozen_of_row _ _ _ _ _ HZ7.out; have zc3 : w7.cell? ⟨w.heap.size, 3, none⟩ = some _ := (cell_of_row _ _ 3 _ _ _ HZ7.out).trans rfl; have zf3 : w7.frozen? ⟨w.heap.size, 3, none⟩ = false := frozen_of_row _ _ _ _ _ HZ7.out
    rcases ho7 with ⟨h1, rfl⟩ | ⟨x, v, h1, rfl, ho⟩
    · have HF : Hid (FindP w l (.returned (.tuple #[.agg #[.int .i64 0, .int .i64 0, .slice none 0 0, .int .i64 0], .bool false])) ((((w7.setCell ⟨w.heap.size, 0, none⟩ (.int .i64 0)).setCell ⟨w.heap.size, 1, none⟩ (.int .i64 0)).setCell ⟨w.heap.size, 2, none⟩ (.slice none 0 0)).setCell ⟨w.heap.size, 3, none⟩ (.int .i64 0))) :=
        ⟨HZB7.out.trans ((chg_set4 w7 w.heap.size _ _ _ _).below HZB7.out.size (by simp)), .inl ⟨HE1.out h1, rfl⟩⟩
      clear h1 hb7
      go_wp2_with fail
      have hz := heap_set4 HZ7.out (.int .i64 0) (.int .i64 0) (.slice none 0 0) (.int .i64 0)
      refine bodyPost_ret (results_cell_tmp rfl _ _ w.heap.size 112 _ (0, 0) _ rfl hz Try.underlying112 rfl size_fd) rfl ?_
      exact HF.out
    · have hx : x.length + 8 = z := by have := opened_len _ _ h1; rw [HLZ.out] at this; exact this
      obtain ⟨X, cx, rfl, hxc, hxm, _, hrx⟩ := own_form ho
      have hax : a ≤ x.length := ax_le hx HZA.out
      obtain ⟨k, HK⟩ : ∃ y, Hid (x.length = y) := ⟨_, rfl⟩
      rw [HK.out] at hxc hax
      have hcut2 : ∀ w', (Instr.slice 29 (.slice X k cx) (some (.int .i64 (a : Int))) none none).run Try.prog w' = .ok (.slice (cutA X a cx) (k - a) (cx - a)) w' := fun w' => run_cut_l Try.underlying29 (by kernel_rfl) Dk.size_u8 X k cx a hax w'
      obtain ⟨zz, HZZ2⟩ : ∃ y, Hid ((z + 63) / 64 = y) := ⟨_, rfl⟩
      have e6 : ((z : Int) + 63) / 64 = (zz : Int) := z63 HZZ2.out
      have HF : Hid (FindP w l (.returned (.tuple #[.agg #[.int .i64 (t : Int), .int .i64 (i : Int), .slice (cutA X a cx) (k - a) (cx - a), .int .i64 (zz : Int)], .bool true])) ((((w7.setCell ⟨w.heap.size, 0, none⟩ (.int .i64 (t : Int))).setCell ⟨w.heap.size, 1, none⟩ (.int .i64 (i : Int))).setCell ⟨w.heap.size, 2, none⟩ (.slice (cutA X a cx) (k - a) (cx - a))).setCell ⟨w.heap.size, 3, none⟩ (.int .i64 (zz : Int)))) := by
        have hcs := chg_set4 w7 w.heap.size (.int .i64 (t : Int)) (.int .i64 (i : Int)) (.slice (cutA X a cx) (k - a) (cx - a)) (.int .i64 (zz : Int))
        have hw6 : w.heap.size < w6.heap.size := Nat.lt_of_lt_of_le hs1 B6.out.size
        refine ⟨HZB7.out.trans (hcs.below HZB7.out.size (by simp)), .inr ⟨_, cutA X a cx, cx - a, (HE2 x).out h1, ?_, RB.chg (RB.cut hrx a cx (by rw [HK.out]; exact hxc)) hcs ?_, ?_, Nat.le_trans (Nat.sub_le _ _) hxm, ?_⟩⟩
        · show _ = Ending.returned (.tuple #[.agg #[_, _, .slice _ (x.drop a).length _, _], _])
          rw [List.length_drop, HK.out, HZZ2.out]
        · intro _ b off e hm
          have := (own_cut ho e).1
          simp only [List.mem_singleton] at hm
          subst hm
          exact absurd this (Nat.not_le.2 hw6)
        · show (x.drop a).length ≤ _
          rw [List.length_drop, HK.out]
          exact Nat.sub_le_sub_right hxc a
        · intro blk off e
          have hg := own_cut ho e
          exact ⟨Nat.le_trans (Nat.le_of_lt hw6) hg.1, Nat.lt_of_lt_of_le hg.2 hcs.size⟩
      clear h1 ho hrx HE2 hb7 hx
      rw [HK.out]
      go_wp2_with fail
      have hz := heap_set4 HZ7.out (.int .i64 (t : Int)) (.int .i64 (i : Int)) (.slice (cutA X a cx) (k - a) (cx - a)) (.int .i64 (zz : Int))
      refine bodyPost_ret (results_cell_tmp rfl _ _ w.heap.size 112 _ (0, 0) _ rfl hz Try.underlying112 rfl size_fd) rfl ?_
      exact HF.out
  · have d0 : (er != 0) = true := by simpa using c0
    have hb : badB l = true := by rw [HBAD.out]; simp [c0]
    clear c0
    go_wp2_with fail
    have hz := heap_set4 HZ.out (.int .i64 0) (.int .i64 0) (.slice none 0 0) (.int .i64 0); refine bodyPost_ret (results_cell_tmp rfl _ _ w.heap.size 112 _ (0, 0) _ rfl hz Try.underlying112 rfl size_fd) rfl ?_
    exact HF0.out hb
end Jn
end Go.Proofs.Ytmdpmpfjldgalaa

/- The walk of the reference's at. -/
namespace Go.Proofs.Ytmdpmpfjldgalaa
open Go.RowKit
namespace Jn
open Dk Wi Wr

theorem halfL_at (D : St) (k s : Nat) (hk : k < 2) (hs : s ≤ half D) (hx : D.x = false) :
    readL D ((k * half D + s : Nat) : Int) ((half D - s : Nat) : Int) = (halfL D k).drop (64 * s) ∧ readE D ((k * half D + s : Nat) : Int) ((half D - s : Nat) : Int) = 0 := by
  have hh : k * (D.n / 2) ≤ 1 * (D.n / 2) := Nat.mul_le_mul_right _ (by omega)
  have hi : inB D.n ((k * half D + s : Nat) : Int) ((half D - s : Nat) : Int) = true := by
    unfold half at hs
    unfold inB half
    simp only [Bool.and_eq_true, decide_eq_true_eq]
    omega
  refine ⟨?_, by unfold readE; rw [hx, hi]; simp⟩
  unfold readL halfL
  rw [hx, hi, Int.toNat_natCast, Int.toNat_natCast]
  simp only [Bool.false_eq_true, if_false]
  rw [if_neg (by simp), List.drop_take, List.drop_drop, show 64 * (k * half D + s) = 64 * (k * half D) + 64 * s by omega, show 64 * (half D - s) = 64 * half D - 64 * s by omega]

theorem at_sums {k q f s fs qs : Nat} (h1 : k * q = f) (h2 : f + s = fs) (h3 : q - s = qs) (hs : s ≤ q) (hq : fs ≤ 1000) (hf : f ≤ 1000) (hqs : qs ≤ 1000) :
    ((k : Int) * (q : Int) = (f : Int) ∧ (f : Int) + (s : Int) = (fs : Int) ∧ (q : Int) - (s : Int) = (qs : Int)) ∧ IntKind.i64.wrap (f : Int) = f ∧ IntKind.i64.wrap (fs : Int) = fs ∧ IntKind.i64.wrap (qs : Int) = qs := by
  refine ⟨⟨by rw [← h1, Int.natCast_mul], by omega, by omega⟩, wi_nat (by omega), wi_nat (by omega), wi_nat (by omega)⟩

set_option maxRecDepth 100000 in
set_option maxHeartbeats 1000000 in
theorem at_calls (v : Value) (N0 : List Nat) (D : St) (k s : Nat) (w : World) (h : IsK w N0 v D) (hk : k < 2) (hs : s ≤ half D) (hx : D.x = false) (hD : D.n ≤ 100) :
    Calls Try.prog 72 #[v, .int .i64 (k : Int), .int .i64 (s : Int)] w (FindP w ((halfL D k).drop (64 * s))) := by
  have HK := Lib.hid h
  obtain ⟨A, ca, X, cx, P, rfl, h⟩ := h
  have hq50 : half D ≤ 50 := by unfold half; omega
  have HHL := Lib.hid (halfL_at D k s hk hs hx)
  have HLEN : Hid (((halfL D k).drop (64 * s)).length ≤ 6400) := by
    show _ ≤ _
    rw [List.length_drop, halfL_len D k h.ok hk]; omega
  unfold kval at HK ⊢
  obtain ⟨N, HN⟩ : ∃ x, Hid (64 * D.n = x) := ⟨_, rfl⟩
  rw [HN.out] at HK ⊢
  generalize P.length = pl at *
  have hb2 := below2 w (.cells #[.slice A N ca, .slice X pl cx, .bool D.x, .int .i64 D.f] 42) (.cells #[.int .i64 0, .int .i64 0, .slice none 0 0, .int .i64 0] 112)
  have hk0 : ((w.alloc (.cells #[.slice A N ca, .slice X pl cx, .bool D.x, .int .i64 D.f] 42)).alloc (.cells #[.int .i64 0, .int .i64 0, .slice none 0 0, .int .i64 0] 112)).heap[w.heap.size]? = some (.cells #[.slice A N ca, .slice X pl cx, .bool D.x, .int .i64 D.f] 42) := (Below.heap_alloc _ _ _ (by simp)).trans (heap_alloc_new _ _)
  have hk1 : ((w.alloc (.cells #[.slice A N ca, .slice X pl cx, .bool D.x, .int .i64 D.f] 42)).alloc (.cells #[.int .i64 0, .int .i64 0, .slice none 0 0, .int .i64 0] 112)).heap[w.heap.size + 1]? = some (.cells #[.int .i64 0, .int .i64 0, .slice none 0 0, .int .i64 0] 112) := heap_alloc2_new _ _ _
  obtain ⟨w2, HW2⟩ : ∃ x, Hid ((w.alloc (.cells #[.slice A N ca, .slice X pl cx, .bool D.x, .int .i64 D.f] 42)).alloc (.cells #[.int .i64 0, .int .i64 0, .slice none 0 0, .int .i64 0] 112) = x) := ⟨_, rfl⟩
  rw [HW2.out] at hb2 hk0 hk1
  have HB2 := Lib.hid hb2
  have HK0 := Lib.hid hk0
  have HK1 := Lib.hid hk1
  have hs2 : w.heap.size + 1 < w2.heap.size := (Array.getElem?_eq_some_iff.1 hk1).1
  obtain ⟨q, HQ⟩ : ∃ x, Hid (half D = x) := ⟨_, rfl⟩
  obtain ⟨f, HF⟩ : ∃ x, Hid (k * q = x) := ⟨_, rfl⟩
  obtain ⟨fs, HFS⟩ : ∃ x, Hid (f + s = x) := ⟨_, rfl⟩
  obtain ⟨qs, HQS⟩ : ∃ x, Hid (q - s = x) := ⟨_, rfl⟩
  rw [HQ.out] at hq50 hs HHL
  rw [HF.out, HFS.out, HQS.out] at HHL
  have hf50 : f ≤ 50 := by
    have := HF.out
    have : k * q ≤ 1 * q := Nat.mul_le_mul_right q (by omega)
    omega
  have HSUM := Lib.hid (at_sums HF.out HFS.out HQS.out hs (by have := HFS.out; omega) (by omega) (by have := HQS.out; omega))
  have hfs1 : fs ≤ 1000 := by have := HFS.out; omega
  obtain ⟨L, HL⟩ : ∃ x, Hid ((halfL D k).drop (64 * s) = x) := ⟨_, rfl⟩
  rw [HL.out] at HHL HLEN ⊢
  have HH : ∀ w', Below w2.heap.size w2 w' → Hid (Calls Try.prog 54 #[.agg #[.slice A N ca, .slice X pl cx, .bool D.x, .int .i64 D.f]] w' fun e w'' => e = .returned (.int .i64 (q : Int)) ∧ Below w2.heap.size w2 w'') := fun w' hb =>
    (rhalf_calls _ N0 D w' (HK.out.below (HB2.out.trans (hb.mono HB2.out.size)))).mono fun e w'' ⟨a, b⟩ => ⟨by rw [a, HQ.out], hb.trans (b.mono hb.size)⟩
  have HRD : ∀ w', Below w2.heap.size w2 w' → Hid (Calls Try.prog 46 #[.agg #[.slice A N ca, .slice X pl cx, .bool D.x, .int .i64 D.f], .int .i64 (fs : Int), .int .i64 (qs : Int)] w' fun e w'' => ∃ X n c, e = .returned (.tuple #[.slice X n c, .int .i64 0]) ∧ n = L.length ∧ RB w'' X L ∧ n ≤ c ∧ c ≤ maxLen ∧ Below w2.heap.size w2 w'') := by
    intro w' hb
    refine (rread_calls _ N0 D _ _ w' (HK.out.below (HB2.out.trans (hb.mono HB2.out.size))) (by omega) (by omega)).mono ?_
    rintro e w'' ⟨Y, n, c, rfl, h1, h2, h3, h4, h5, _⟩
    rw [HHL.out.2]
    rw [HHL.out.1] at h1 h2
    exact ⟨Y, n, c, rfl, h1, h2, h3, h4, hb.trans (h5.mono hb.size)⟩
  have r0 : ∀ w', Below w2.heap.size w2 w' → w'.cell? ⟨w.heap.size, 0, none⟩ = some (.slice A N ca) := fun w' h => (cell_of_row _ _ 0 _ _ _ ((h.block _ (by omega)).trans HK0.out)).trans rfl
  have r1 : ∀ w', Below w2.heap.size w2 w' → w'.cell? ⟨w.heap.size, 1, none⟩ = some (.slice X pl cx) := fun w' h => (cell_of_row _ _ 1 _ _ _ ((h.block _ (by omega)).trans HK0.out)).trans rfl
  have r2 : ∀ w', Below w2.heap.size w2 w' → w'.cell? ⟨w.heap.size, 2, none⟩ = some (.bool D.x) := fun w' h => (cell_of_row _ _ 2 _ _ _ ((h.block _ (by omega)).trans HK0.out)).trans rfl
  have r3 : ∀ w', Below w2.heap.size w2 w' → w'.cell? ⟨w.heap.size, 3, none⟩ = some (.int .i64 D.f) := fun w' h => (cell_of_row _ _ 3 _ _ _ ((h.block _ (by omega)).trans HK0.out)).trans rfl
  obtain ⟨⟨e1, e2, e3⟩, e4, e5, e6⟩ := HSUM.out
  clear h hb2 hk0 hk1 HHL hx
  go_enter Try.func72, Try.ntmps72
  go_upto_region 1 with (fail)
  rw [HW2.out]
  go_region_held3 (fun w' => Below w2.heap.size w2 w') (first | exact (Below.refl _ _).drew | assumption) (first | (go_at_call 54; (with_reducible refine (HH _ (by assumption)).out.mono ?_); rintro e w' ⟨rfl, hbh⟩) | (go_at_call 46; (with_reducible refine (HRD _ (by assumption)).out.mono ?_); rintro e w3 ⟨Y, n, c, rfl, hn, hr, hnc, hcm, hb3⟩; have HN3 := Lib.hid hn; have HR3 := Lib.hid hr; clear hn hr))
  have HK13 := Lib.hid ((hb3.block _ (by omega)).trans HK1.out)
  have HBF := Lib.hid (HB2.out.trans (hb3.mono HB2.out.size))
  have HFD := Lib.hid (find_calls Y n c L w3 HN3.out.symm hnc HR3.out (by have := HN3.out; have := HLEN.out; omega))
  clear r0 r1 r2 r3 e1 e2 e3 e4 e5 e6 HH HRD
  go_wp2_with fail
  refine HFD.out.mono ?_
  rintro e w4 ⟨hb4, hp4⟩
  have hs3 : w.heap.size + 1 < w3.heap.size := (Array.getElem?_eq_some_iff.1 HK13.out).1
  have HZ := Lib.hid ((hb4.block _ hs3).trans HK13.out)
  have HB4 := Lib.hid (HBF.out.trans (hb4.mono HBF.out.size))
  have hs4 := HBF.out.size
  have zc0 : w4.cell? ⟨w.heap.size + 1, 0, none⟩ = some _ := (cell_of_row _ _ 0 _ _ _ HZ.out).trans rfl; have zf0 : w4.frozen? ⟨w.heap.size + 1, 0, none⟩ = false := frozen_of_row _ _ _ _ _ HZ.out; have zc1 : w4.cell? ⟨w.heap.size + 1, 1, none⟩ = some _ := (cell_of_row _ _ 1 _ _ _ HZ.out).trans rfl; have zf1 : w4.frozen? ⟨w.heap.size + 1, 1, none⟩ = false := frozen_of_row _ _ _ _ _ HZ.out; have zc2 : w4.cell? ⟨w.heap.size + 1, 2, none⟩ = some _ := (cell_of_row _ _ 2 _ _ _ HZ.out).trans rfl; have zf2 : w4.frozen? ⟨w.heap.size + 1, 2, none⟩ = false := frozen_of_row _ _ _ _ _ HZ.out; have zc3 : w4.cell? ⟨w.heap.size + 1, 3, none⟩ = some _ := (cell_of_row _ _ 3 _ _ _ HZ.out).trans rfl; have zf3 : w4.frozen? ⟨w.heap.size + 1, 3, none⟩ = false := frozen_of_row _ _ _ _ _ HZ.out
  rcases hp4 with ⟨h0, rfl⟩ | ⟨b, Y4, cy, h0, rfl, hy, hyc, hym, hyb⟩
  · have HF : Hid (FindP w L (.returned (.tuple #[.agg #[.int .i64 0, .int .i64 0, .slice none 0 0, .int .i64 0], .bool false])) ((((w4.setCell ⟨w.heap.size + 1, 0, none⟩ (.int .i64 0)).setCell ⟨w.heap.size + 1, 1, none⟩ (.int .i64 0)).setCell ⟨w.heap.size + 1, 2, none⟩ (.slice none 0 0)).setCell ⟨w.heap.size + 1, 3, none⟩ (.int .i64 0))) :=
      ⟨HB4.out.trans ((chg_set4 w4 (w.heap.size + 1) _ _ _ _).below HB4.out.size (by simp)), .inl ⟨h0, rfl⟩⟩
    clear h0 hb4
    go_wp2_with fail
    have hz := heap_set4 HZ.out (.int .i64 0) (.int .i64 0) (.slice none 0 0) (.int .i64 0)
    refine bodyPost_ret (results_cell_tmp rfl _ _ (w.heap.size + 1) 112 _ (0, 0) _ rfl hz Try.underlying112 rfl size_fd) rfl ?_
    exact HF.out
  · have HF : Hid (FindP w L (.returned (.tuple #[.agg #[.int .i64 (b.t : Int), .int .i64 (b.i : Int), .slice Y4 b.d.length cy, .int .i64 (b.n : Int)], .bool true])) ((((w4.setCell ⟨w.heap.size + 1, 0, none⟩ (.int .i64 (b.t : Int))).setCell ⟨w.heap.size + 1, 1, none⟩ (.int .i64 (b.i : Int))).setCell ⟨w.heap.size + 1, 2, none⟩ (.slice Y4 b.d.length cy)).setCell ⟨w.heap.size + 1, 3, none⟩ (.int .i64 (b.n : Int)))) := by
      have hcs := chg_set4 w4 (w.heap.size + 1) (.int .i64 (b.t : Int)) (.int .i64 (b.i : Int)) (.slice Y4 b.d.length cy) (.int .i64 (b.n : Int))
      refine ⟨HB4.out.trans (hcs.below HB4.out.size (by simp)), .inr ⟨b, Y4, cy, h0, rfl, RB.chg hy hcs ?_, hyc, hym, ?_⟩⟩
      · intro _ blk off e hm
        have := (hyb blk off e).1
        simp only [List.mem_singleton] at hm
        omega
      · intro blk off e
        have := hyb blk off e
        have := hcs.size
        omega
    clear h0 hy hyc hym hyb hb4
    go_wp2_with fail
    have hz := heap_set4 HZ.out (.int .i64 (b.t : Int)) (.int .i64 (b.i : Int)) (.slice Y4 b.d.length cy) (.int .i64 (b.n : Int))
    refine bodyPost_ret (results_cell_tmp rfl _ _ (w.heap.size + 1) 112 _ (0, 0) _ rfl hz Try.underlying112 rfl size_fd) rfl ?_
    exact HF.out
end Jn
end Go.Proofs.Ytmdpmpfjldgalaa

/- The reference's journal in memory. -/
namespace Go.Proofs.Ytmdpmpfjldgalaa
open Go.RowKit
namespace Jn
open Dk Wi Wr

theorem size_jr : (Try.prog.info? 46).map (·.size) = some 9 := by kernel_rfl
theorem heap_set9 {w : World} {R : Nat} {a b c d e f g h i : Value} {t : TypeId} (k : w.heap[R]? = some (.cells #[a, b, c, d, e, f, g, h, i] t (0, 0))) (a' b' c' d' e' f' g' h' i' : Value) :
    (((((((((w.setCell ⟨R, 0, none⟩ a').setCell ⟨R, 1, none⟩ b').setCell ⟨R, 2, none⟩ c').setCell ⟨R, 3, none⟩ d').setCell ⟨R, 4, none⟩ e').setCell ⟨R, 5, none⟩ f').setCell ⟨R, 6, none⟩ g').setCell ⟨R, 7, none⟩ h').setCell ⟨R, 8, none⟩ i').heap[R]? = some (.cells #[a', b', c', d', e', f', g', h', i'] t (0, 0)) := by
  have k1 : (w.setCell ⟨R, 0, none⟩ a').heap[R]? = some (.cells #[a', b, c, d, e, f, g, h, i] t (0, 0)) := heap_setCell_same _ _ _ _ _ _ k
  have k2 : ((w.setCell ⟨R, 0, none⟩ a').setCell ⟨R, 1, none⟩ b').heap[R]? = some (.cells #[a', b', c, d, e, f, g, h, i] t (0, 0)) := heap_setCell_same _ _ _ _ _ _ k1
  have k3 : (((w.setCell ⟨R, 0, none⟩ a').setCell ⟨R, 1, none⟩ b').setCell ⟨R, 2, none⟩ c').heap[R]? = some (.cells #[a', b', c', d, e, f, g, h, i] t (0, 0)) := heap_setCell_same _ _ _ _ _ _ k2
  have k4 : ((((w.setCell ⟨R, 0, none⟩ a').setCell ⟨R, 1, none⟩ b').setCell ⟨R, 2, none⟩ c').setCell ⟨R, 3, none⟩ d').heap[R]? = some (.cells #[a', b', c', d', e, f, g, h, i] t (0, 0)) := heap_setCell_same _ _ _ _ _ _ k3
  have k5 : (((((w.setCell ⟨R, 0, none⟩ a').setCell ⟨R, 1, none⟩ b').setCell ⟨R, 2, none⟩ c').setCell ⟨R, 3, none⟩ d').setCell ⟨R, 4, none⟩ e').heap[R]? = some (.cells #[a', b', c', d', e', f, g, h, i] t (0, 0)) := heap_setCell_same _ _ _ _ _ _ k4
  have k6 : ((((((w.setCell ⟨R, 0, none⟩ a').setCell ⟨R, 1, none⟩ b').setCell ⟨R, 2, none⟩ c').setCell ⟨R, 3, none⟩ d').setCell ⟨R, 4, none⟩ e').setCell ⟨R, 5, none⟩ f').heap[R]? = some (.cells #[a', b', c', d', e', f', g, h, i] t (0, 0)) := heap_setCell_same _ _ _ _ _ _ k5
  have k7 : (((((((w.setCell ⟨R, 0, none⟩ a').setCell ⟨R, 1, none⟩ b').setCell ⟨R, 2, none⟩ c').setCell ⟨R, 3, none⟩ d').setCell ⟨R, 4, none⟩ e').setCell ⟨R, 5, none⟩ f').setCell ⟨R, 6, none⟩ g').heap[R]? = some (.cells #[a', b', c', d', e', f', g', h, i] t (0, 0)) := heap_setCell_same _ _ _ _ _ _ k6
  have k8 : ((((((((w.setCell ⟨R, 0, none⟩ a').setCell ⟨R, 1, none⟩ b').setCell ⟨R, 2, none⟩ c').setCell ⟨R, 3, none⟩ d').setCell ⟨R, 4, none⟩ e').setCell ⟨R, 5, none⟩ f').setCell ⟨R, 6, none⟩ g').setCell ⟨R, 7, none⟩ h').heap[R]? = some (.cells #[a', b', c', d', e', f', g', h', i] t (0, 0)) := heap_setCell_same _ _ _ _ _ _ k7
  have k9 : (((((((((w.setCell ⟨R, 0, none⟩ a').setCell ⟨R, 1, none⟩ b').setCell ⟨R, 2, none⟩ c').setCell ⟨R, 3, none⟩ d').setCell ⟨R, 4, none⟩ e').setCell ⟨R, 5, none⟩ f').setCell ⟨R, 6, none⟩ g').setCell ⟨R, 7, none⟩ h').setCell ⟨R, 8, none⟩ i').heap[R]? = some (.cells #[a', b', c', d', e', f', g', h', i'] t (0, 0)) := heap_setCell_same _ _ _ _ _ _ k8
  exact k9
theorem chg_set9 (w : World) (R : Nat) (a' b' c' d' e' f' g' h' i' : Value) : Chg [R] w (((((((((w.setCell ⟨R, 0, none⟩ a').setCell ⟨R, 1, none⟩ b').setCell ⟨R, 2, none⟩ c').setCell ⟨R, 3, none⟩ d').setCell ⟨R, 4, none⟩ e').setCell ⟨R, 5, none⟩ f').setCell ⟨R, 6, none⟩ g').setCell ⟨R, 7, none⟩ h').setCell ⟨R, 8, none⟩ i') :=
  (((((((((Chg.refl [R] w).setCell (p := ⟨R, 0, none⟩) (.inl List.mem_cons_self) a').setCell (p := ⟨R, 1, none⟩) (.inl List.mem_cons_self) b').setCell (p := ⟨R, 2, none⟩) (.inl List.mem_cons_self) c').setCell (p := ⟨R, 3, none⟩) (.inl List.mem_cons_self) d').setCell (p := ⟨R, 4, none⟩) (.inl List.mem_cons_self) e').setCell (p := ⟨R, 5, none⟩) (.inl List.mem_cons_self) f').setCell (p := ⟨R, 6, none⟩) (.inl List.mem_cons_self) g').setCell (p := ⟨R, 7, none⟩) (.inl List.mem_cons_self) h').setCell (p := ⟨R, 8, none⟩) (.inl List.mem_cons_self) i'

/-- the reference's journal: a value -/
def jval (D : St) (A : Option Addr) (ca : Nat) (X : Option Addr) (pl cx : Nat) (j : Jr) (sa : Option Addr) (sc : Nat) (ra : Option Addr) (rl rc : Nat) : Value :=
  .agg #[.slice A (64 * D.n) ca, .slice X pl cx, .bool D.x, .int .i64 D.f, .int .i64 (j.t : Int), .slice sa j.s.length sc, .slice ra rl rc, .int .i64 (j.e : Int), .bool j.x]
structure IsV' (w : World) (N : List Nat) (D : St) (j : Jr) (A : Option Addr) (ca : Nat) (X : Option Addr) (cx : Nat) (P : List Pm) (sa : Option Addr) (sc : Nat) (ra : Option Addr) (rc : Nat) (ms : List Rm) : Prop where
  k : IsK' w N D A ca X cx P
  st : InR w N ⟨sa, sc, j.s⟩
  rr : RsR w N ra rc ms
  rs : j.rs = ms.map (·.d)
  ok : j.ok (half D)
def IsV (w : World) (N : List Nat) (v : Value) (D : St) (j : Jr) : Prop :=
  ∃ A ca X cx P sa sc ra rc ms, v = jval D A ca X P.length cx j sa sc ra ms.length rc ∧ IsV' w N D j A ca X cx P sa sc ra rc ms
theorem IsV'.kept {w w' : World} {N : List Nat} {D : St} {j : Jr} {A : Option Addr} {ca : Nat} {X : Option Addr} {cx : Nat} {P : List Pm} {sa : Option Addr} {sc : Nat} {ra : Option Addr} {rc : Nat} {ms : List Rm}
    (h : IsV' w N D j A ca X cx P sa sc ra rc ms) (k : Kept N w w') : IsV' w' N D j A ca X cx P sa sc ra rc ms := ⟨h.k.kept' k, h.st.kept k, h.rr.kept k, h.rs, h.ok⟩
theorem IsV.kept {w w' : World} {N : List Nat} {v : Value} {D : St} {j : Jr} (h : IsV w N v D j) (k : Kept N w w') : IsV w' N v D j := by
  obtain ⟨A, ca, X, cx, P, sa, sc, ra, rc, ms, hv, h⟩ := h
  exact ⟨A, ca, X, cx, P, sa, sc, ra, rc, ms, hv, h.kept k⟩
theorem IsV.nl {w : World} {N : List Nat} {v : Value} {D : St} {j : Jr} (h : IsV w N v D j) : ∀ x ∈ N, x < w.heap.size := by
  obtain ⟨A, ca, X, cx, P, sa, sc, ra, rc, ms, hv, h⟩ := h; exact h.k.nl
theorem IsV.below {w w' : World} {N : List Nat} {v : Value} {D : St} {j : Jr} (h : IsV w N v D j) (hb : Below w.heap.size w w') : IsV w' N v D j := h.kept (Kept.of_below h.nl hb)
theorem _root_.Go.Proofs.Ytmdpmpfjldgalaa.Dk.IsK'.sub {w : World} {N N' : List Nat} {D : St} {A : Option Addr} {ca : Nat} {X : Option Addr} {cx : Nat} {P : List Pm} (h : IsK' w N D A ca X cx P) (hs : ∀ x ∈ N, x ∈ N') (hl : ∀ x ∈ N', x < w.heap.size) : IsK' w N' D A ca X cx P :=
  ⟨h.du, h.pe, h.pd, h.pr, h.ok, h.c1, h.c2, h.c3, h.c4, fun b off e => hs b (h.na b off e), fun hp b off e => hs b (h.nx hp b off e), fun m hm hp b off e => hs b (h.nm m hm hp b off e), hl⟩

/-- block jb holds a journal of the reference while it is loaded -/
structure IsRJ (w : World) (jb : Nat) (R : List Nat) (h : Nat) (c0 c1 c2 c3 : Value) (j : Jr) (sa : Option Addr) (sc : Nat) (ra : Option Addr) (rc : Nat) (ms : List Rm) : Prop where
  hd : w.heap[jb]? = some (.cells #[c0, c1, c2, c3, .int .i64 (j.t : Int), .slice sa j.s.length sc, .slice ra ms.length rc, .int .i64 (j.e : Int), .bool j.x] 46 (0, 0))
  st : InR w R ⟨sa, sc, j.s⟩
  own : w.ownsRow 0 29 1 (.slice ra ms.length rc) ms.length (ms.map rval)
  ob : ∀ b, (Value.slice ra ms.length rc).ownBlock = some b → jb < b ∧ b ∉ R
  rd : ∀ m ∈ ms, InR w R m
  rs : j.rs = ms.map (·.d)
  gr : jb ∉ R
  rl : ∀ x ∈ R, x < w.heap.size
  ok : j.ok h
section
variable {w w' w1 : World} {jb h sc rc : Nat} {R S : List Nat} {j : Jr} {sa ra : Option Addr} {ms : List Rm} {c0 c1 c2 c3 : Value}
theorem IsRJ.chg (k : IsRJ w jb R h c0 c1 c2 c3 j sa sc ra rc ms) (hc : Chg S w w') (hg : jb ∉ S) (hb : ∀ b, (Value.slice ra ms.length rc).ownBlock = some b → b ∉ S) (hS : ∀ x ∈ S, x ∉ R) : IsRJ w' jb R h c0 c1 c2 c3 j sa sc ra rc ms :=
  ⟨hc.blk k.hd hg, k.st.chg hc hS, hc.own k.own hb, k.ob, fun m hm => (k.rd m hm).chg hc hS, k.rs, k.gr, fun x hx => Nat.lt_of_lt_of_le (k.rl x hx) hc.size, k.ok⟩
theorem IsRJ.below (k : IsRJ w jb R h c0 c1 c2 c3 j sa sc ra rc ms) (hb : Below w.heap.size w w') : IsRJ w' jb R h c0 c1 c2 c3 j sa sc ra rc ms :=
  k.chg (Chg.of_below hb []) (by simp) (by simp) (by simp)
theorem IsRJ.push {ra' : Option Addr} {rc' e' : Nat} {R' : List Nat} (k : IsRJ w jb R h c0 c1 c2 c3 j sa sc ra rc ms) (m : Rm) (hm : InR w R' m) (hR : ∀ x ∈ R, x ∈ R') (hg : jb ∉ R') (hb : ∀ b, (Value.slice ra ms.length rc).ownBlock = some b → b ∉ R') (hl : ∀ x ∈ R', x < w.heap.size)
    (hA : App w (.slice ra ms.length rc) w1 (.slice ra' (ms.length + 1) rc')) (ho : w1.ownsRow 0 29 1 (.slice ra' (ms.length + 1) rc') (ms.length + 1) (ms.map rval ++ [rval m])) (he : e' ≤ h) (hr : ms.length + 1 ≤ e') (hd : m.d.length ≤ 64 * h) :
    IsRJ ((w1.setCell ⟨jb, 6, none⟩ (.slice ra' (ms.length + 1) rc')).setCell ⟨jb, 7, none⟩ (.int .i64 (e' : Int))) jb R' h c0 c1 c2 c3 { j with rs := j.rs ++ [m.d], e := e' } sa sc ra' rc' (ms ++ [m]) := by
  have hgl := (Array.getElem?_eq_some_iff.1 k.hd).1
  have hc1 : Chg (Value.slice ra ms.length rc).ownBlock.toList w w1 := hA.chg (fun b hb => Option.mem_toList.2 hb)
  have hc2 : Chg [jb] w1 ((w1.setCell ⟨jb, 6, none⟩ (.slice ra' (ms.length + 1) rc')).setCell ⟨jb, 7, none⟩ (.int .i64 (e' : Int))) :=
    ((Chg.refl [jb] w1).setCell (p := ⟨jb, 6, none⟩) (.inl (by simp)) _).setCell (p := ⟨jb, 7, none⟩) (.inl (by simp)) _
  have hn1 : ∀ x ∈ (Value.slice ra ms.length rc).ownBlock.toList, x ∉ R' := fun x hx => hb x (by simpa using hx)
  have hn2 : ∀ x ∈ [jb], x ∉ R' := fun x hx => by simp only [List.mem_singleton] at hx; subst hx; exact hg
  have hg1 := hc1.blk k.hd (fun hx => by have := (k.ob jb (by simpa using hx)).1; omega)
  have hml : (ms ++ [m]).length = ms.length + 1 := by simp
  have hmm : (ms ++ [m]).map rval = ms.map rval ++ [rval m] := by simp
  have hob : ∀ b, (Value.slice ra' (ms.length + 1) rc').ownBlock = some b → jb < b ∧ b ∉ R' := by
    intro b hbb
    rcases hA.2 with h2 | ⟨b', h2, h3⟩
    · rw [hbb] at h2
      exact ⟨(k.ob b h2.symm).1, hb b h2.symm⟩
    · rw [hbb] at h2
      injection h2 with h2
      subst h2
      exact ⟨by omega, fun hx => by have := hl _ hx; omega⟩
  refine ⟨?_, ((k.st.sub hR).chg hc1 hn1).chg hc2 hn2, ?_, ?_, fun q hq => ?_, ?_, hg, fun x hx => Nat.lt_of_lt_of_le (hl x hx) (Nat.le_trans hc1.size hc2.size), ?_⟩
  · rw [hml]
    exact heap_setCell_same _ _ _ _ _ _ (heap_setCell_same _ _ _ _ _ _ hg1)
  · rw [hml, hmm]
    exact hc2.own ho (fun b hb' hx => by have := (hob b hb').1; simp only [List.mem_singleton] at hx; omega)
  · rw [hml]; exact hob
  · rcases List.mem_append.1 hq with hq | hq
    · exact (((k.rd q hq).sub hR).chg hc1 hn1).chg hc2 hn2
    · simp only [List.mem_singleton] at hq
      subst hq
      exact (hm.chg hc1 hn1).chg hc2 hn2
  · show j.rs ++ [m.d] = _
    rw [k.rs]; simp
  · refine ⟨k.ok.t1, k.ok.t2, he, ?_, k.ok.s, fun d hd' => ?_⟩
    · show (j.rs ++ [m.d]).length ≤ e'
      rw [k.rs]; simp; exact hr
    · rcases List.mem_append.1 hd' with hd' | hd'
      · exact k.ok.d d hd'
      · simp only [List.mem_singleton] at hd'; subst hd'; exact hd
/-- a value is made of it -/
theorem IsRJ.isV {N : List Nat} {D : St} {A X : Option Addr} {ca cx : Nat} {P : List Pm} (k : IsRJ w jb R (half D) (.slice A (64 * D.n) ca) (.slice X P.length cx) (.bool D.x) (.int .i64 D.f) j sa sc ra rc ms) (hk : IsK' w N D A ca X cx P) :
    IsV w (N ++ (bl ra ++ R)) (jval D A ca X P.length cx j sa sc ra ms.length rc) D j := by
  obtain ⟨_, _, e0, h1, h2, _, h3⟩ := own_form k.own
  cases e0
  have hlt : ∀ x ∈ bl ra, x < w.heap.size := fun x hx => by
    obtain ⟨off, rfl⟩ := mem_bl hx
    exact (k.own.lt x (by simp [Value.ownBlock])).2
  refine ⟨A, ca, X, cx, P, sa, sc, ra, rc, ms, rfl, hk.sub (fun x hx => by simp [hx]) (fun x hx => ?_), k.st.sub (fun x hx => by simp [hx]), ⟨h3, h1, h2, fun _ b off e => by rw [e]; simp [bl], fun m hm => (k.rd m hm).sub (fun x hx => by simp [hx])⟩, k.rs, k.ok⟩
  rcases List.mem_append.1 hx with hx | hx
  · exact hk.nl x hx
  · rcases List.mem_append.1 hx with hx | hx
    · exact hlt x hx
    · exact k.rl x hx
end
end Jn
end Go.Proofs.Ytmdpmpfjldgalaa

/- The walk of the reference's Load. -/
namespace Go.Proofs.Ytmdpmpfjldgalaa
open Go.RowKit
namespace Jn
open Dk Wi Wr

def zero9 : Value := .agg #[.slice none 0 0, .slice none 0 0, .bool false, .int .i64 0, .int .i64 0, .slice none 0 0, .slice none 0 0, .int .i64 0, .bool false]
/-- what the reference's Load leaves -/
def RLoadP (w : World) (N0 : List Nat) (D : St) (k : Nat) (e : Ending) (w' : World) : Prop :=
  Below w.heap.size w w' ∧ ((loadD D k = none ∧ e = .returned (.tuple #[zero9, .bool false])) ∨
    ∃ j v N, loadD D k = some j ∧ e = .returned (.tuple #[v, .bool true]) ∧ IsV w' N v D j ∧ ∀ x ∈ N, x ∈ N0 ∨ w.heap.size ≤ x)
/-- what its loop has -/
def RLoadL (w : World) (c0 c1 c2 c3 : Value) (h : Nat) (H : List UInt8) (x jb : Nat) (F4 : Array Value) (j0 : Jr) (wr : World) : Prop :=
  ∃ j sa sc ra rc ms R, IsRJ wr jb R h c0 c1 c2 c3 j sa sc ra rc ms ∧ loadR H h j = loadR H h j0 ∧ j.t = j0.t ∧ j.x = false ∧
    wr.heap[w.heap.size]? = some (.cells #[c0, c1, c2, c3] 42 (0, 0)) ∧
    wr.heap[w.heap.size + 1]? = some (.cells #[.slice none 0 0, .slice none 0 0, .bool false, .int .i64 0, .int .i64 0, .slice none 0 0, .slice none 0 0, .int .i64 0, .bool false] 46 (0, 0)) ∧ wr.heap[x]? = some (.cells F4 112 (0, 0)) ∧ Below w.heap.size w wr ∧ (∀ y ∈ R, w.heap.size + 1 < y)
def endR (w : World) (jb : Nat) : Nat := (intOf ((w.cell? ⟨jb, 7, none⟩).getD (.int .i64 0))).toNat

set_option maxRecDepth 100000 in
set_option maxHeartbeats 2000000 in
theorem rload_calls (v : Value) (N0 : List Nat) (D : St) (k : Nat) (w : World) (h : IsK w N0 v D) (hk : k < 2) (hx : D.x = false) (hD : D.n ≤ 100) :
    Calls Try.prog 56 #[v, .int .i64 (k : Int)] w (RLoadP w N0 D k) := by
  have HKV := Lib.hid h
  obtain ⟨A, ca, X, cx, P, rfl, h⟩ := h
  have HKK := Lib.hid h
  have HX := Lib.hid hx
  have hq50 : half D ≤ 50 := by unfold half; omega
  have HHL := Lib.hid (halfL_len D k h.ok hk)
  have HLD : Hid (loadD D k = (first0 (halfL D k) k).map (loadR (halfL D k) (half D))) := rfl
  have HAT : ∀ w', Below w.heap.size w w' → ∀ s, s ≤ half D → Hid (Calls Try.prog 72 #[kval D A ca X cx P, .int .i64 (k : Int), .int .i64 (s : Int)] w' (FindP w' ((halfL D k).drop (64 * s)))) := fun w' hb s hs => at_calls _ N0 D k s w' (HKV.out.below hb) hk hs hx hD
  have HHF : ∀ w', Below w.heap.size w w' → Hid (Calls Try.prog 54 #[kval D A ca X cx P] w' fun e w'' => e = .returned (.int .i64 (half D : Int)) ∧ Below w'.heap.size w' w'') := fun w' hb => rhalf_calls _ N0 D w' (HKV.out.below hb)
  unfold kval at HAT HHF ⊢
  have hb2 := below2 w (.cells #[.slice A (64 * D.n) ca, .slice X P.length cx, .bool D.x, .int .i64 D.f] 42) (.cells #[.slice none 0 0, .slice none 0 0, .bool false, .int .i64 0, .int .i64 0, .slice none 0 0, .slice none 0 0, .int .i64 0, .bool false] 46)
  have hk0 : ((w.alloc (.cells #[.slice A (64 * D.n) ca, .slice X P.length cx, .bool D.x, .int .i64 D.f] 42)).alloc (.cells #[.slice none 0 0, .slice none 0 0, .bool false, .int .i64 0, .int .i64 0, .slice none 0 0, .slice none 0 0, .int .i64 0, .bool false] 46)).heap[w.heap.size]? = _ := (Below.heap_alloc _ _ _ (by simp)).trans (heap_alloc_new _ _)
  have hk1 : ((w.alloc (.cells #[.slice A (64 * D.n) ca, .slice X P.length cx, .bool D.x, .int .i64 D.f] 42)).alloc (.cells #[.slice none 0 0, .slice none 0 0, .bool false, .int .i64 0, .int .i64 0, .slice none 0 0, .slice none 0 0, .int .i64 0, .bool false] 46)).heap[w.heap.size + 1]? = _ := heap_alloc2_new _ _ _
  obtain ⟨w2, HW2⟩ : ∃ x, Hid ((w.alloc (.cells #[.slice A (64 * D.n) ca, .slice X P.length cx, .bool D.x, .int .i64 D.f] 42)).alloc (.cells #[.slice none 0 0, .slice none 0 0, .bool false, .int .i64 0, .int .i64 0, .slice none 0 0, .slice none 0 0, .int .i64 0, .bool false] 46) = x) := ⟨_, rfl⟩
  rw [HW2.out] at hb2 hk0 hk1
  have HB2 := Lib.hid hb2
  have HK0 := Lib.hid hk0
  have HK1 := Lib.hid hk1
  have hs2 : w.heap.size + 1 < w2.heap.size := (Array.getElem?_eq_some_iff.1 hk1).1
  have HA0 := Lib.hid (HAT w2 hb2 0 (Nat.zero_le _)).out
  rw [show 64 * 0 = 0 from rfl, List.drop_zero, show ((0 : Nat) : Int) = 0 from rfl] at HA0
  clear h hx hb2 hk0 hk1
  obtain ⟨q, HQ⟩ : ∃ x, Hid (half D = x) := ⟨_, rfl⟩
  obtain ⟨H, HH⟩ : ∃ x, Hid (halfL D k = x) := ⟨_, rfl⟩
  obtain ⟨N, HN⟩ : ∃ x, Hid (64 * D.n = x) := ⟨_, rfl⟩
  obtain ⟨pl, HPL⟩ : ∃ x, Hid (P.length = x) := ⟨_, rfl⟩
  rw [HQ.out] at hq50 HHL HHF HAT HLD
  rw [HH.out] at HHL HAT HA0 HLD
  rw [HN.out, HPL.out] at HHF HAT HA0 HW2 HK0 ⊢
  have rc0 : w2.cell? ⟨w.heap.size, 0, none⟩ = some _ := (cell_of_row _ _ 0 _ _ _ HK0.out).trans rfl; have rc1 : w2.cell? ⟨w.heap.size, 1, none⟩ = some _ := (cell_of_row _ _ 1 _ _ _ HK0.out).trans rfl; have rc2 : w2.cell? ⟨w.heap.size, 2, none⟩ = some _ := (cell_of_row _ _ 2 _ _ _ HK0.out).trans rfl; have rc3 : w2.cell? ⟨w.heap.size, 3, none⟩ = some _ := (cell_of_row _ _ 3 _ _ _ HK0.out).trans rfl
  go_enter Try.func56, Try.ntmps56
  go_upto_region 1 with (fail)
  rw [HW2.out]
  go_wp2_with fail
  (with_reducible refine HA0.out.mono ?_)
  rintro e w3 ⟨hb3, hp3⟩
  have HB3 := Lib.hid (HB2.out.trans (hb3.mono HB2.out.size))
  have HK03 := Lib.hid ((hb3.block _ (by omega)).trans HK0.out)
  have HK13 := Lib.hid ((hb3.block _ (by omega)).trans HK1.out)
  have hs3 : w.heap.size + 1 < w3.heap.size := Nat.lt_of_lt_of_le hs2 hb3.size
  have hs23 := hb3.size
  clear rc0 rc1 rc2 rc3 HA0 hb3
  rcases hp3 with ⟨h0, rfl⟩ | ⟨b, Y, cy, h0, rfl, hy, hyc, hym, hyb⟩
  · have HF : Hid (∀ w', Below w.heap.size w w' → RLoadP w N0 D k (.returned (.tuple #[zero9, .bool false])) w') := fun w' hb => ⟨hb, .inl ⟨by rw [HLD.out]; unfold first0; rw [h0]; rfl, rfl⟩⟩
    unfold zero9 at HF
    have hb4 := below1 w3 (.cells #[.int .i64 0, .int .i64 0, .slice none 0 0, .int .i64 0] 112)
    clear h0 HAT HHF
    go_upto_region 2 with (fail)
    generalize w3.alloc (.cells #[.int .i64 0, .int .i64 0, .slice none 0 0, .int .i64 0] 112) = w4 at *
    have HZ := Lib.hid ((hb4.block _ hs3).trans HK13.out)
    have HB4 := Lib.hid (HB3.out.trans (hb4.mono HB3.out.size))
    have zc0 : w4.cell? ⟨w.heap.size + 1, 0, none⟩ = some _ := (cell_of_row _ _ 0 _ _ _ HZ.out).trans rfl; have zf0 : w4.frozen? ⟨w.heap.size + 1, 0, none⟩ = false := frozen_of_row _ _ _ _ _ HZ.out; have zc1 : w4.cell? ⟨w.heap.size + 1, 1, none⟩ = some _ := (cell_of_row _ _ 1 _ _ _ HZ.out).trans rfl; have zf1 : w4.frozen? ⟨w.heap.size + 1, 1, none⟩ = false := frozen_of_row _ _ _ _ _ HZ.out; have zc2 : w4.cell? ⟨w.heap.size + 1, 2, none⟩ = some _ := (cell_of_row _ _ 2 _ _ _ HZ.out).trans rfl; have zf2 : w4.frozen? ⟨w.heap.size + 1, 2, none⟩ = false := frozen_of_row _ _ _ _ _ HZ.out; have zc3 : w4.cell? ⟨w.heap.size + 1, 3, none⟩ = some _ := (cell_of_row _ _ 3 _ _ _ HZ.out).trans rfl; have zf3 : w4.frozen? ⟨w.heap.size + 1, 3, none⟩ = false := frozen_of_row _ _ _ _ _ HZ.out; have zc4 : w4.cell? ⟨w.heap.size + 1, 4, none⟩ = some _ := (cell_of_row _ _ 4 _ _ _ HZ.out).trans rfl; have zf4 : w4.frozen? ⟨w.heap.size + 1, 4, none⟩ = false := frozen_of_row _ _ _ _ _ HZ.out; have zc5 : w4.cell? ⟨w.heap.size + 1, 5, none⟩ = some _ := (cell_of_row _ _ 5 _ _ _ HZ.out).trans rfl; have zf5 : w4.frozen? ⟨w.heap.size + 1, 5, none⟩ = false := frozen_of_row _ _ _ _ _ HZ.out; have zc6 : w4.cell? ⟨w.heap.size + 1, 6, none⟩ = some _ := (cell_of_row _ _ 6 _ _ _ HZ.out).trans rfl; have zf6 : w4.frozen? ⟨w.heap.size + 1, 6, none⟩ = false := frozen_of_row _ _ _ _ _ HZ.out; have zc7 : w4.cell? ⟨w.heap.size + 1, 7, none⟩ = some _ := (cell_of_row _ _ 7 _ _ _ HZ.out).trans rfl; have zf7 : w4.frozen? ⟨w.heap.size + 1, 7, none⟩ = false := frozen_of_row _ _ _ _ _ HZ.out; have zc8 : w4.cell? ⟨w.heap.size + 1, 8, none⟩ = some _ := (cell_of_row _ _ 8 _ _ _ HZ.out).trans rfl; have zf8 : w4.frozen? ⟨w.heap.size + 1, 8, none⟩ = false := frozen_of_row _ _ _ _ _ HZ.out
    clear hb4
    go_wp2_with fail
    have hz := heap_set9 HZ.out (.slice none 0 0) (.slice none 0 0) (.bool false) (.int .i64 0) (.int .i64 0) (.slice none 0 0) (.slice none 0 0) (.int .i64 0) (.bool false)
    have hc := chg_set9 w4 (w.heap.size + 1) (.slice none 0 0) (.slice none 0 0) (.bool false) (.int .i64 0) (.int .i64 0) (.slice none 0 0) (.slice none 0 0) (.int .i64 0) (.bool false)
    refine bodyPost_ret (results_cell_tmp rfl _ _ (w.heap.size + 1) 46 _ (0, 0) _ rfl hz Try.underlying46 rfl size_jr) rfl ?_
    exact HF.out _ (HB4.out.trans (hc.below HB4.out.size (by simp)))
  · obtain ⟨p1, p2, p3, p4, p5, p6⟩ := parseB_ok H b h0
    have HF0 : Hid (¬ (b.i = 0 ∧ b.t % 2 = k) → ∀ w', Below w.heap.size w w' → RLoadP w N0 D k (.returned (.tuple #[zero9, .bool false])) w') := fun hne w' hb => ⟨hb, .inl ⟨by rw [HLD.out]; unfold first0; rw [h0]; simp only; rw [if_neg hne]; rfl, rfl⟩⟩
    have HLS : Hid (b.i = 0 → b.t % 2 = k → loadD D k = some (loadR H q ⟨b.t, b.d, [], b.n, false⟩)) := by
      intro ci ct
      rw [HLD.out]; unfold first0; rw [h0]; simp only; rw [if_pos ⟨ci, ct⟩]; rfl
    have HYY := Lib.hid hy
    have HYB := Lib.hid hyb
    clear h0 hy hyb
    obtain ⟨bt, bi, bd, bn⟩ := b
    simp only at *
    have hb4 := below1 w3 (.cells #[.int .i64 (bt : Int), .int .i64 (bi : Int), .slice Y bd.length cy, .int .i64 (bn : Int)] 112)
    have hx4 := heap_alloc_new w3 (.cells #[.int .i64 (bt : Int), .int .i64 (bi : Int), .slice Y bd.length cy, .int .i64 (bn : Int)] 112)
    go_upto_region 2 with (fail)
    generalize w3.alloc (.cells #[.int .i64 (bt : Int), .int .i64 (bi : Int), .slice Y bd.length cy, .int .i64 (bn : Int)] 112) = w4 at *
    have HX4 := Lib.hid hx4
    have HZ := Lib.hid ((hb4.block _ hs3).trans HK13.out)
    have HK04 := Lib.hid ((hb4.block _ (by omega)).trans HK03.out)
    have HB4 := Lib.hid (HB3.out.trans (hb4.mono HB3.out.size))
    have hs4 : w3.heap.size < w4.heap.size := (Array.getElem?_eq_some_iff.1 hx4).1
    have HYY4 := Lib.hid (RB.below HYY.out hb4)
    obtain ⟨x, HXX⟩ : ∃ y, Hid (w3.heap.size = y) := ⟨_, rfl⟩
    rw [HXX.out] at HX4 hs4 ⊢
    have hwx : w.heap.size + 1 < x := by rw [← HXX.out]; exact hs3
    have xc0 : w4.cell? ⟨x, 0, none⟩ = some _ := (cell_of_row _ _ 0 _ _ _ HX4.out).trans rfl; have xc1 : w4.cell? ⟨x, 1, none⟩ = some _ := (cell_of_row _ _ 1 _ _ _ HX4.out).trans rfl; have xc2 : w4.cell? ⟨x, 2, none⟩ = some _ := (cell_of_row _ _ 2 _ _ _ HX4.out).trans rfl; have xc3 : w4.cell? ⟨x, 3, none⟩ = some _ := (cell_of_row _ _ 3 _ _ _ HX4.out).trans rfl
    clear hb4 hx4 HYY
    by_cases ci : bi = 0
    · by_cases ct : bt % 2 = k
      · have d1 : ((bi : Int) != 0) = false := by rw [bne_eq_false_iff_eq]; omega
        have d2 : (((bt : Int) % 2) != (k : Int)) = false := by rw [bne_eq_false_iff_eq]; omega
        have HL := Lib.hid (HLS.out ci ct)
        have hH : H.length = 64 * q := HHL.out
        have hbn : bn ≤ q := by omega
        have hbl : bd.length ≤ 64 * q := by omega
        have rc0 : w4.cell? ⟨w.heap.size, 0, none⟩ = some _ := (cell_of_row _ _ 0 _ _ _ HK04.out).trans rfl; have rc1 : w4.cell? ⟨w.heap.size, 1, none⟩ = some _ := (cell_of_row _ _ 1 _ _ _ HK04.out).trans rfl; have rc2 : w4.cell? ⟨w.heap.size, 2, none⟩ = some _ := (cell_of_row _ _ 2 _ _ _ HK04.out).trans rfl; have rc3 : w4.cell? ⟨w.heap.size, 3, none⟩ = some _ := (cell_of_row _ _ 3 _ _ _ HK04.out).trans rfl
        clear HLS HF0 p5 p6 ci ct
        have hb5 := below1 w4 (.cells #[.slice A N ca, .slice X pl cx, .bool D.x, .int .i64 D.f, .int .i64 (bt : Int), .slice Y bd.length cy, .slice none 0 0, .int .i64 (bn : Int), .bool false] 46)
        have hj5 := heap_alloc_new w4 (.cells #[.slice A N ca, .slice X pl cx, .bool D.x, .int .i64 D.f, .int .i64 (bt : Int), .slice Y bd.length cy, .slice none 0 0, .int .i64 (bn : Int), .bool false] 46)
        have hblY : ∀ y ∈ bl Y, w.heap.size + 1 < y ∧ y < w3.heap.size := fun y hy => by
          obtain ⟨off, rfl⟩ := mem_bl hy
          have := HYB.out _ _ rfl
          omega
        have HJ0 : Hid (RLoadL w (.slice A N ca) (.slice X pl cx) (.bool D.x) (.int .i64 D.f) q H x w4.heap.size #[.int .i64 (bt : Int), .int .i64 (bi : Int), .slice Y bd.length cy, .int .i64 (bn : Int)] ⟨bt, bd, [], bn, false⟩ (w4.alloc (.cells #[.slice A N ca, .slice X pl cx, .bool D.x, .int .i64 D.f, .int .i64 (bt : Int), .slice Y bd.length cy, .slice none 0 0, .int .i64 (bn : Int), .bool false] 46))) := by
          refine ⟨⟨bt, bd, [], bn, false⟩, Y, cy, none, 0, [], bl Y, ⟨hj5, ⟨RB.below HYY4.out hb5, hyc, hym, fun _ b off e => by rw [show Y = _ from e]; exact bl_mem⟩, ⟨rfl, .inl ⟨rfl, rfl⟩⟩, fun b hb => (by cases hb), fun m hm => (by cases hm), rfl, fun hm => (by have := hblY _ hm; rw [HXX.out] at this; omega), fun y hy => (by have := hblY y hy; have := hb5.size; rw [HXX.out] at *; omega), ⟨p1, p2, hbn, Nat.zero_le _, hbl, fun d hd => (by cases hd)⟩⟩, rfl, rfl, rfl,
            (hb5.block _ (by omega)).trans HK04.out, (hb5.block _ (by omega)).trans HZ.out, (hb5.block _ hs4).trans HX4.out, HB4.out.trans (hb5.mono HB4.out.size), fun y hy => (hblY y hy).1⟩
        have HHN := Lib.hid hH
        have hwj : w.heap.size + 1 < w4.heap.size := by omega
        go_wp2_with fail
        generalize w4.alloc (.cells #[.slice A N ca, .slice X pl cx, .bool D.x, .int .i64 D.f, .int .i64 (bt : Int), .slice Y bd.length cy, .slice none 0 0, .int .i64 (bn : Int), .bool false] 46) = w5 at *
        clear hb5 hj5 hblY hH HYY4 rc0 rc1 rc2 rc3 xc0 xc1 xc2 xc3 d1 d2 p1 p2 p4 hbl hyc hym HYB HB3 HK03 HK13 HZ HK04 HX4
        obtain ⟨jb, HJBB⟩ : ∃ y, Hid (w4.heap.size = y) := ⟨_, rfl⟩
        rw [HJBB.out] at HJ0 hs4 hwj ⊢
        have HFIN : Hid (∀ j sa sc ra rc ms R wr w'', IsRJ wr jb R q (.slice A N ca) (.slice X pl cx) (.bool D.x) (.int .i64 D.f) j sa sc ra rc ms → loadR H q j = loadR H q ⟨bt, bd, [], bn, false⟩ → stepL H q j = none → (∀ y ∈ R, w.heap.size + 1 < y) → Below w.heap.size w wr → Chg [w.heap.size + 1] wr w'' →
            RLoadP w N0 D k (.returned (.tuple #[.agg #[.slice A N ca, .slice X pl cx, .bool D.x, .int .i64 D.f, .int .i64 (j.t : Int), .slice sa j.s.length sc, .slice ra ms.length rc, .int .i64 (j.e : Int), .bool j.x], .bool true])) w'') := by
          intro j sa sc ra rc ms R wr w'' hj hlo hst hR hb hc
          have hb' := hb.trans (hc.below hb.size (by simp))
          refine ⟨hb', .inr ⟨j, _, _, ?_, ?_, IsRJ.isV (A := A) (X := X) (ca := ca) (cx := cx) (P := P) (D := D) (sa := sa) (sc := sc) (ra := ra) (rc := rc) (ms := ms) (jb := jb) (R := R) (j := j) ?_ (HKK.out.below hb'), fun y hy => ?_⟩⟩
          · rw [HL.out, ← hlo, loadR_none hst]
          · unfold jval
            rw [HN.out, HPL.out]
          · rw [HN.out, HPL.out, HQ.out]
            refine hj.chg hc (by simp; omega) (fun b hb' hm => ?_) (fun y hy hm => ?_)
            · have := (hj.ob b hb').1; simp only [List.mem_singleton] at hm; omega
            · simp only [List.mem_singleton] at hy; have := hR y hm; omega
          · rcases List.mem_append.1 hy with hy | hy
            · exact .inl hy
            · rcases List.mem_append.1 hy with hy | hy
              · obtain ⟨off, rfl⟩ := mem_bl hy
                have := (hj.ob y (by simp [Value.ownBlock])).1
                exact .inr (by omega)
              · have := hR y hy; exact .inr (by omega)
        clear HL HB2 HK0 HK1 HW2
        go_loopw [10] (fun _ wr => RLoadL w (.slice A N ca) (.slice X pl cx) (.bool D.x) (.int .i64 D.f) q H x jb #[.int .i64 (bt : Int), .int .i64 (bi : Int), .slice Y bd.length cy, .int .i64 (bn : Int)] ⟨bt, bd, [], bn, false⟩ wr) (fun _ wr => q - endR wr jb)
        case atStart => exact HJ0.out
        case round =>
          obtain ⟨j, sa, sc, ra, rc, ms, R, hj, hlo, hjt, hjx, hr0, hr1, hrx, hbb, hR⟩ := hrel
          have HJ := Lib.hid hj
          have HLO := Lib.hid hlo
          have HR0 := Lib.hid hr0
          have HR1 := Lib.hid hr1
          have HRX := Lib.hid hrx
          have HBB := Lib.hid hbb
          have HJD := Lib.hid hj.hd
          have HJT : Hid (j.t = bt) := hjt
          have HMS : Hid (ms.length = j.rs.length) := by show _ = _; rw [hj.rs]; simp
          have hje := hj.ok.e
          have hmq : ms.length ≤ 50 := by have h1 := hj.ok.r; have h2 := HMS.out; omega
          have hjb : jb < wr.heap.size := (Array.getElem?_eq_some_iff.1 hj.hd).1
          have hxw : x < wr.heap.size := (Array.getElem?_eq_some_iff.1 hrx).1
          have hsw := hbb.size
          have HEND : Hid (endR wr jb = j.e) := by
            show endR wr jb = _
            unfold endR
            rw [cell_of_row _ _ 7 _ _ _ HJD.out]
            simp [intOf]
          clear hj hlo hr0 hr1 hrx hbb
          have HSTP : Hid (∀ wr' w'', Below wr.heap.size wr wr' → stepL H q j = none → Chg [w.heap.size + 1] wr' w'' → RLoadP w N0 D k (.returned (.tuple #[.agg #[.slice A N ca, .slice X pl cx, .bool D.x, .int .i64 D.f, .int .i64 (j.t : Int), .slice sa j.s.length sc, .slice ra ms.length rc, .int .i64 (j.e : Int), .bool j.x], .bool true])) w'') :=
            fun wr' w'' hb hs hc => HFIN.out j sa sc ra rc ms R wr' w'' (HJ.out.below hb) HLO.out hs hR (HBB.out.trans (hb.mono HBB.out.size)) hc
          obtain ⟨je, HJE⟩ : ∃ y, Hid (j.e = y) := ⟨_, rfl⟩
          obtain ⟨jt, HJTT⟩ : ∃ y, Hid (j.t = y) := ⟨_, rfl⟩
          obtain ⟨sl, HSL⟩ : ∃ y, Hid (j.s.length = y) := ⟨_, rfl⟩
          obtain ⟨ml, HML⟩ : ∃ y, Hid (ms.length = y) := ⟨_, rfl⟩
          rw [HJE.out, HJTT.out, HSL.out, HML.out, hjx] at HSTP HJD
          rw [HJE.out] at HEND hje
          rw [HML.out] at hmq HMS
          have r0 : ∀ w', Below wr.heap.size wr w' → w'.cell? ⟨w.heap.size, 0, none⟩ = some (.slice A N ca) := fun w' h => (cell_of_row _ _ 0 _ _ _ ((h.block _ (by omega)).trans HR0.out)).trans rfl
          have r1 : ∀ w', Below wr.heap.size wr w' → w'.cell? ⟨w.heap.size, 1, none⟩ = some (.slice X pl cx) := fun w' h => (cell_of_row _ _ 1 _ _ _ ((h.block _ (by omega)).trans HR0.out)).trans rfl
          have r2 : ∀ w', Below wr.heap.size wr w' → w'.cell? ⟨w.heap.size, 2, none⟩ = some (.bool D.x) := fun w' h => (cell_of_row _ _ 2 _ _ _ ((h.block _ (by omega)).trans HR0.out)).trans rfl
          have r3 : ∀ w', Below wr.heap.size wr w' → w'.cell? ⟨w.heap.size, 3, none⟩ = some (.int .i64 D.f) := fun w' h => (cell_of_row _ _ 3 _ _ _ ((h.block _ (by omega)).trans HR0.out)).trans rfl
          have l7 : ∀ w', Below wr.heap.size wr w' → w'.cell? ⟨jb, 7, none⟩ = some (.int .i64 (je : Int)) := fun w' h => (cell_of_row _ _ 7 _ _ _ ((h.block _ hjb).trans HJD.out)).trans rfl
          have HHF2 : ∀ w', Below wr.heap.size wr w' → Hid (Calls Try.prog 54 #[.agg #[.slice A N ca, .slice X pl cx, .bool D.x, .int .i64 D.f]] w' fun e w'' => e = .returned (.int .i64 (q : Int)) ∧ Below wr.heap.size wr w'') := fun w' hb =>
            (HHF w' (HBB.out.trans (hb.mono HBB.out.size))).out.mono fun e w'' ⟨a, b⟩ => ⟨a, hb.trans (b.mono hb.size)⟩
          by_cases hlt : je < q
          · have d1 : decide ((je : Int) < (q : Int)) = true := by simp; omega
            have d1' : decide (je < q) = true := by simpa using hlt
            go_upto_region 5 with (fail)
            go_region_held3 (fun w' => Below wr.heap.size wr w') (first | exact (Below.refl _ _).drew | assumption) ((go_at_call 54; (with_reducible refine (HHF2 _ (by assumption)).out.mono ?_); rintro e w6 ⟨rfl, hb6⟩))
            have hb6' : Below wr.heap.size wr w6 := by assumption
            have q0 := r0 w6 hb6'
            have q1 := r1 w6 hb6'
            have q2 := r2 w6 hb6'
            have q3 := r3 w6 hb6'
            have q7 := l7 w6 hb6'
            have HB6 := Lib.hid hb6'
            have HLT := Lib.hid hlt
            have HA6 := Lib.hid (HAT w6 (HBB.out.trans (hb6'.mono HBB.out.size)) je (Nat.le_of_lt hlt)).out
            clear r0 r1 r2 r3 l7 HHF2 hb6' hlt
            go_wp2_with fail
            (with_reducible refine HA6.out.mono ?_)
            rintro e w7 ⟨hb7, hp7⟩
            have HB7 := Lib.hid (HB6.out.trans (hb7.mono HB6.out.size))
            have hs67 := hb7.size
            have hs6 := HB6.out.size
            clear q0 q1 q2 q3 q7 hb7 HA6
            rcases hp7 with ⟨h0, rfl⟩ | ⟨b, Yb, cyb, h0, rfl, hy, hyc, hym, hyb⟩
            · have HST : Hid (stepL H q j = none) := stepL_no (by rw [HJE.out]; exact h0)
              have hb8 := below1 w7 (.cells #[.int .i64 0, .int .i64 0, .slice none 0 0, .int .i64 0] 112)
              have HB8 := Lib.hid (HB7.out.trans (hb8.mono HB7.out.size))
              go_upto_region 7 with (fail)
              generalize w7.alloc (.cells #[.int .i64 0, .int .i64 0, .slice none 0 0, .int .i64 0] 112) = w8 at *
              have HJ8 := Lib.hid ((HB8.out.block _ hjb).trans HJD.out)
              have HZ8 := Lib.hid ((HB8.out.block _ (by omega)).trans HR1.out)
              have lc0 : w8.cell? ⟨jb, 0, none⟩ = some _ := (cell_of_row _ _ 0 _ _ _ HJ8.out).trans rfl; have lc1 : w8.cell? ⟨jb, 1, none⟩ = some _ := (cell_of_row _ _ 1 _ _ _ HJ8.out).trans rfl; have lc2 : w8.cell? ⟨jb, 2, none⟩ = some _ := (cell_of_row _ _ 2 _ _ _ HJ8.out).trans rfl; have lc3 : w8.cell? ⟨jb, 3, none⟩ = some _ := (cell_of_row _ _ 3 _ _ _ HJ8.out).trans rfl; have lc4 : w8.cell? ⟨jb, 4, none⟩ = some _ := (cell_of_row _ _ 4 _ _ _ HJ8.out).trans rfl; have lc5 : w8.cell? ⟨jb, 5, none⟩ = some _ := (cell_of_row _ _ 5 _ _ _ HJ8.out).trans rfl; have lc6 : w8.cell? ⟨jb, 6, none⟩ = some _ := (cell_of_row _ _ 6 _ _ _ HJ8.out).trans rfl; have lc7 : w8.cell? ⟨jb, 7, none⟩ = some _ := (cell_of_row _ _ 7 _ _ _ HJ8.out).trans rfl; have lc8 : w8.cell? ⟨jb, 8, none⟩ = some _ := (cell_of_row _ _ 8 _ _ _ HJ8.out).trans rfl
              have zc0 : w8.cell? ⟨w.heap.size + 1, 0, none⟩ = some _ := (cell_of_row _ _ 0 _ _ _ HZ8.out).trans rfl; have zf0 : w8.frozen? ⟨w.heap.size + 1, 0, none⟩ = false := frozen_of_row _ _ _ _ _ HZ8.out; have zc1 : w8.cell? ⟨w.heap.size + 1, 1, none⟩ = some _ := (cell_of_row _ _ 1 _ _ _ HZ8.out).trans rfl; have zf1 : w8.frozen? ⟨w.heap.size + 1, 1, none⟩ = false := frozen_of_row _ _ _ _ _ HZ8.out; have zc2 : w8.cell? ⟨w.heap.size + 1, 2, none⟩ = some _ := (cell_of_row _ _ 2 _ _ _ HZ8.out).trans rfl; have zf2 : w8.frozen? ⟨w.heap.size + 1, 2, none⟩ = false := frozen_of_row _ _ _ _ _ HZ8.out; have zc3 : w8.cell? ⟨w.heap.size + 1, 3, none⟩ = some _ := (cell_of_row _ _ 3 _ _ _ HZ8.out).trans rfl; have zf3 : w8.frozen? ⟨w.heap.size + 1, 3, none⟩ = false := frozen_of_row _ _ _ _ _ HZ8.out; have zc4 : w8.cell? ⟨w.heap.size + 1, 4, none⟩ = some _ := (cell_of_row _ _ 4 _ _ _ HZ8.out).trans rfl; have zf4 : w8.frozen? ⟨w.heap.size + 1, 4, none⟩ = false := frozen_of_row _ _ _ _ _ HZ8.out; have zc5 : w8.cell? ⟨w.heap.size + 1, 5, none⟩ = some _ := (cell_of_row _ _ 5 _ _ _ HZ8.out).trans rfl; have zf5 : w8.frozen? ⟨w.heap.size + 1, 5, none⟩ = false := frozen_of_row _ _ _ _ _ HZ8.out; have zc6 : w8.cell? ⟨w.heap.size + 1, 6, none⟩ = some _ := (cell_of_row _ _ 6 _ _ _ HZ8.out).trans rfl; have zf6 : w8.frozen? ⟨w.heap.size + 1, 6, none⟩ = false := frozen_of_row _ _ _ _ _ HZ8.out; have zc7 : w8.cell? ⟨w.heap.size + 1, 7, none⟩ = some _ := (cell_of_row _ _ 7 _ _ _ HZ8.out).trans rfl; have zf7 : w8.frozen? ⟨w.heap.size + 1, 7, none⟩ = false := frozen_of_row _ _ _ _ _ HZ8.out; have zc8 : w8.cell? ⟨w.heap.size + 1, 8, none⟩ = some _ := (cell_of_row _ _ 8 _ _ _ HZ8.out).trans rfl; have zf8 : w8.frozen? ⟨w.heap.size + 1, 8, none⟩ = false := frozen_of_row _ _ _ _ _ HZ8.out
              clear h0 hb8
              go_wp2_with fail
              have hz := heap_set9 HZ8.out (.slice A N ca) (.slice X pl cx) (.bool D.x) (.int .i64 D.f) (.int .i64 (jt : Int)) (.slice sa sl sc) (.slice ra ml rc) (.int .i64 (je : Int)) (.bool false)
              have hc := chg_set9 w8 (w.heap.size + 1) (.slice A N ca) (.slice X pl cx) (.bool D.x) (.int .i64 D.f) (.int .i64 (jt : Int)) (.slice sa sl sc) (.slice ra ml rc) (.int .i64 (je : Int)) (.bool false)
              refine bodyPost_ret (results_cell_tmp rfl _ _ (w.heap.size + 1) 46 _ (0, 0) _ rfl hz Try.underlying46 rfl size_jr) rfl ?_
              exact HSTP.out w8 _ HB8.out HST.out hc
            · obtain ⟨p1, p2, p3, p4, p5, p6⟩ := parseB_ok _ b h0
              rw [List.length_drop, HHN.out] at p5 p6
              have HPB := Lib.hid h0
              have HYR := Lib.hid hy
              have HYB4 := Lib.hid hyb
              clear h0 hy hyb
              obtain ⟨t4, i4, d4, n4⟩ := b
              simp only at *
              have hb8 := below1 w7 (.cells #[.int .i64 (t4 : Int), .int .i64 (i4 : Int), .slice Yb d4.length cyb, .int .i64 (n4 : Int)] 112)
              have hy8 := heap_alloc_new w7 (.cells #[.int .i64 (t4 : Int), .int .i64 (i4 : Int), .slice Yb d4.length cyb, .int .i64 (n4 : Int)] 112)
              have HB8 := Lib.hid (HB7.out.trans (hb8.mono HB7.out.size))
              go_upto_region 7 with (fail)
              generalize w7.alloc (.cells #[.int .i64 (t4 : Int), .int .i64 (i4 : Int), .slice Yb d4.length cyb, .int .i64 (n4 : Int)] 112) = w8 at *
              have HY8 := Lib.hid hy8
              have HJ8 := Lib.hid ((HB8.out.block _ hjb).trans HJD.out)
              have HX8 := Lib.hid ((HB8.out.block _ hxw).trans HRX.out)
              have HZ8 := Lib.hid ((HB8.out.block _ (by omega)).trans HR1.out)
              have HYR8 := Lib.hid (RB.below HYR.out hb8)
              have hs78 : w7.heap.size < w8.heap.size := (Array.getElem?_eq_some_iff.1 hy8).1
              obtain ⟨yb, HYYB⟩ : ∃ y, Hid (w7.heap.size = y) := ⟨_, rfl⟩
              rw [HYYB.out] at HY8 hs67 hs78 ⊢
              have lc0 : w8.cell? ⟨jb, 0, none⟩ = some _ := (cell_of_row _ _ 0 _ _ _ HJ8.out).trans rfl; have lc1 : w8.cell? ⟨jb, 1, none⟩ = some _ := (cell_of_row _ _ 1 _ _ _ HJ8.out).trans rfl; have lc2 : w8.cell? ⟨jb, 2, none⟩ = some _ := (cell_of_row _ _ 2 _ _ _ HJ8.out).trans rfl; have lc3 : w8.cell? ⟨jb, 3, none⟩ = some _ := (cell_of_row _ _ 3 _ _ _ HJ8.out).trans rfl; have lc4 : w8.cell? ⟨jb, 4, none⟩ = some _ := (cell_of_row _ _ 4 _ _ _ HJ8.out).trans rfl; have lc5 : w8.cell? ⟨jb, 5, none⟩ = some _ := (cell_of_row _ _ 5 _ _ _ HJ8.out).trans rfl; have lc6 : w8.cell? ⟨jb, 6, none⟩ = some _ := (cell_of_row _ _ 6 _ _ _ HJ8.out).trans rfl; have lc7 : w8.cell? ⟨jb, 7, none⟩ = some _ := (cell_of_row _ _ 7 _ _ _ HJ8.out).trans rfl; have lc8 : w8.cell? ⟨jb, 8, none⟩ = some _ := (cell_of_row _ _ 8 _ _ _ HJ8.out).trans rfl
              have xc0 : w8.cell? ⟨x, 0, none⟩ = some _ := (cell_of_row _ _ 0 _ _ _ HX8.out).trans rfl; have xc1 : w8.cell? ⟨x, 1, none⟩ = some _ := (cell_of_row _ _ 1 _ _ _ HX8.out).trans rfl; have xc2 : w8.cell? ⟨x, 2, none⟩ = some _ := (cell_of_row _ _ 2 _ _ _ HX8.out).trans rfl; have xc3 : w8.cell? ⟨x, 3, none⟩ = some _ := (cell_of_row _ _ 3 _ _ _ HX8.out).trans rfl
              have yc0 : w8.cell? ⟨yb, 0, none⟩ = some _ := (cell_of_row _ _ 0 _ _ _ HY8.out).trans rfl; have yc1 : w8.cell? ⟨yb, 1, none⟩ = some _ := (cell_of_row _ _ 1 _ _ _ HY8.out).trans rfl; have yc2 : w8.cell? ⟨yb, 2, none⟩ = some _ := (cell_of_row _ _ 2 _ _ _ HY8.out).trans rfl; have yc3 : w8.cell? ⟨yb, 3, none⟩ = some _ := (cell_of_row _ _ 3 _ _ _ HY8.out).trans rfl
              clear hb8 hy8 HYR
              by_cases ct4 : t4 = bt
              · by_cases ci4 : i4 = ml + 1
                · have d2 : ((t4 : Int) != (bt : Int)) = false := by rw [bne_eq_false_iff_eq]; omega
                  have d3 : ((i4 : Int) != (ml : Int) + 1) = false := by rw [bne_eq_false_iff_eq]; omega
                  have HSY : Hid (stepL H q j = some { j with rs := j.rs ++ [d4], e := je + n4 }) := by
                    have := stepL_yes (H := H) (h := q) (j := j) (b := ⟨t4, i4, d4, n4⟩) (by rw [HJE.out]; exact HLT.out) (by rw [HJE.out]; exact HPB.out) ⟨by rw [HJT.out]; exact ct4, by rw [← HMS.out]; exact ci4⟩
                    rw [HJE.out] at this
                    exact this
                  have hn4 : je + n4 ≤ q := by have := HLT.out; omega
                  have hd4 : d4.length ≤ 64 * q := by omega
                  have HJW8 := Lib.hid (HJ.out.below HB8.out)
                  have hYn : ∀ z ∈ bl Yb, wr.heap.size ≤ z ∧ z < w7.heap.size := fun z hz => by
                    obtain ⟨off, rfl⟩ := mem_bl hz
                    have := HYB4.out _ _ rfl
                    exact ⟨Nat.le_trans hs6 this.1, this.2⟩
                  have hol : ∀ b, (Value.slice ra ms.length rc).ownBlock = some b → b < wr.heap.size := fun b hb => (HJ.out.own.lt b hb).2
                  have HOBJ := Lib.hid HJ.out.ob
                  have hrl := HJ.out.ok.r
                  have HPU : Hid (∀ ra' rc' w9 e', je + n4 = e' → App w8 (.slice ra ms.length rc) w9 (.slice ra' (ms.length + 1) rc') → w9.ownsRow 0 29 1 (.slice ra' (ms.length + 1) rc') (ms.length + 1) (ms.map rval ++ [rval ⟨Yb, cyb, d4⟩]) →
                      RLoadL w (.slice A N ca) (.slice X pl cx) (.bool D.x) (.int .i64 D.f) q H x jb #[.int .i64 (bt : Int), .int .i64 (bi : Int), .slice Y bd.length cy, .int .i64 (bn : Int)] ⟨bt, bd, [], bn, false⟩ ((w9.setCell ⟨jb, 6, none⟩ (.slice ra' (ms.length + 1) rc')).setCell ⟨jb, 7, none⟩ (.int .i64 (e' : Int)))) := by
                    intro ra' rc' w9 e' he' hA ho
                    have hp := HJW8.out.push (R' := bl Yb ++ R) (e' := e') ⟨Yb, cyb, d4⟩ ⟨HYR8.out, hyc, hym, fun _ b off e => List.mem_append_left _ (by rw [show Yb = _ from e]; exact bl_mem)⟩ (fun z hz => List.mem_append_right _ hz) (fun hz => by
                        rcases List.mem_append.1 hz with hz | hz
                        · have := hYn _ hz; omega
                        · exact HJ.out.gr hz) (fun b hb hz => by
                        rcases List.mem_append.1 hz with hz | hz
                        · have := hYn _ hz; have := hol b hb; omega
                        · exact (HOBJ.out b hb).2 hz) (fun z hz => by
                        rcases List.mem_append.1 hz with hz | hz
                        · have := hYn _ hz; rw [HYYB.out] at this; omega
                        · exact HJW8.out.rl z hz) hA ho (by omega) (by have h1 := HMS.out; have h2 := HML.out; rw [HJE.out] at hrl; omega) hd4
                    have hcc : Chg (jb :: (Value.slice ra ms.length rc).ownBlock.toList) w8 ((w9.setCell ⟨jb, 6, none⟩ (.slice ra' (ms.length + 1) rc')).setCell ⟨jb, 7, none⟩ (.int .i64 (e' : Int))) :=
                      ((hA.chg (S := jb :: (Value.slice ra ms.length rc).ownBlock.toList) (fun b hb => List.mem_cons_of_mem _ (Option.mem_toList.2 hb))).setCell (p := ⟨jb, 6, none⟩) (.inl List.mem_cons_self) _).setCell (p := ⟨jb, 7, none⟩) (.inl List.mem_cons_self) _
                    have hSj : ∀ z ∈ jb :: (Value.slice ra ms.length rc).ownBlock.toList, jb ≤ z := fun z hz => by
                      simp only [List.mem_cons, Option.mem_toList] at hz
                      rcases hz with rfl | hz
                      · exact Nat.le_refl _
                      · exact Nat.le_of_lt (HOBJ.out z hz).1
                    have hb8 := HBB.out.trans (HB8.out.mono HBB.out.size)
                    refine ⟨_, _, _, _, _, _, _, hp, ?_, HJT.out, hjx, (hcc.blk ((HB8.out.block _ (by omega)).trans HR0.out) (fun hz => by have := hSj _ hz; omega)), (hcc.blk HZ8.out (fun hz => by have := hSj _ hz; omega)), (hcc.blk HX8.out (fun hz => by have := hSj _ hz; omega)), hb8.trans (hcc.below hb8.size (fun z hz => by have := hSj z hz; omega)), fun z hz => ?_⟩
                    · rw [← HLO.out, loadR_some HSY.out, he']
                    · rcases List.mem_append.1 hz with hz | hz
                      · have := hYn z hz; omega
                      · exact hR z hz
                  obtain ⟨e4, HE4⟩ : ∃ z, Hid (je + n4 = z) := ⟨_, rfl⟩
                  have hee : (je : Int) + (n4 : Int) = (e4 : Int) := by have := HE4.out; omega
                  have he4 : e4 ≤ 50 := by have := HE4.out; omega
                  have hge : q - e4 < q - je := by have := HE4.out; omega
                  have HGB : Hid (∀ b, (Value.slice ra ml rc).ownBlock = some b → b ≠ jb ∧ b ≠ yb) := fun b hb => by
                    have hb' : (Value.slice ra ms.length rc).ownBlock = some b := by rw [HML.out]; exact hb
                    have h1 := (HOBJ.out b hb').1
                    have h2 := hol b hb'
                    exact ⟨by omega, by omega⟩
                  have hown8 : (w8.alloc (.cells #[.slice Yb d4.length cyb] 29)).ownsRow 0 29 1 (.slice ra ml rc) ml (ms.map rval) := by
                    have := own_below HJW8.out.own (below1 w8 (.cells #[.slice Yb d4.length cyb] 29))
                    rw [HML.out] at this
                    exact this
                  have HO8 := Lib.hid hown8
                  rw [HML.out] at HPU
                  clear hown8 p1 p2 p3 p4 p5 p6 ct4 ci4 hn4 hd4 hYn hol hrl HSY
                  go_wp2_with (at_builtin; go_must (refine wpList_apps _ rfl (.tmp 73) (.tmp 76) 44 rfl 0 29 (.slice none 0 0) 24 Try.underlying44 info_sl rfl _ ml (ms.map rval) rfl HO8.out (some ⟨w8.heap.size, 0, none⟩) 1 1 [.slice Yb d4.length cyb] rfl rfl (Rd.one w8 _ _) (by simp [Value.oneCell']) (by simp only [maxLen]; omega) (by omega) (Nat.zero_le _) ?_; intro ra9 rc9 w9 ho9 ha9; have HO9 := Lib.hid ho9; have HA9 := Lib.hid ha9.alloc_left; have hj9 := Lib.hid (HA9.out.old HJ8.out (fun e => (HGB.out _ e).1 rfl)); have hy9 := Lib.hid (HA9.out.old HY8.out (fun e => (HGB.out _ e).2 rfl)); have z6 : w9.cell? ⟨jb, 6, none⟩ = some (.slice ra ml rc) := (cell_of_row _ _ 6 _ _ _ hj9.out).trans rfl; have z7 : w9.cell? ⟨jb, 7, none⟩ = some (.int .i64 (je : Int)) := (cell_of_row _ _ 7 _ _ _ hj9.out).trans rfl; have z6f : w9.frozen? ⟨jb, 6, none⟩ = false := frozen_of_row _ _ _ _ _ hj9.out; have z7f : w9.frozen? ⟨jb, 7, none⟩ = false := frozen_of_row _ _ _ _ _ hj9.out; have zy : w9.cell? ⟨yb, 3, none⟩ = some (.int .i64 (n4 : Int)) := (cell_of_row _ _ 3 _ _ _ hy9.out).trans rfl; clear ho9 ha9))
                  go_roundw
                  case rel => first | exact HPU.out ra9 rc9 w9 e4 HE4.out HA9.out HO9.out | (rw [w64_nat e4 (Nat.lt_of_le_of_lt he4 (by decide))]; exact HPU.out ra9 rc9 w9 e4 HE4.out HA9.out HO9.out)
                  case measure =>
                    rw [HEND.out]
                    have : endR ((w9.setCell ⟨jb, 6, none⟩ (.slice ra9 (ml + 1) rc9)).setCell ⟨jb, 7, none⟩ (.int .i64 (e4 : Int))) jb = e4 := by
                      unfold endR
                      rw [cell_of_row _ _ 7 _ _ _ (heap_setCell_same _ _ _ _ _ _ (heap_setCell_same _ _ _ _ _ _ hj9.out))]
                      simp [intOf]
                    rw [this]; exact hge
                · have d2 : ((t4 : Int) != (bt : Int)) = false := by rw [bne_eq_false_iff_eq]; omega
                  have d3 : ((i4 : Int) != (ml : Int) + 1) = true := by rw [bne_iff_ne]; omega
                  have HST : Hid (stepL H q j = none) := stepL_ne (b := ⟨t4, i4, d4, n4⟩) (by rw [HJE.out]; exact HPB.out) (fun hc => ci4 (by rw [HMS.out]; exact hc.2))
                  have zc0 : w8.cell? ⟨w.heap.size + 1, 0, none⟩ = some _ := (cell_of_row _ _ 0 _ _ _ HZ8.out).trans rfl; have zf0 : w8.frozen? ⟨w.heap.size + 1, 0, none⟩ = false := frozen_of_row _ _ _ _ _ HZ8.out; have zc1 : w8.cell? ⟨w.heap.size + 1, 1, none⟩ = some _ := (cell_of_row _ _ 1 _ _ _ HZ8.out).trans rfl; have zf1 : w8.frozen? ⟨w.heap.size + 1, 1, none⟩ = false := frozen_of_row _ _ _ _ _ HZ8.out; have zc2 : w8.cell? ⟨w.heap.size + 1, 2, none⟩ = some _ := (cell_of_row _ _ 2 _ _ _ HZ8.out).trans rfl; have zf2 : w8.frozen? ⟨w.heap.size + 1, 2, none⟩ = false := frozen_of_row _ _ _ _ _ HZ8.out; have zc3 : w8.cell? ⟨w.heap.size + 1, 3, none⟩ = some _ := (cell_of_row _ _ 3 _ _ _ HZ8.out).trans rfl; have zf3 : w8.frozen? ⟨w.heap.size + 1, 3, none⟩ = false := frozen_of_row _ _ _ _ _ HZ8.out; have zc4 : w8.cell? ⟨w.heap.size + 1, 4, none⟩ = some _ := (cell_of_row _ _ 4 _ _ _ HZ8.out).trans rfl; have zf4 : w8.frozen? ⟨w.heap.size + 1, 4, none⟩ = false := frozen_of_row _ _ _ _ _ HZ8.out; have zc5 : w8.cell? ⟨w.heap.size + 1, 5, none⟩ = some _ := (cell_of_row _ _ 5 _ _ _ HZ8.out).trans rfl; have zf5 : w8.frozen? ⟨w.heap.size + 1, 5, none⟩ = false := frozen_of_row _ _ _ _ _ HZ8.out; have zc6 : w8.cell? ⟨w.heap.size + 1, 6, none⟩ = some _ := (cell_of_row _ _ 6 _ _ _ HZ8.out).trans rfl; have zf6 : w8.frozen? ⟨w.heap.size + 1, 6, none⟩ = false := frozen_of_row _ _ _ _ _ HZ8.out; have zc7 : w8.cell? ⟨w.heap.size + 1, 7, none⟩ = some _ := (cell_of_row _ _ 7 _ _ _ HZ8.out).trans rfl; have zf7 : w8.frozen? ⟨w.heap.size + 1, 7, none⟩ = false := frozen_of_row _ _ _ _ _ HZ8.out; have zc8 : w8.cell? ⟨w.heap.size + 1, 8, none⟩ = some _ := (cell_of_row _ _ 8 _ _ _ HZ8.out).trans rfl; have zf8 : w8.frozen? ⟨w.heap.size + 1, 8, none⟩ = false := frozen_of_row _ _ _ _ _ HZ8.out
                  clear ci4 ct4
                  go_wp2_with fail
                  have hz := heap_set9 HZ8.out (.slice A N ca) (.slice X pl cx) (.bool D.x) (.int .i64 D.f) (.int .i64 (jt : Int)) (.slice sa sl sc) (.slice ra ml rc) (.int .i64 (je : Int)) (.bool false)
                  have hc := chg_set9 w8 (w.heap.size + 1) (.slice A N ca) (.slice X pl cx) (.bool D.x) (.int .i64 D.f) (.int .i64 (jt : Int)) (.slice sa sl sc) (.slice ra ml rc) (.int .i64 (je : Int)) (.bool false)
                  refine bodyPost_ret (results_cell_tmp rfl _ _ (w.heap.size + 1) 46 _ (0, 0) _ rfl hz Try.underlying46 rfl size_jr) rfl ?_
                  exact HSTP.out w8 _ HB8.out HST.out hc
              · have d2 : ((t4 : Int) != (bt : Int)) = true := by rw [bne_iff_ne]; omega
                have HST : Hid (stepL H q j = none) := stepL_ne (b := ⟨t4, i4, d4, n4⟩) (by rw [HJE.out]; exact HPB.out) (fun hc => ct4 (by rw [← HJT.out]; exact hc.1))
                have zc0 : w8.cell? ⟨w.heap.size + 1, 0, none⟩ = some _ := (cell_of_row _ _ 0 _ _ _ HZ8.out).trans rfl; have zf0 : w8.frozen? ⟨w.heap.size + 1, 0, none⟩ = false := frozen_of_row _ _ _ _ _ HZ8.out; have zc1 : w8.cell? ⟨w.heap.size + 1, 1, none⟩ = some _ := (cell_of_row _ _ 1 _ _ _ HZ8.out).trans rfl; have zf1 : w8.frozen? ⟨w.heap.size + 1, 1, none⟩ = false := frozen_of_row _ _ _ _ _ HZ8.out; have zc2 : w8.cell? ⟨w.heap.size + 1, 2, none⟩ = some _ := (cell_of_row _ _ 2 _ _ _ HZ8.out).trans rfl; have zf2 : w8.frozen? ⟨w.heap.size + 1, 2, none⟩ = false := frozen_of_row _ _ _ _ _ HZ8.out; have zc3 : w8.cell? ⟨w.heap.size + 1, 3, none⟩ = some _ := (cell_of_row _ _ 3 _ _ _ HZ8.out).trans rfl; have zf3 : w8.frozen? ⟨w.heap.size + 1, 3, none⟩ = false := frozen_of_row _ _ _ _ _ HZ8.out; have zc4 : w8.cell? ⟨w.heap.size + 1, 4, none⟩ = some _ := (cell_of_row _ _ 4 _ _ _ HZ8.out).trans rfl; have zf4 : w8.frozen? ⟨w.heap.size + 1, 4, none⟩ = false := frozen_of_row _ _ _ _ _ HZ8.out; have zc5 : w8.cell? ⟨w.heap.size + 1, 5, none⟩ = some _ := (cell_of_row _ _ 5 _ _ _ HZ8.out).trans rfl; have zf5 : w8.frozen? ⟨w.heap.size + 1, 5, none⟩ = false := frozen_of_row _ _ _ _ _ HZ8.out; have zc6 : w8.cell? ⟨w.heap.size + 1, 6, none⟩ = some _ := (cell_of_row _ _ 6 _ _ _ HZ8.out).trans rfl; have zf6 : w8.frozen? ⟨w.heap.size + 1, 6, none⟩ = false := frozen_of_row _ _ _ _ _ HZ8.out; have zc7 : w8.cell? ⟨w.heap.size + 1, 7, none⟩ = some _ := (cell_of_row _ _ 7 _ _ _ HZ8.out).trans rfl; have zf7 : w8.frozen? ⟨w.heap.size + 1, 7, none⟩ = false := frozen_of_row _ _ _ _ _ HZ8.out; have zc8 : w8.cell? ⟨w.heap.size + 1, 8, none⟩ = some _ := (cell_of_row _ _ 8 _ _ _ HZ8.out).trans rfl; have zf8 : w8.frozen? ⟨w.heap.size + 1, 8, none⟩ = false := frozen_of_row _ _ _ _ _ HZ8.out
                clear ct4
                go_wp2_with fail
                have hz := heap_set9 HZ8.out (.slice A N ca) (.slice X pl cx) (.bool D.x) (.int .i64 D.f) (.int .i64 (jt : Int)) (.slice sa sl sc) (.slice ra ml rc) (.int .i64 (je : Int)) (.bool false)
                have hc := chg_set9 w8 (w.heap.size + 1) (.slice A N ca) (.slice X pl cx) (.bool D.x) (.int .i64 D.f) (.int .i64 (jt : Int)) (.slice sa sl sc) (.slice ra ml rc) (.int .i64 (je : Int)) (.bool false)
                refine bodyPost_ret (results_cell_tmp rfl _ _ (w.heap.size + 1) 46 _ (0, 0) _ rfl hz Try.underlying46 rfl size_jr) rfl ?_
                exact HSTP.out w8 _ HB8.out HST.out hc
          · have d1 : decide ((je : Int) < (q : Int)) = false := by simp; omega
            have d1' : decide (je < q) = false := by simpa using hlt
            have HST : Hid (stepL H q j = none) := stepL_end (by rw [HJE.out]; exact hlt)
            go_upto_region 5 with (fail)
            go_region_held3 (fun w' => Below wr.heap.size wr w') (first | exact (Below.refl _ _).drew | assumption) ((go_at_call 54; (with_reducible refine (HHF2 _ (by assumption)).out.mono ?_); rintro e w8 ⟨rfl, hb8⟩))
            have HB8 : Hid (Below wr.heap.size wr w8) := by assumption
            have HJ8 := Lib.hid ((HB8.out.block _ hjb).trans HJD.out)
            have HZ8 := Lib.hid ((HB8.out.block _ (by omega)).trans HR1.out)
            have lc0 : w8.cell? ⟨jb, 0, none⟩ = some _ := (cell_of_row _ _ 0 _ _ _ HJ8.out).trans rfl; have lc1 : w8.cell? ⟨jb, 1, none⟩ = some _ := (cell_of_row _ _ 1 _ _ _ HJ8.out).trans rfl; have lc2 : w8.cell? ⟨jb, 2, none⟩ = some _ := (cell_of_row _ _ 2 _ _ _ HJ8.out).trans rfl; have lc3 : w8.cell? ⟨jb, 3, none⟩ = some _ := (cell_of_row _ _ 3 _ _ _ HJ8.out).trans rfl; have lc4 : w8.cell? ⟨jb, 4, none⟩ = some _ := (cell_of_row _ _ 4 _ _ _ HJ8.out).trans rfl; have lc5 : w8.cell? ⟨jb, 5, none⟩ = some _ := (cell_of_row _ _ 5 _ _ _ HJ8.out).trans rfl; have lc6 : w8.cell? ⟨jb, 6, none⟩ = some _ := (cell_of_row _ _ 6 _ _ _ HJ8.out).trans rfl; have lc7 : w8.cell? ⟨jb, 7, none⟩ = some _ := (cell_of_row _ _ 7 _ _ _ HJ8.out).trans rfl; have lc8 : w8.cell? ⟨jb, 8, none⟩ = some _ := (cell_of_row _ _ 8 _ _ _ HJ8.out).trans rfl
            have zc0 : w8.cell? ⟨w.heap.size + 1, 0, none⟩ = some _ := (cell_of_row _ _ 0 _ _ _ HZ8.out).trans rfl; have zf0 : w8.frozen? ⟨w.heap.size + 1, 0, none⟩ = false := frozen_of_row _ _ _ _ _ HZ8.out; have zc1 : w8.cell? ⟨w.heap.size + 1, 1, none⟩ = some _ := (cell_of_row _ _ 1 _ _ _ HZ8.out).trans rfl; have zf1 : w8.frozen? ⟨w.heap.size + 1, 1, none⟩ = false := frozen_of_row _ _ _ _ _ HZ8.out; have zc2 : w8.cell? ⟨w.heap.size + 1, 2, none⟩ = some _ := (cell_of_row _ _ 2 _ _ _ HZ8.out).trans rfl; have zf2 : w8.frozen? ⟨w.heap.size + 1, 2, none⟩ = false := frozen_of_row _ _ _ _ _ HZ8.out; have zc3 : w8.cell? ⟨w.heap.size + 1, 3, none⟩ = some _ := (cell_of_row _ _ 3 _ _ _ HZ8.out).trans rfl; have zf3 : w8.frozen? ⟨w.heap.size + 1, 3, none⟩ = false := frozen_of_row _ _ _ _ _ HZ8.out; have zc4 : w8.cell? ⟨w.heap.size + 1, 4, none⟩ = some _ := (cell_of_row _ _ 4 _ _ _ HZ8.out).trans rfl; have zf4 : w8.frozen? ⟨w.heap.size + 1, 4, none⟩ = false := frozen_of_row _ _ _ _ _ HZ8.out; have zc5 : w8.cell? ⟨w.heap.size + 1, 5, none⟩ = some _ := (cell_of_row _ _ 5 _ _ _ HZ8.out).trans rfl; have zf5 : w8.frozen? ⟨w.heap.size + 1, 5, none⟩ = false := frozen_of_row _ _ _ _ _ HZ8.out; have zc6 : w8.cell? ⟨w.heap.size + 1, 6, none⟩ = some _ := (cell_of_row _ _ 6 _ _ _ HZ8.out).trans rfl; have zf6 : w8.frozen? ⟨w.heap.size + 1, 6, none⟩ = false := frozen_of_row _ _ _ _ _ HZ8.out; have zc7 : w8.cell? ⟨w.heap.size + 1, 7, none⟩ = some _ := (cell_of_row _ _ 7 _ _ _ HZ8.out).trans rfl; have zf7 : w8.frozen? ⟨w.heap.size + 1, 7, none⟩ = false := frozen_of_row _ _ _ _ _ HZ8.out; have zc8 : w8.cell? ⟨w.heap.size + 1, 8, none⟩ = some _ := (cell_of_row _ _ 8 _ _ _ HZ8.out).trans rfl; have zf8 : w8.frozen? ⟨w.heap.size + 1, 8, none⟩ = false := frozen_of_row _ _ _ _ _ HZ8.out
            clear r0 r1 r2 r3 l7 HHF2 hlt
            go_wp2_with fail
            have hz := heap_set9 HZ8.out (.slice A N ca) (.slice X pl cx) (.bool D.x) (.int .i64 D.f) (.int .i64 (jt : Int)) (.slice sa sl sc) (.slice ra ml rc) (.int .i64 (je : Int)) (.bool false)
            have hc := chg_set9 w8 (w.heap.size + 1) (.slice A N ca) (.slice X pl cx) (.bool D.x) (.int .i64 D.f) (.int .i64 (jt : Int)) (.slice sa sl sc) (.slice ra ml rc) (.int .i64 (je : Int)) (.bool false)
            refine bodyPost_ret (results_cell_tmp rfl _ _ (w.heap.size + 1) 46 _ (0, 0) _ rfl hz Try.underlying46 rfl size_jr) rfl ?_
            exact HSTP.out w8 _ HB8.out HST.out hc
      · have d1 : ((bi : Int) != 0) = false := by rw [bne_eq_false_iff_eq]; omega
        have d2 : (((bt : Int) % 2) != (k : Int)) = true := by rw [bne_iff_ne]; omega
        have HF := Lib.hid (HF0.out (fun hc => ct hc.2))
        unfold zero9 at HF
        clear ci ct HF0 HLS HAT HHF
        have zc0 : w4.cell? ⟨w.heap.size + 1, 0, none⟩ = some _ := (cell_of_row _ _ 0 _ _ _ HZ.out).trans rfl; have zf0 : w4.frozen? ⟨w.heap.size + 1, 0, none⟩ = false := frozen_of_row _ _ _ _ _ HZ.out; have zc1 : w4.cell? ⟨w.heap.size + 1, 1, none⟩ = some _ := (cell_of_row _ _ 1 _ _ _ HZ.out).trans rfl; have zf1 : w4.frozen? ⟨w.heap.size + 1, 1, none⟩ = false := frozen_of_row _ _ _ _ _ HZ.out; have zc2 : w4.cell? ⟨w.heap.size + 1, 2, none⟩ = some _ := (cell_of_row _ _ 2 _ _ _ HZ.out).trans rfl; have zf2 : w4.frozen? ⟨w.heap.size + 1, 2, none⟩ = false := frozen_of_row _ _ _ _ _ HZ.out; have zc3 : w4.cell? ⟨w.heap.size + 1, 3, none⟩ = some _ := (cell_of_row _ _ 3 _ _ _ HZ.out).trans rfl; have zf3 : w4.frozen? ⟨w.heap.size + 1, 3, none⟩ = false := frozen_of_row _ _ _ _ _ HZ.out; have zc4 : w4.cell? ⟨w.heap.size + 1, 4, none⟩ = some _ := (cell_of_row _ _ 4 _ _ _ HZ.out).trans rfl; have zf4 : w4.frozen? ⟨w.heap.size + 1, 4, none⟩ = false := frozen_of_row _ _ _ _ _ HZ.out; have zc5 : w4.cell? ⟨w.heap.size + 1, 5, none⟩ = some _ := (cell_of_row _ _ 5 _ _ _ HZ.out).trans rfl; have zf5 : w4.frozen? ⟨w.heap.size + 1, 5, none⟩ = false := frozen_of_row _ _ _ _ _ HZ.out; have zc6 : w4.cell? ⟨w.heap.size + 1, 6, none⟩ = some _ := (cell_of_row _ _ 6 _ _ _ HZ.out).trans rfl; have zf6 : w4.frozen? ⟨w.heap.size + 1, 6, none⟩ = false := frozen_of_row _ _ _ _ _ HZ.out; have zc7 : w4.cell? ⟨w.heap.size + 1, 7, none⟩ = some _ := (cell_of_row _ _ 7 _ _ _ HZ.out).trans rfl; have zf7 : w4.frozen? ⟨w.heap.size + 1, 7, none⟩ = false := frozen_of_row _ _ _ _ _ HZ.out; have zc8 : w4.cell? ⟨w.heap.size + 1, 8, none⟩ = some _ := (cell_of_row _ _ 8 _ _ _ HZ.out).trans rfl; have zf8 : w4.frozen? ⟨w.heap.size + 1, 8, none⟩ = false := frozen_of_row _ _ _ _ _ HZ.out
        go_wp2_with fail
        have hz := heap_set9 HZ.out (.slice none 0 0) (.slice none 0 0) (.bool false) (.int .i64 0) (.int .i64 0) (.slice none 0 0) (.slice none 0 0) (.int .i64 0) (.bool false)
        have hc := chg_set9 w4 (w.heap.size + 1) (.slice none 0 0) (.slice none 0 0) (.bool false) (.int .i64 0) (.int .i64 0) (.slice none 0 0) (.slice none 0 0) (.int .i64 0) (.bool false)
        refine bodyPost_ret (results_cell_tmp rfl _ _ (w.heap.size + 1) 46 _ (0, 0) _ rfl hz Try.underlying46 rfl size_jr) rfl ?_
        exact HF.out _ (HB4.out.trans (hc.below HB4.out.size (by simp)))
    · have d1 : ((bi : Int) != 0) = true := by rw [bne_iff_ne]; omega
      have HF := Lib.hid (HF0.out (fun hc => ci hc.1))
      unfold zero9 at HF
      clear ci HF0 HLS HAT HHF
      have zc0 : w4.cell? ⟨w.heap.size + 1, 0, none⟩ = some _ := (cell_of_row _ _ 0 _ _ _ HZ.out).trans rfl; have zf0 : w4.frozen? ⟨w.heap.size + 1, 0, none⟩ = false := frozen_of_row _ _ _ _ _ HZ.out; have zc1 : w4.cell? ⟨w.heap.size + 1, 1, none⟩ = some _ := (cell_of_row _ _ 1 _ _ _ HZ.out).trans rfl; have zf1 : w4.frozen? ⟨w.heap.size + 1, 1, none⟩ = false := frozen_of_row _ _ _ _ _ HZ.out; have zc2 : w4.cell? ⟨w.heap.size + 1, 2, none⟩ = some _ := (cell_of_row _ _ 2 _ _ _ HZ.out).trans rfl; have zf2 : w4.frozen? ⟨w.heap.size + 1, 2, none⟩ = false := frozen_of_row _ _ _ _ _ HZ.out; have zc3 : w4.cell? ⟨w.heap.size + 1, 3, none⟩ = some _ := (cell_of_row _ _ 3 _ _ _ HZ.out).trans rfl; have zf3 : w4.frozen? ⟨w.heap.size + 1, 3, none⟩ = false := frozen_of_row _ _ _ _ _ HZ.out; have zc4 : w4.cell? ⟨w.heap.size + 1, 4, none⟩ = some _ := (cell_of_row _ _ 4 _ _ _ HZ.out).trans rfl; have zf4 : w4.frozen? ⟨w.heap.size + 1, 4, none⟩ = false := frozen_of_row _ _ _ _ _ HZ.out; have zc5 : w4.cell? ⟨w.heap.size + 1, 5, none⟩ = some _ := (cell_of_row _ _ 5 _ _ _ HZ.out).trans rfl; have zf5 : w4.frozen? ⟨w.heap.size + 1, 5, none⟩ = false := frozen_of_row _ _ _ _ _ HZ.out; have zc6 : w4.cell? ⟨w.heap.size + 1, 6, none⟩ = some _ := (cell_of_row _ _ 6 _ _ _ HZ.out).trans rfl; have zf6 : w4.frozen? ⟨w.heap.size + 1, 6, none⟩ = false := frozen_of_row _ _ _ _ _ HZ.out; have zc7 : w4.cell? ⟨w.heap.size + 1, 7, none⟩ = some _ := (cell_of_row _ _ 7 _ _ _ HZ.out).trans rfl; have zf7 : w4.frozen? ⟨w.heap.size + 1, 7, none⟩ = false := frozen_of_row _ _ _ _ _ HZ.out; have zc8 : w4.cell? ⟨w.heap.size + 1, 8, none⟩ = some _ := (cell_of_row _ _ 8 _ _ _ HZ.out).trans rfl; have zf8 : w4.frozen? ⟨w.heap.size + 1, 8, none⟩ = false := frozen_of_row _ _ _ _ _ HZ.out
      go_wp2_with fail
      have hz := heap_set9 HZ.out (.slice none 0 0) (.slice none 0 0) (.bool false) (.int .i64 0) (.int .i64 0) (.slice none 0 0) (.slice none 0 0) (.int .i64 0) (.bool false)
      have hc := chg_set9 w4 (w.heap.size + 1) (.slice none 0 0) (.slice none 0 0) (.bool false) (.int .i64 0) (.int .i64 0) (.slice none 0 0) (.slice none 0 0) (.int .i64 0) (.bool false)
      refine bodyPost_ret (results_cell_tmp rfl _ _ (w.heap.size + 1) 46 _ (0, 0) _ rfl hz Try.underlying46 rfl size_jr) rfl ?_
      exact HF.out _ (HB4.out.trans (hc.below HB4.out.size (by simp)))
end Jn
end Go.Proofs.Ytmdpmpfjldgalaa
