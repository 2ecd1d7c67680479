/- The walk of the law DiskFuses. -/
import Derived.Test.YtoallpinpeolfaaDkL
namespace Go.Proofs.Ytoallpinpeolfaa
open Go.RowKit
namespace Dk

theorem splice_take (b : List UInt8) (i j : Nat) (x : List UInt8) (hj : j ≤ i) (hi : i ≤ b.length) : (splice b i x).take j = b.take j := by
  have hl : (b.take i).length = i := by simp; omega
  unfold splice
  rw [List.take_append_of_le_length (by omega), List.take_take, Nat.min_eq_left hj]
theorem setB_take (n : Nat) (b : List UInt8) (p : List Pc) (c : Nat → Pc → Nat) (k : Nat) (hb : b.length = 64 * n) (hp : ∀ q ∈ p, q.ok n) (h1 : ∀ q ∈ p, q.s = 1) : (setB b p c k).take 64 = b.take 64 := by
  induction k with
  | zero => rfl
  | succ k ih =>
    by_cases h : k < p.length
    · rw [setB_step _ _ _ _ h]
      have hl := setB_len n b p c k hb hp
      have hq := h1 _ (List.getElem_mem h)
      have ho := (hp _ (List.getElem_mem h)).2
      unfold ap
      rw [splice_take _ _ _ _ (by omega) (by rw [hl]; omega), ih]
    · show (match p[k]? with | none => setB b p c k | some q => ap (setB b p c k) q (c k q)).take 64 = _
      rw [List.getElem?_eq_none (by omega)]; exact ih
theorem crash_none (D : St) : crashD D [] = { D with p := [], f := -1, x := false } := by
  have : ∀ k, setB D.b D.p (cSv []) k = D.b := by
    intro k
    induction k with
    | zero => rfl
    | succ k ih =>
      show (match D.p[k]? with | none => setB D.b D.p (cSv []) k | some q => ap (setB D.b D.p (cSv []) k) q (cSv [] k q)) = _
      cases D.p[k]? with
      | none => exact ih
      | some q =>
        have : cSv [] k q = 0 := by unfold cSv zSv clamp; simp; omega
        simp only [this, ap, ih]
        rw [Nat.mul_zero, List.take_zero, splice_nil]
  unfold crashD
  rw [this]

theorem sync_x {D : St} (h : D.x = true) : syncD D = D ∧ syncE D = 10 := by unfold syncD syncE; rw [if_pos h, if_pos h]; exact ⟨rfl, rfl⟩
theorem sync_0 {D : St} (h : D.x = false) (h0 : D.f = 0) : syncD D = { D with x := true } ∧ syncE D = 10 := by
  have hx : ¬ D.x = true := by simp [h]
  unfold syncD syncE; rw [if_neg hx, if_neg hx, if_pos h0, if_pos h0]; exact ⟨rfl, rfl⟩
theorem sync_ok {D : St} (h : D.x = false) (h0 : ¬ D.f = 0) : syncD D = { D with f := burnF D.f, b := D.all, p := [] } ∧ syncE D = 0 := by
  have hx : ¬ D.x = true := by simp [h]
  unfold syncD syncE; rw [if_neg hx, if_neg hx, if_neg h0, if_neg h0]; exact ⟨rfl, rfl⟩
theorem write_x {D : St} (s : Int) (l : List UInt8) (h : D.x = true) : writeD D s l = D ∧ writeE D s l = 10 := by unfold writeD writeE; rw [if_pos h, if_pos h]; exact ⟨rfl, rfl⟩
theorem write_len {D : St} (s : Int) (l : List UInt8) (h : D.x = false) (hl : l.length % 64 ≠ 0) : writeD D s l = D ∧ writeE D s l = 1 := by
  have hx : ¬ D.x = true := by simp [h]
  unfold writeD writeE; rw [if_neg hx, if_neg hx, if_pos hl, if_pos hl]; exact ⟨rfl, rfl⟩
theorem write_in {D : St} (s : Int) (l : List UInt8) (h : D.x = false) (hl : l.length % 64 = 0) (hi : inB D.n s (l.length / 64 : Nat) = false) : writeD D s l = D ∧ writeE D s l = 2 := by
  have hx : ¬ D.x = true := by simp [h]
  have hl' : ¬ l.length % 64 ≠ 0 := by simp [hl]
  unfold writeD writeE; rw [if_neg hx, if_neg hx, if_neg hl', if_neg hl', if_pos hi, if_pos hi]; exact ⟨rfl, rfl⟩
theorem write_0 {D : St} (s : Int) (l : List UInt8) (h : D.x = false) (hl : l.length % 64 = 0) (hi : inB D.n s (l.length / 64 : Nat) = true) (h0 : D.f = 0) : writeD D s l = { D with x := true } ∧ writeE D s l = 10 := by
  have hx : ¬ D.x = true := by simp [h]
  have hl' : ¬ l.length % 64 ≠ 0 := by simp [hl]
  have hi' : ¬ inB D.n s (l.length / 64 : Nat) = false := by rw [hi]; simp
  unfold writeD writeE; rw [if_neg hx, if_neg hx, if_neg hl', if_neg hl', if_neg hi', if_neg hi', if_pos h0, if_pos h0]; exact ⟨rfl, rfl⟩
theorem write_ok {D : St} (s : Int) (l : List UInt8) (h : D.x = false) (hl : l.length % 64 = 0) (hi : inB D.n s (l.length / 64 : Nat) = true) (h0 : ¬ D.f = 0) : writeD D s l = { D with f := burnF D.f, p := D.p ++ [⟨s.toNat, l⟩] } ∧ writeE D s l = 0 := by
  have hx : ¬ D.x = true := by simp [h]
  have hl' : ¬ l.length % 64 ≠ 0 := by simp [hl]
  have hi' : ¬ inB D.n s (l.length / 64 : Nat) = false := by rw [hi]; simp
  unfold writeD writeE; rw [if_neg hx, if_neg hx, if_neg hl', if_neg hl', if_neg hi', if_neg hi', if_neg h0, if_neg h0]; exact ⟨rfl, rfl⟩

/-- the state in front of call k -/
structure Fz (n k : Nat) (D : St) : Prop where
  n2 : D.n = 2
  b : D.b.take 64 = fillB 7 64
  p : ∀ q ∈ D.p, q.s = 1
  pl : D.p.length ≤ k
  f : D.f = if k ≤ n then (n : Int) - k else 0
  x : D.x = decide (n < k)
theorem fz_sync {n k : Nat} {D : St} (h : Fz n k D) (ho : D.ok) : Fz n (k + 1) (syncD D) ∧ syncE D = if k < n then 0 else 10 := by
  have hf := h.f
  by_cases h1 : n < k
  · have hx : D.x = true := by rw [h.x]; simpa using h1
    obtain ⟨e1, e2⟩ := sync_x hx
    rw [e1, e2, if_neg (by omega)]
    refine ⟨⟨h.n2, h.b, h.p, Nat.le_succ_of_le h.pl, ?_, ?_⟩, rfl⟩
    · rw [if_neg (by omega)]; rw [if_neg (by omega)] at hf; exact hf
    · rw [hx]; symm; rw [decide_eq_true_eq]; omega
  · have hx : D.x = false := by rw [h.x]; simpa using h1
    rw [if_pos (by omega)] at hf
    by_cases h2 : k = n
    · have h0 : D.f = 0 := by omega
      obtain ⟨e1, e2⟩ := sync_0 hx h0
      rw [e1, e2, if_neg (by omega)]
      refine ⟨⟨h.n2, h.b, h.p, Nat.le_succ_of_le h.pl, ?_, ?_⟩, rfl⟩
      · rw [if_neg (by omega)]; exact h0
      · show true = _; symm; rw [decide_eq_true_eq]; omega
    · have h0 : ¬ D.f = 0 := by omega
      obtain ⟨e1, e2⟩ := sync_ok hx h0
      rw [e1, e2, if_pos (by omega)]
      refine ⟨⟨h.n2, ?_, by simp, by simp, ?_, ?_⟩, rfl⟩
      · show D.all.take 64 = _
        unfold St.all
        rw [setB_take D.n _ _ _ _ ho.b ho.p h.p, h.b]
      · show burnF D.f = _
        unfold burnF
        rw [if_pos (by omega), if_pos (by omega)]; omega
      · show D.x = _
        rw [hx]; symm; rw [decide_eq_false_iff_not]; omega
theorem fz_write {n k : Nat} {D : St} (h : Fz n k D) : Fz n (k + 1) (writeD D 1 (fillB 9 64)) ∧ writeE D 1 (fillB 9 64) = if k < n then 0 else 10 := by
  have hf := h.f
  have hl : (fillB 9 64).length = 64 := fillB_len _ _
  have hl0 : (fillB 9 64).length % 64 = 0 := by rw [hl]
  have hi : inB D.n 1 (((fillB 9 64).length / 64 : Nat) : Int) = true := by rw [h.n2, hl]; rfl
  by_cases h1 : n < k
  · have hx : D.x = true := by rw [h.x]; simpa using h1
    obtain ⟨e1, e2⟩ := write_x 1 (fillB 9 64) hx
    rw [e1, e2, if_neg (by omega)]
    refine ⟨⟨h.n2, h.b, h.p, Nat.le_succ_of_le h.pl, ?_, ?_⟩, rfl⟩
    · rw [if_neg (by omega)]; rw [if_neg (by omega)] at hf; exact hf
    · rw [hx]; symm; rw [decide_eq_true_eq]; omega
  · have hx : D.x = false := by rw [h.x]; simpa using h1
    rw [if_pos (by omega)] at hf
    by_cases h2 : k = n
    · have h0 : D.f = 0 := by omega
      obtain ⟨e1, e2⟩ := write_0 1 _ hx hl0 hi h0
      rw [e1, e2, if_neg (by omega)]
      refine ⟨⟨h.n2, h.b, h.p, Nat.le_succ_of_le h.pl, ?_, ?_⟩, rfl⟩
      · rw [if_neg (by omega)]; exact h0
      · show true = _; symm; rw [decide_eq_true_eq]; omega
    · have h0 : ¬ D.f = 0 := by omega
      obtain ⟨e1, e2⟩ := write_ok 1 _ hx hl0 hi h0
      rw [e1, e2, if_pos (by omega)]
      refine ⟨⟨h.n2, h.b, ?_, ?_, ?_, ?_⟩, rfl⟩
      · intro q hq
        rcases List.mem_append.1 hq with hq | hq
        · exact h.p q hq
        · simp only [List.mem_singleton] at hq; rw [hq]; rfl
      · show (D.p ++ [_]).length ≤ _
        rw [List.length_append]; have := h.pl; simp; omega
      · show burnF D.f = _
        unfold burnF
        rw [if_pos (by omega), if_pos (by omega)]; omega
      · show D.x = _
        rw [hx]; symm; rw [decide_eq_false_iff_not]; omega
theorem fz_w1 {n k : Nat} {D : St} (h : Fz n k D) (hk : k < n) : writeD D 0 [1] = D ∧ writeE D 0 [1] = 1 := by
  have hx : D.x = false := by rw [h.x, decide_eq_false_iff_not]; omega
  exact write_len 0 [1] hx (by decide)
theorem fz_w2 {n k : Nat} {D : St} (h : Fz n k D) (hk : k < n) : writeD D 2 (fillB 1 64) = D ∧ writeE D 2 (fillB 1 64) = 2 := by
  have hx : D.x = false := by rw [h.x, decide_eq_false_iff_not]; omega
  have hl : (fillB 1 64).length = 64 := fillB_len _ _
  exact write_in 2 _ hx (by rw [hl]) (by rw [h.n2, hl]; rfl)
theorem fz_end {n k : Nat} {D : St} (h : Fz n k D) (ho : D.ok) : readE (crashD D []) 0 1 = 0 ∧ readL (crashD D []) 0 1 = fillB 7 64 ∧ (crashD D []).x = false ∧ syncE (crashD D []) = 0 := by
  have hi : inB D.n 0 1 = true := by rw [h.n2]; rfl
  have hb := ho.b
  rw [h.n2] at hb
  rw [crash_none]
  refine ⟨?_, ?_, rfl, rfl⟩
  · unfold readE; simp only [Bool.false_eq_true, if_false, hi]; rfl
  · unfold readL; simp only [Bool.false_eq_true, if_false, hi]
    show ((setB D.b [] cAll 0).drop (64 * (0 : Int).toNat)).take (64 * (1 : Int).toNat) = _
    exact h.b
def fz0 : St := syncD (writeD (newD 2) 0 (fillB 7 64))
theorem fz_start (n : Nat) (hn : n ≤ 30) : Fz n 0 (failD fz0 n) := by
  refine ⟨?_, ?_, ?_, ?_, ?_, ?_⟩
  · show fz0.n = 2; decide +kernel
  · show fz0.b.take 64 = _; decide +kernel
  · intro q hq
    have : (failD fz0 n).p = [] := by show fz0.p = []; unfold fz0 syncD; rfl
    rw [this] at hq; cases hq
  · show fz0.p.length ≤ 0; decide +kernel
  · show max (n : Int) (-1) = _; rw [if_pos (by omega)]; omega
  · show fz0.x = _
    have : fz0.x = false := by decide +kernel
    rw [this]; symm; rw [decide_eq_false_iff_not]; omega
theorem fz_e0 : writeE (newD 2) 0 (fillB 7 64) = 0 := by decide +kernel
theorem fz_p1 : (writeD (newD 2) 0 (fillB 7 64)).p.length = 1 := by decide +kernel
theorem fz_e1 : syncE (writeD (newD 2) 0 (fillB 7 64)) = 0 := by decide +kernel

theorem own_fill {w0 w : World} {g : Nat} {D : St} (h : Own w0 g D w) (x : UInt8) : Calls Try.prog 25 #[vb x, .int .i64 1] w fun e w' => ∃ X c, e = .returned (.slice X 64 c) ∧ w'.ownsRow w.heap.size 5 1 (.slice X 64 c) 64 ((fillB x 64).map vb) ∧ Below w.heap.size w w' ∧ Own w0 g D w' := by
  refine (fill_calls x 1 w (by omega)).mono ?_
  rintro e w' ⟨X, c, rfl, ho, hb⟩
  rw [fillB_len] at ho
  rw [fillB_len]
  exact ⟨X, c, rfl, ho, hb, h.below hb⟩

set_option maxRecDepth 100000 in
set_option maxHeartbeats 4000000 in
theorem fuses_law (w : World) (xn : UInt8) (A : Option Addr) (n ca : Nat) (l : List Bool) (hn : l.length = n) (hr : Rd w A (l.map Value.bool)) (hnm : n ≤ 9223372036854775807) :
    Calls Try.prog 6 #[vb xn, .slice A n ca] w (Yes w) := by
  have HN := Lib.hid hn
  have HR := Lib.hid hr
  clear hn hr
  have hxl := xn.toNat_lt
  by_cases h30 : xn.toNat ≤ 30 ∧ n ≤ 30
  · obtain ⟨hx30, hn30⟩ := h30
    have d1 : decide ((30 : Int) < (xn.toNat : Int)) = false := by simp; omega
    have d2 : decide ((30 : Int) < (n : Int)) = false := by simp; omega
    go_enter Try.func6, Try.ntmps6
    go_wp2_with fail
    refine (awake_calls w).mono ?_
    rintro e w1 ⟨rfl, hb1⟩
    have HB1 := Lib.hid hb1
    clear hb1
    go_wp2_with fail
    refine (own_new 2 (by omega) (by omega) HB1.out).mono ?_
    rintro e w2 ⟨g, rfl, h2⟩
    have H2 := Lib.hid h2
    clear h2
    go_wp2_with fail
    refine (own_fill H2.out 7).mono ?_
    rintro e w3 ⟨X3, c3, rfl, o3, _, h3⟩
    have HR3 := Lib.hid (RB.of_own o3)
    have H3 := Lib.hid h3
    clear o3 h3
    go_wp2_with fail
    refine (own_write H3.out 0 X3 64 c3 _ (fillB_len _ _) HR3.out (by omega) (by omega) (by omega) (by decide)).mono ?_
    rintro e w4 ⟨rfl, h4⟩
    rw [fz_e0]
    have H4 := Lib.hid h4
    clear h4
    go_wp2_with fail
    refine (own_sync H4.out).mono ?_
    rintro e w5 ⟨rfl, h5⟩
    rw [fz_e1]
    have H5 := Lib.hid (show Own w g fz0 w5 from h5)
    clear h5
    go_wp2_with fail
    refine (own_fail H5.out (xn.toNat : Int) (by omega)).mono ?_
    rintro e w6 ⟨rfl, h6⟩
    have H6 := Lib.hid h6
    have HF6 := Lib.hid (fz_start xn.toNat hx30)
    clear h6
    obtain ⟨m, HM⟩ : ∃ m, Hid (xn.toNat = m) := ⟨_, rfl⟩
    have HVB : Hid (vb xn = .int .u8 (m : Int)) := by rw [← HM.out]; rfl
    rw [HM.out] at HF6 H6 hx30
    generalize failD fz0 (m : Int) = D6 at *
    have hmm : (xn.toNat : Int) = (m : Int) := by rw [HM.out]
    go_wp2_with fail
    go_loopw [7] (fun i wr => ∃ (k : Nat) (D : St), k ≤ n ∧ i = .int .i64 k ∧ Fz m k D ∧ Own w g D wr) (fun i _ => n - (intOf i).toNat)
    case atStart => exact ⟨0, D6, by omega, rfl, HF6.out, H6.out⟩
    case round =>
      obtain ⟨k, D, hk, rfl, hfz, ho⟩ := hrel
      have HF := Lib.hid hfz
      have HO := Lib.hid ho
      clear hfz ho
      have j0 : (0 : Int) ≤ (k : Int) := by omega
      by_cases hlt : k < n
      · have j1 : (k : Int) < (n : Int) := by omega
        have hkl : k < l.length := by have := HN.out; omega
        obtain ⟨b, off, rfl, hbl, hcc⟩ := Rd.cells HR.out (by simp; omega)
        have x0 := hcc k (.bool l[k]) (by simp [List.getElem?_eq_getElem hkl])
        have hx0 : ∀ w', Below w.heap.size w w' → w'.cell? ⟨b, off + k, none⟩ = some (.bool l[k]) := fun w' h => (h.cell (p := ⟨b, off + k, none⟩) hbl).trans x0
        have hpl := HF.out.pl
        have HSY := fz_sync HF.out HO.out.ok
        have HWR := fz_write HF.out
        have HFX := HF.out.x
        obtain ⟨bl, HBL⟩ : ∃ x, Hid (l[k] = x) := ⟨l[k], rfl⟩
        rw [HBL.out] at hx0
        clear hcc x0
        by_cases hkm : k < m
        · have d3 : decide ((m : Int) ≤ (k : Int)) = false := by simp; omega
          obtain ⟨s1, s2⟩ := HSY
          obtain ⟨t1, t2⟩ := HWR
          obtain ⟨u1, u2⟩ := fz_w1 HF.out hkm
          obtain ⟨v1, v2⟩ := fz_w2 HF.out hkm
          rw [if_pos hkm] at s2 t2
          have HS1 := Lib.hid s1
          have HS2 := Lib.hid s2
          have HT1 := Lib.hid t1
          have HT2 := Lib.hid t2
          have HU1 := Lib.hid u1
          have HU2 := Lib.hid u2
          have HV1 := Lib.hid v1
          have HV2 := Lib.hid v2
          clear s1 s2 t1 t2 u1 u2 v1 v2 HFX
          go_wp2_with fail
          have hr7 : RB (wr.alloc (.cells #[.int .u8 1] 5)) (some ⟨wr.heap.size, 0, none⟩) [1] := Rd.new wr [.int .u8 1] 5 (0, 0)
          refine (own_write (HO.out.below (below1 _ _)) 0 (some ⟨wr.heap.size, 0, none⟩) 1 1 [1] rfl hr7 (by omega) (by omega) (by omega) (by omega)).mono ?_
          rintro e w7 ⟨rfl, h7⟩
          rw [HU2.out]
          rw [HU1.out] at h7
          have H7 := Lib.hid h7
          clear h7 hr7
          go_wp2_with fail
          refine (own_fill H7.out 1).mono ?_
          rintro e w8 ⟨X8, c8, rfl, o8, _, h8⟩
          have HR8 := Lib.hid (RB.of_own o8)
          have H8 := Lib.hid h8
          clear o8 h8
          go_wp2_with fail
          refine (own_write H8.out 2 X8 64 c8 _ (fillB_len _ _) HR8.out (by omega) (by omega) (by omega) (by omega)).mono ?_
          rintro e w9 ⟨rfl, h9⟩
          rw [HV2.out]
          rw [HV1.out] at h9
          have H9 := Lib.hid h9
          have y0 := hx0 w9 h9.b
          clear h9
          cases bl with
          | true =>
            go_wp2_with fail
            refine (own_sync H9.out).mono ?_
            rintro e w10 ⟨rfl, h10⟩
            rw [HS2.out]
            have H10 := Lib.hid h10
            have HXF : Hid ((syncD D).x = false) := by show _ = _; rw [HS1.out.x, decide_eq_false_iff_not]; omega
            clear h10
            generalize syncD D = D1 at *
            go_wp2_with fail
            refine (own_failed H10.out).mono ?_
            rintro e w11 ⟨rfl, rfl⟩
            rw [HXF.out]
            go_wp2_with fail
            go_roundw
            case rel => exact ⟨k + 1, D1, by omega, by go_num, HS1.out, H10.out⟩
            case measure => simp [intOf]; omega
          | false =>
            go_wp2_with fail
            refine (own_fill H9.out 9).mono ?_
            rintro e w10 ⟨X10, c10, rfl, o10, _, h10⟩
            have HR10 := Lib.hid (RB.of_own o10)
            have H10 := Lib.hid h10
            clear o10 h10
            go_wp2_with fail
            refine (own_write H10.out 1 X10 64 c10 _ (fillB_len _ _) HR10.out (by omega) (by omega) (by omega) (by omega)).mono ?_
            rintro e w11 ⟨rfl, h11⟩
            rw [HT2.out]
            have H11 := Lib.hid h11
            have HXF : Hid ((writeD D 1 (fillB 9 64)).x = false) := by show _ = _; rw [HT1.out.x, decide_eq_false_iff_not]; omega
            clear h11
            generalize writeD D 1 (fillB 9 64) = D1 at *
            go_wp2_with fail
            refine (own_failed H11.out).mono ?_
            rintro e w12 ⟨rfl, rfl⟩
            rw [HXF.out]
            go_wp2_with fail
            go_roundw
            case rel => exact ⟨k + 1, D1, by omega, by go_num, HT1.out, H11.out⟩
            case measure => simp [intOf]; omega
        · have d3 : decide ((m : Int) ≤ (k : Int)) = true := by simp; omega
          obtain ⟨s1, s2⟩ := HSY
          obtain ⟨t1, t2⟩ := HWR
          rw [if_neg hkm] at s2 t2
          have HS1 := Lib.hid s1
          have HS2 := Lib.hid s2
          have HT1 := Lib.hid t1
          have HT2 := Lib.hid t2
          have y0 := hx0 wr HO.out.b
          clear s1 s2 t1 t2 HFX
          cases bl with
          | true =>
            go_wp2_with fail
            refine (own_sync HO.out).mono ?_
            rintro e w10 ⟨rfl, h10⟩
            rw [HS2.out]
            have H10 := Lib.hid h10
            have HXF : Hid ((syncD D).x = true) := by show _ = _; rw [HS1.out.x, decide_eq_true_eq]; omega
            clear h10
            generalize syncD D = D1 at *
            go_wp2_with fail
            refine (own_failed H10.out).mono ?_
            rintro e w11 ⟨rfl, rfl⟩
            rw [HXF.out]
            go_wp2_with fail
            go_roundw
            case rel => exact ⟨k + 1, D1, by omega, by go_num, HS1.out, H10.out⟩
            case measure => simp [intOf]; omega
          | false =>
            go_wp2_with fail
            refine (own_fill HO.out 9).mono ?_
            rintro e w10 ⟨X10, c10, rfl, o10, _, h10⟩
            have HR10 := Lib.hid (RB.of_own o10)
            have H10 := Lib.hid h10
            clear o10 h10
            go_wp2_with fail
            refine (own_write H10.out 1 X10 64 c10 _ (fillB_len _ _) HR10.out (by omega) (by omega) (by omega) (by omega)).mono ?_
            rintro e w11 ⟨rfl, h11⟩
            rw [HT2.out]
            have H11 := Lib.hid h11
            have HXF : Hid ((writeD D 1 (fillB 9 64)).x = true) := by show _ = _; rw [HT1.out.x, decide_eq_true_eq]; omega
            clear h11
            generalize writeD D 1 (fillB 9 64) = D1 at *
            go_wp2_with fail
            refine (own_failed H11.out).mono ?_
            rintro e w12 ⟨rfl, rfl⟩
            rw [HXF.out]
            go_wp2_with fail
            go_roundw
            case rel => exact ⟨k + 1, D1, by omega, by go_num, HT1.out, H11.out⟩
            case measure => simp [intOf]; omega
      · have HE := Lib.hid (fz_end HF.out HO.out.ok)
        go_wp2_with fail
        refine (own_crash HO.out none 0 0 [] rfl Rd.nil).mono ?_
        rintro e w7 ⟨rfl, h7⟩
        have H7 := Lib.hid h7
        clear h7
        generalize crashD D [] = D1 at *
        go_wp2_with fail
        refine (own_readB H7.out 0 1 (by omega) (by omega)).mono ?_
        rintro e w8 ⟨X8, n8, c8, rfl, hn8, o8, _, h8⟩
        rw [HE.out.1]
        rw [HE.out.2.1] at hn8 o8
        have HN8 := Lib.hid hn8
        have HR8 := Lib.hid (RB.of_own o8)
        have H8 := Lib.hid h8
        clear hn8 o8 h8
        go_wp2_with fail
        refine (own_failed H8.out).mono ?_
        rintro e w9 ⟨rfl, rfl⟩
        rw [HE.out.2.2.1]
        go_wp2_with fail
        refine (own_fill H8.out 7).mono ?_
        rintro e w9 ⟨X9, c9, rfl, o9, hb9, h9⟩
        have HSA := Lib.hid (same_calls X8 X9 n8 64 c8 c9 _ _ w9 HN8.out.symm (fillB_len 7 64) (RB.below HR8.out hb9) (RB.of_own o9))
        rw [show sameB (fillB 7 64) (fillB 7 64) = true by simp [sameB]] at HSA
        have H9 := Lib.hid h9
        clear o9 hb9 h9
        go_wp2_with fail
        refine HSA.out.mono ?_
        rintro e w10 ⟨rfl, rfl⟩
        go_wp2_with fail
        refine (own_sync H9.out).mono ?_
        rintro e w10 ⟨rfl, h10⟩
        rw [HE.out.2.2.2]
        have H10 := Lib.hid h10
        clear h10
        go_wp2_with fail
        go_ret
        exact ⟨rfl, H10.out.b⟩
  · have hc : decide ((30 : Int) < (xn.toNat : Int)) = true ∨ (decide ((30 : Int) < (xn.toNat : Int)) = false ∧ decide ((30 : Int) < (n : Int)) = true) := by
      simp only [decide_eq_true_eq, decide_eq_false_iff_not]; omega
    clear h30
    rcases hc with h1 | ⟨h1, h2⟩
    all_goals
      go_enter Try.func6, Try.ntmps6
      go_wp2_with fail
      refine (awake_calls w).mono ?_
      rintro e w1 ⟨rfl, hb1⟩
      have HB1 := Lib.hid hb1
      clear hb1
      go_wp2_with fail
      go_ret
      exact ⟨rfl, HB1.out⟩
end Dk
end Go.Proofs.Ytoallpinpeolfaa
