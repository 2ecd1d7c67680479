/- Merged: JnP JnX JnQ. -/
import Derived.Test.YtmdpmpfjldgalaaMH
import Derived.Test.YtmdpmpfjldgalaaMA
/- The walk of the reference's write. -/
namespace Go.Proofs.Ytmdpmpfjldgalaa
open Go.RowKit
namespace Jn
open Dk Wi Wr

theorem writeE_valid (D : St) (s : Nat) (b : List UInt8) (h64 : b.length % 64 = 0) (hi : s + b.length / 64 ≤ D.n) : writeE D s b = 0 ∨ writeE D s b = 10 := by
  have hin : inB D.n s (b.length / 64 : Nat) = true := by
    unfold inB
    simp only [Bool.and_eq_true, decide_eq_true_eq]
    omega
  unfold writeE
  split
  · exact .inr rfl
  · rw [if_neg (by simp [h64]), if_neg (by rw [hin]; simp)]
    split
    · exact .inr rfl
    · exact .inl rfl
theorem syncE_valid (D : St) : syncE D = 0 ∨ syncE D = 10 := by
  unfold syncE; repeat' split
  · exact .inr rfl
  · exact .inr rfl
  · exact .inl rfl
theorem wr2_fail {D : St} {s : Nat} {b : List UInt8} (h : writeE D s b = 10) : wr2 D s b = (writeD D s b, false) := by
  unfold wr2; rw [if_pos (by rw [h]; decide)]
theorem wr2_syn {D : St} {s : Nat} {b : List UInt8} (h : writeE D s b = 0) (h2 : syncE (writeD D s b) = 10) : wr2 D s b = (syncD (writeD D s b), false) := by
  unfold wr2; rw [if_neg (by rw [h]; decide), h2]; rfl
theorem wr2_ok {D : St} {s : Nat} {b : List UInt8} (h : writeE D s b = 0) (h2 : syncE (writeD D s b) = 0) : wr2 D s b = (syncD (writeD D s b), true) := by
  unfold wr2; rw [if_neg (by rw [h]; decide), h2]; rfl

/-- the disk lies in block B0, the result in block B1 -/
def RAt (w : World) (N0 : List Nat) (D1 : St) (wc : World) : Prop :=
  ∃ A ca X cx P N1, IsK' wc N1 D1 A ca X cx P ∧ wc.heap[w.heap.size]? = some (.cells #[.slice A (64 * D1.n) ca, .slice X P.length cx, .bool D1.x, .int .i64 D1.f] 42 (0, 0)) ∧
    wc.heap[w.heap.size + 1]? = some (.cells #[.slice none 0 0, .slice none 0 0, .bool false, .int .i64 0] 42 (0, 0)) ∧ Below w.heap.size w wc ∧ ∀ x ∈ N1, x ∈ N0 ∨ w.heap.size + 1 < x
def RMid (w : World) (N0 : List Nat) (n0 mx : Nat) (s : Nat) (b : List UInt8) (r : St × Bool) (wc : World) : Prop :=
  ∃ D1, RAt w N0 D1 wc ∧ D1.n = n0 ∧ D1.p.length ≤ mx ∧ wr2 D1 s b = r

/-- a call that makes a new disk of the reference -/
def NewK (w3 : World) (N0 : List Nat) (D1 : St) (e1 : Int) (e : Ending) (w' : World) : Prop :=
  ∃ A ca X cx P N1, e = .returned (.tuple #[.agg #[.slice A (64 * D1.n) ca, .slice X P.length cx, .bool D1.x, .int .i64 D1.f], .int .i64 e1]) ∧ IsK' w' N1 D1 A ca X cx P ∧ Below w3.heap.size w3 w' ∧ ∀ x ∈ N1, x ∈ N0 ∨ w3.heap.size ≤ x
theorem NewK.of {w3 u : World} {N0 : List Nat} {D1 : St} {e1 : Int} (hb : Below w3.heap.size w3 u) {e : Ending} {w' : World} (h : KP u N0 D1 (fun v' => .tuple #[v', .int .i64 e1]) e w') : NewK w3 N0 D1 e1 e w' := by
  obtain ⟨v', N1, rfl, ⟨A, ca, X, cx, P, rfl, hk⟩, hb', hn⟩ := h
  exact ⟨A, ca, X, cx, P, N1, rfl, hk, hb.trans (hb'.mono hb.size), fun x hx => (hn x hx).imp id fun h => Nat.le_trans hb.size h⟩
/-- the disk is stored into block B0 -/
theorem RAt.put {w w5 : World} {N0 N1 : List Nat} {D1 : St} {A X : Option Addr} {ca cx : Nat} {P : List Pm} {a0 a1 a2 a3 : Value} (hk : IsK' w5 N1 D1 A ca X cx P) (h0 : w5.heap[w.heap.size]? = some (.cells #[a0, a1, a2, a3] 42 (0, 0)))
    (h1 : w5.heap[w.heap.size + 1]? = some (.cells #[.slice none 0 0, .slice none 0 0, .bool false, .int .i64 0] 42 (0, 0))) (hb : Below w.heap.size w w5) (hn : ∀ x ∈ N1, x ∈ N0 ∨ w.heap.size + 1 < x) (h00 : ∀ x ∈ N0, x < w.heap.size) :
    RAt w N0 D1 ((((w5.setCell ⟨w.heap.size, 0, none⟩ (.slice A (64 * D1.n) ca)).setCell ⟨w.heap.size, 1, none⟩ (.slice X P.length cx)).setCell ⟨w.heap.size, 2, none⟩ (.bool D1.x)).setCell ⟨w.heap.size, 3, none⟩ (.int .i64 D1.f)) := by
  have hc := chg_set4 w5 w.heap.size (.slice A (64 * D1.n) ca) (.slice X P.length cx) (.bool D1.x) (.int .i64 D1.f)
  have hne : ∀ x ∈ N1, x ∉ [w.heap.size] := fun x hx hm => by
    simp only [List.mem_singleton] at hm
    subst hm
    rcases hn _ hx with h | h
    · have := h00 _ h; omega
    · omega
  exact ⟨A, ca, X, cx, P, N1, hk.kept (fun x hx => hc.block x (hk.nl x hx) (hne x hx)) hc.size, heap_set4 h0 _ _ _ _, hc.blk h1 (by simp), hb.trans (hc.below hb.size (by simp)), hn⟩
/-- the result is stored into block B1 -/
theorem RAt.ret {w w5 : World} {N0 N1 : List Nat} {D1 : St} {A X : Option Addr} {ca cx : Nat} {P : List Pm} {er : Int} (hk : IsK' w5 N1 D1 A ca X cx P) (hb : Below w.heap.size w w5) (hn : ∀ x ∈ N1, x ∈ N0 ∨ w.heap.size + 1 < x) (h00 : ∀ x ∈ N0, x < w.heap.size) :
    KP w N0 D1 (fun v' => .tuple #[v', .int .i64 er]) (.returned (.tuple #[.agg #[.slice A (64 * D1.n) ca, .slice X P.length cx, .bool D1.x, .int .i64 D1.f], .int .i64 er]))
      ((((w5.setCell ⟨w.heap.size + 1, 0, none⟩ (.slice A (64 * D1.n) ca)).setCell ⟨w.heap.size + 1, 1, none⟩ (.slice X P.length cx)).setCell ⟨w.heap.size + 1, 2, none⟩ (.bool D1.x)).setCell ⟨w.heap.size + 1, 3, none⟩ (.int .i64 D1.f)) := by
  have hc := chg_set4 w5 (w.heap.size + 1) (.slice A (64 * D1.n) ca) (.slice X P.length cx) (.bool D1.x) (.int .i64 D1.f)
  have hne : ∀ x ∈ N1, x ∉ [w.heap.size + 1] := fun x hx hm => by
    simp only [List.mem_singleton] at hm
    subst hm
    rcases hn _ hx with h | h
    · have := h00 _ h; omega
    · omega
  exact ⟨kval D1 A ca X cx P, N1, rfl, ⟨A, ca, X, cx, P, rfl, hk.kept (fun x hx => hc.block x (hk.nl x hx) (hne x hx)) hc.size⟩, hb.trans (hc.below hb.size (by simp)), fun x hx => (hn x hx).imp id fun h => by omega⟩

theorem fst_n {D D1 : St} (h : D1.n = D.n) (t : Nat) : fst D1 t = fst D t ∧ half D1 = half D := by unfold fst half; rw [h]; exact ⟨rfl, rfl⟩
set_option maxRecDepth 100000 in
set_option maxHeartbeats 2000000 in
theorem rwr_calls (v : Value) (N0 : List Nat) (D : St) (t s : Nat) (B : Option Addr) (n c : Nat) (b : List UInt8) (w : World) (h : IsK w N0 v D) (hn : b.length = n) (hr : RB w B b) (h64 : n % 64 = 0) (hnm : n ≤ 600000) (hs : s + n / 64 ≤ half D) (hD : D.n ≤ 100) (hpl : D.p.length ≤ 2) :
    Calls Try.prog 55 #[v, .int .i64 (t : Int), .int .i64 (s : Int), .slice B n c] w
      (KP w N0 (wrJ D (fst D t + s) (fst D t + half D) b).1 fun v' => .tuple #[v', .int .i64 (if (wrJ D (fst D t + s) (fst D t + half D) b).2 = true then 0 else 10)]) := by
  have HKV := Lib.hid h
  obtain ⟨A, ca, X, cx, P, rfl, h⟩ := h
  have HKK := Lib.hid h
  have HN := Lib.hid hn
  have HRB := Lib.hid hr
  have hq50 : half D ≤ 50 := by unfold half; omega
  have hf50 : fst D t ≤ 50 := by unfold fst; have : t % 2 * half D ≤ 1 * half D := Nat.mul_le_mul_right _ (by omega); omega
  have hfn : fst D t + half D ≤ D.n := by
    unfold fst half
    have : t % 2 * (D.n / 2) ≤ 1 * (D.n / 2) := Nat.mul_le_mul_right _ (by omega)
    omega
  obtain ⟨r, HRR⟩ : ∃ x, Hid (wrJ D (fst D t + s) (fst D t + half D) b = x) := ⟨_, rfl⟩
  rw [HRR.out]
  obtain ⟨f, HF⟩ : ∃ x, Hid (fst D t = x) := ⟨_, rfl⟩
  obtain ⟨q, HQ⟩ : ∃ x, Hid (half D = x) := ⟨_, rfl⟩
  obtain ⟨nq, HNQ⟩ : ∃ x, Hid (n / 64 = x) := ⟨_, rfl⟩
  obtain ⟨be, HBE⟩ : ∃ x, Hid (s + nq = x) := ⟨_, rfl⟩
  obtain ⟨fb, HFB⟩ : ∃ x, Hid (f + be = x) := ⟨_, rfl⟩
  obtain ⟨fs, HFS⟩ : ∃ x, Hid (f + s = x) := ⟨_, rfl⟩
  rw [HF.out, HQ.out] at HRR hfn
  rw [HF.out] at hf50
  rw [HQ.out] at hq50
  rw [HQ.out, HNQ.out, HBE.out] at hs
  have e1 : (n : Int) / 64 = (nq : Int) := by have := HNQ.out; omega
  have e2 : (s : Int) + (nq : Int) = (be : Int) := by have := HBE.out; omega
  have hs50 : s ≤ 50 := by have := HBE.out; omega
  have hfb : fb ≤ 100 := by have := HFB.out; omega
  have hfs : fs ≤ 100 := by have := HFS.out; omega
  have HWJ : Hid (r = if be < q then (if (wr2 D fb zero64).2 = true then wr2 (wr2 D fb zero64).1 fs b else wr2 D fb zero64) else wr2 D fs b) := by
    show r = _
    rw [← HRR.out]
    unfold wrJ
    rw [HN.out, HNQ.out, HFS.out, show fs + nq = fb by rw [← HFB.out, ← HFS.out, ← HBE.out]; omega]
    by_cases hh : be < q
    · rw [if_pos hh, if_pos (by have := HFB.out; omega)]
    · rw [if_neg hh, if_neg (by have := HFB.out; omega)]
  have HVB : Hid (be < q → ∀ D1 : St, D1.n = D.n → writeE D1 fb zero64 = 0 ∨ writeE D1 fb zero64 = 10) := fun hh D1 h1 => writeE_valid D1 fb zero64 (by decide) (by rw [h1]; show fb + 64 / 64 ≤ D.n; have := HFB.out; omega)
  have HVS : Hid (∀ D1 : St, D1.n = D.n → writeE D1 fs b = 0 ∨ writeE D1 fs b = 10) := fun D1 h1 => writeE_valid D1 fs b (by rw [HN.out]; exact h64) (by rw [h1, HN.out, HNQ.out]; have := HFS.out; have := HBE.out; omega)
  have hb2 := below2 w (.cells #[.slice A (64 * D.n) ca, .slice X P.length cx, .bool D.x, .int .i64 D.f] 42) (.cells #[.slice none 0 0, .slice none 0 0, .bool false, .int .i64 0] 42)
  have hk0 : ((w.alloc (.cells #[.slice A (64 * D.n) ca, .slice X P.length cx, .bool D.x, .int .i64 D.f] 42)).alloc (.cells #[.slice none 0 0, .slice none 0 0, .bool false, .int .i64 0] 42)).heap[w.heap.size]? = _ := (Below.heap_alloc _ _ _ (by simp)).trans (heap_alloc_new _ _)
  have hk1 : ((w.alloc (.cells #[.slice A (64 * D.n) ca, .slice X P.length cx, .bool D.x, .int .i64 D.f] 42)).alloc (.cells #[.slice none 0 0, .slice none 0 0, .bool false, .int .i64 0] 42)).heap[w.heap.size + 1]? = _ := heap_alloc2_new _ _ _
  obtain ⟨w2, HW2⟩ : ∃ x, Hid ((w.alloc (.cells #[.slice A (64 * D.n) ca, .slice X P.length cx, .bool D.x, .int .i64 D.f] 42)).alloc (.cells #[.slice none 0 0, .slice none 0 0, .bool false, .int .i64 0] 42) = x) := ⟨_, rfl⟩
  rw [HW2.out] at hb2 hk0 hk1
  have HB2 := Lib.hid hb2
  have HK0 := Lib.hid hk0
  have HK1 := Lib.hid hk1
  have hs2 : w.heap.size + 1 < w2.heap.size := (Array.getElem?_eq_some_iff.1 hk1).1
  have HHF := Lib.hid (rhalf_calls _ N0 D w2 (HKV.out.below hb2))
  unfold kval at HHF HKV ⊢
  rw [HQ.out] at HHF
  obtain ⟨N, HNN⟩ : ∃ x, Hid (64 * D.n = x) := ⟨_, rfl⟩
  obtain ⟨pl, HPL⟩ : ∃ x, Hid (P.length = x) := ⟨_, rfl⟩
  rw [HNN.out, HPL.out] at HHF HW2 HK0 HKV ⊢
  have rc0 : w2.cell? ⟨w.heap.size, 0, none⟩ = some _ := (cell_of_row _ _ 0 _ _ _ HK0.out).trans rfl; have rc1 : w2.cell? ⟨w.heap.size, 1, none⟩ = some _ := (cell_of_row _ _ 1 _ _ _ HK0.out).trans rfl; have rc2 : w2.cell? ⟨w.heap.size, 2, none⟩ = some _ := (cell_of_row _ _ 2 _ _ _ HK0.out).trans rfl; have rc3 : w2.cell? ⟨w.heap.size, 3, none⟩ = some _ := (cell_of_row _ _ 3 _ _ _ HK0.out).trans rfl
  clear h hn hr hb2 hk0 hk1
  go_enter Try.func55, Try.ntmps55
  go_upto_region 3 with (fail)
  rw [HW2.out]
  go_upto_if 20 with (go_at_call 54; (with_reducible refine HHF.out.mono ?_); rintro e w3 ⟨rfl, hb3⟩)
  have HB3 := Lib.hid (HB2.out.trans (hb3.mono HB2.out.size))
  have HK03 := Lib.hid ((hb3.block _ (by omega)).trans HK0.out)
  have HK13 := Lib.hid ((hb3.block _ (by omega)).trans HK1.out)
  have hs3 : w.heap.size + 1 < w3.heap.size := Nat.lt_of_lt_of_le hs2 hb3.size
  clear rc0 rc1 rc2 rc3 hb3 HHF HK0 HK1
  go_cut [] (fun wc => RMid w N0 D.n 5 fs b r wc)
  case first =>
    by_cases hlt : be < q
    · have d1 : decide ((be : Int) < (q : Int)) = true := by simp; omega
      have d1' : decide (be < q) = true := by simpa using hlt
      first | rw [d1'] | rw [d1]
      go_upto_region 4 with (fail)
      obtain ⟨i0, hi0, hz0, hz1, hz2⟩ := info_parts Dk.info_u8
      have hmk : ∀ u : World, (Instr.makeSlice 29 (.int .i64 64) (.int .i64 64)).run Try.prog u = .ok (.slice (some ⟨u.heap.size, 0, none⟩) 64 64) (u.alloc (.cells (madeCells #[.int .u8 0] 64) 5)) := fun u => by
        have h := run_make (P := Try.prog) u 29 5 i0 (.int .u8 0) Try.underlying29 hi0 hz0 .i64 .i64 64 64 (by omega) (Int.le_refl _) (by rw [hz2]; omega) (by omega)
        simpa [hz1, Value.cells] using h
      have HMC : Hid ((madeCells #[.int .u8 0] 64).toList = zero64.map vb) := made_bytes 64
      generalize madeCells #[.int .u8 0] 64 = mc at *
      have HZR : ∀ u : World, Hid (RB (u.alloc (.cells mc 5)) (some ⟨u.heap.size, 0, none⟩) zero64) := fun u => by
        show Rd _ _ (zero64.map vb)
        rw [← HMC.out]
        have h := Rd.new u mc.toList 5 (0, 0)
        simpa using h
      have HFI : ∀ u, Below w3.heap.size w3 u → Hid (Calls Try.prog 70 #[.agg #[.slice A N ca, .slice X pl cx, .bool D.x, .int .i64 D.f], .int .i64 (t : Int)] u fun e w'' => e = .returned (.int .i64 (f : Int)) ∧ Below u.heap.size u w'') := fun u hu =>
        (rfirst_calls _ N0 D t u (HKV.out.below (HB3.out.trans (hu.mono HB3.out.size))) hD).mono fun e w'' ⟨a, b⟩ => ⟨by rw [a, HF.out], b⟩
      obtain ⟨D1, HD1⟩ : ∃ y, Hid (writeD D fb zero64 = y) := ⟨_, rfl⟩
      obtain ⟨er, HER⟩ : ∃ y, Hid (writeE D fb zero64 = y) := ⟨_, rfl⟩
      have HWR : ∀ u a, Below w3.heap.size w3 u → RB u (some ⟨a, 0, none⟩) zero64 → Hid (Calls Try.prog 69 #[.agg #[.slice A N ca, .slice X pl cx, .bool D.x, .int .i64 D.f], .int .i64 (fb : Int), .slice (some ⟨a, 0, none⟩) 64 64] u (NewK w3 N0 D1 er)) := fun u a hu hz => by
        refine (rwrite_calls _ N0 D (fb : Int) (some ⟨a, 0, none⟩) 64 64 zero64 u (HKV.out.below (HB3.out.trans (hu.mono HB3.out.size))) (by decide) hz (by omega) (by omega) (by omega) (by omega)).mono fun e w' hh => ?_
        rw [HD1.out, HER.out] at hh
        exact NewK.of hu hh
      have ebs : (f : Int) + (be : Int) = (fb : Int) := by have := HFB.out; omega
      have r0 : w3.cell? ⟨w.heap.size, 0, none⟩ = some (.slice A N ca) := (cell_of_row _ _ 0 _ _ _ HK03.out).trans rfl
      have r1 : w3.cell? ⟨w.heap.size, 1, none⟩ = some (.slice X pl cx) := (cell_of_row _ _ 1 _ _ _ HK03.out).trans rfl
      have r2 : w3.cell? ⟨w.heap.size, 2, none⟩ = some (.bool D.x) := (cell_of_row _ _ 2 _ _ _ HK03.out).trans rfl
      have r3 : w3.cell? ⟨w.heap.size, 3, none⟩ = some (.int .i64 D.f) := (cell_of_row _ _ 3 _ _ _ HK03.out).trans rfl
      have ra : ∀ (o : Obj) i, (w3.alloc o).cell? ⟨w.heap.size, i, none⟩ = w3.cell? ⟨w.heap.size, i, none⟩ := fun o i => World.cell?_alloc_lt w3 o ⟨w.heap.size, i, none⟩ (by show w.heap.size < _; omega)
      have hwf : IntKind.i64.wrap (fb : Int) = (fb : Int) := wi_nat (Nat.lt_of_le_of_lt hfb (by decide))
      have HLT := Lib.hid hlt
      clear hi0 hz0 hz1 hz2 hlt d1 d1'
      go_cut [10] (fun ev wx => ev = .int .i64 er ∧ RAt w N0 D1 wx)
      case first =>
       go_region_law (first | (go_simp; go_at_call 70; first | ((with_reducible refine (HFI w3.drew (Go.Proofs.Ytmdpmpfjldgalaa.below_drew w3)).out.mono ?_); rintro e w4 ⟨rfl, hb4⟩; have hu4 : Below w3.heap.size w3 w4 := (Go.Proofs.Ytmdpmpfjldgalaa.below_drew w3).trans hb4; have hk4 := Lib.hid ((hu4.block _ (Nat.lt_of_succ_lt hs3)).trans HK03.out); have u0 : w4.cell? ⟨w.heap.size, 0, none⟩ = some (.slice A N ca) := (cell_of_row _ _ 0 _ _ _ hk4.out).trans rfl; have u1 : w4.cell? ⟨w.heap.size, 1, none⟩ = some (.slice X pl cx) := (cell_of_row _ _ 1 _ _ _ hk4.out).trans rfl; have u2 : w4.cell? ⟨w.heap.size, 2, none⟩ = some (.bool D.x) := (cell_of_row _ _ 2 _ _ _ hk4.out).trans rfl; have u3 : w4.cell? ⟨w.heap.size, 3, none⟩ = some (.int .i64 D.f) := (cell_of_row _ _ 3 _ _ _ hk4.out).trans rfl; have ua : ∀ (o : Obj) i, (w4.alloc o).cell? ⟨w.heap.size, i, none⟩ = w4.cell? ⟨w.heap.size, i, none⟩ := fun o i => World.cell?_alloc_lt w4 o ⟨w.heap.size, i, none⟩ (Nat.lt_of_lt_of_le (Nat.lt_of_succ_lt hs3) hu4.size)) | ((with_reducible refine (HFI (w3.alloc (.cells mc 5)).drew ((below1 w3 (.cells mc 5)).drew)).out.mono ?_); rintro e w4 ⟨rfl, hb4⟩; have hu4 : Below w3.heap.size w3 w4 := ((below1 w3 (.cells mc 5)).drew).trans (hb4.mono ((below1 w3 (.cells mc 5)).drew).size); have hz4 : RB w4 (some ⟨w3.heap.size, 0, none⟩) zero64 := RB.below (Rd.drew (HZR w3).out) hb4; have hk4 := Lib.hid ((hu4.block _ (Nat.lt_of_succ_lt hs3)).trans HK03.out); have u0 : w4.cell? ⟨w.heap.size, 0, none⟩ = some (.slice A N ca) := (cell_of_row _ _ 0 _ _ _ hk4.out).trans rfl; have u1 : w4.cell? ⟨w.heap.size, 1, none⟩ = some (.slice X pl cx) := (cell_of_row _ _ 1 _ _ _ hk4.out).trans rfl; have u2 : w4.cell? ⟨w.heap.size, 2, none⟩ = some (.bool D.x) := (cell_of_row _ _ 2 _ _ _ hk4.out).trans rfl; have u3 : w4.cell? ⟨w.heap.size, 3, none⟩ = some (.int .i64 D.f) := (cell_of_row _ _ 3 _ _ _ hk4.out).trans rfl; have ua : ∀ (o : Obj) i, (w4.alloc o).cell? ⟨w.heap.size, i, none⟩ = w4.cell? ⟨w.heap.size, i, none⟩ := fun o i => World.cell?_alloc_lt w4 o ⟨w.heap.size, i, none⟩ (Nat.lt_of_lt_of_le (Nat.lt_of_succ_lt hs3) hu4.size))) | (go_simp; go_at_call 69; first | ((with_reducible refine (HWR w4 w3.heap.size hu4 hz4).out.mono ?_); rintro e w5 ⟨A5, ca5, X5, cx5, P5, N5, rfl, h5, hb5, hn5⟩; have H5 := Lib.hid h5; have HB5 := Lib.hid hb5; have HN5 := Lib.hid hn5; have hk5 := Lib.hid ((hb5.block _ (Nat.lt_of_succ_lt hs3)).trans HK03.out); have vc0 : w5.cell? ⟨w.heap.size, 0, none⟩ = some _ := (cell_of_row _ _ 0 _ _ _ hk5.out).trans rfl; have vf0 : w5.frozen? ⟨w.heap.size, 0, none⟩ = false := frozen_of_row _ _ _ _ _ hk5.out; have vc1 : w5.cell? ⟨w.heap.size, 1, none⟩ = some _ := (cell_of_row _ _ 1 _ _ _ hk5.out).trans rfl; have vf1 : w5.frozen? ⟨w.heap.size, 1, none⟩ = false := frozen_of_row _ _ _ _ _ hk5.out; have vc2 : w5.cell? ⟨w.heap.size, 2, none⟩ = some _ := (cell_of_row _ _ 2 _ _ _ hk5.out).trans rfl; have vf2 : w5.frozen? ⟨w.heap.size, 2, none⟩ = false := frozen_of_row _ _ _ _ _ hk5.out; have vc3 : w5.cell? ⟨w.heap.size, 3, none⟩ = some _ := (cell_of_row _ _ 3 _ _ _ hk5.out).trans rfl; have vf3 : w5.frozen? ⟨w.heap.size, 3, none⟩ = false := frozen_of_row _ _ _ _ _ hk5.out; clear h5 hb5 hn5) | ((with_reducible refine (HWR (w4.alloc (.cells mc 5)) w4.heap.size (hu4.alloc hu4.size _) (HZR w4).out).out.mono ?_); rintro e w5 ⟨A5, ca5, X5, cx5, P5, N5, rfl, h5, hb5, hn5⟩; have H5 := Lib.hid h5; have HB5 := Lib.hid hb5; have HN5 := Lib.hid hn5; have hk5 := Lib.hid ((hb5.block _ (Nat.lt_of_succ_lt hs3)).trans HK03.out); have vc0 : w5.cell? ⟨w.heap.size, 0, none⟩ = some _ := (cell_of_row _ _ 0 _ _ _ hk5.out).trans rfl; have vf0 : w5.frozen? ⟨w.heap.size, 0, none⟩ = false := frozen_of_row _ _ _ _ _ hk5.out; have vc1 : w5.cell? ⟨w.heap.size, 1, none⟩ = some _ := (cell_of_row _ _ 1 _ _ _ hk5.out).trans rfl; have vf1 : w5.frozen? ⟨w.heap.size, 1, none⟩ = false := frozen_of_row _ _ _ _ _ hk5.out; have vc2 : w5.cell? ⟨w.heap.size, 2, none⟩ = some _ := (cell_of_row _ _ 2 _ _ _ hk5.out).trans rfl; have vf2 : w5.frozen? ⟨w.heap.size, 2, none⟩ = false := frozen_of_row _ _ _ _ _ hk5.out; have vc3 : w5.cell? ⟨w.heap.size, 3, none⟩ = some _ := (cell_of_row _ _ 3 _ _ _ hk5.out).trans rfl; have vf3 : w5.frozen? ⟨w.heap.size, 3, none⟩ = false := frozen_of_row _ _ _ _ _ hk5.out; clear h5 hb5 hn5)))
       all_goals
        have HF : Hid (RAt w N0 D1 ((((w5.setCell ⟨w.heap.size, 0, none⟩ (.slice A5 (64 * D1.n) ca5)).setCell ⟨w.heap.size, 1, none⟩ (.slice X5 P5.length cx5)).setCell ⟨w.heap.size, 2, none⟩ (.bool D1.x)).setCell ⟨w.heap.size, 3, none⟩ (.int .i64 D1.f))) :=
          RAt.put H5.out hk5.out ((HB5.out.block _ hs3).trans HK13.out) (HB3.out.trans (HB5.out.mono HB3.out.size)) (fun x hx => (HN5.out x hx).imp id fun h => Nat.lt_of_lt_of_le hs3 h) HKK.out.nl
        go_wp2_with fail
        go_meet
        exact ⟨rfl, HF.out⟩
      case rest =>
      obtain ⟨rfl, A1, ca1, X1, cx1, P1, N1, g1, g2, g3, g4, g5⟩ := hcut
      have HI1 := Lib.hid g1
      have HC1 := Lib.hid g2
      have HZ1 := Lib.hid g3
      have HBC := Lib.hid g4
      have HNC := Lib.hid g5
      have hsc : w.heap.size + 1 < wc.heap.size := (Array.getElem?_eq_some_iff.1 g3).1
      have HD1N : Hid (D1.n = D.n) := by show _ = _; rw [← HD1.out]; exact writeD_n _ _ _
      have hD1p : D1.p.length ≤ 3 := by rw [← HD1.out]; have := writeD_p D fb zero64; omega
      clear g1 g2 g3 g4 g5 hmk HFI HWR ebs r0 r1 r2 r3 ra hwf HZR HMC
      have cc0 : wc.cell? ⟨w.heap.size, 0, none⟩ = some _ := (cell_of_row _ _ 0 _ _ _ HC1.out).trans rfl; have cf0 : wc.frozen? ⟨w.heap.size, 0, none⟩ = false := frozen_of_row _ _ _ _ _ HC1.out; have cc1 : wc.cell? ⟨w.heap.size, 1, none⟩ = some _ := (cell_of_row _ _ 1 _ _ _ HC1.out).trans rfl; have cf1 : wc.frozen? ⟨w.heap.size, 1, none⟩ = false := frozen_of_row _ _ _ _ _ HC1.out; have cc2 : wc.cell? ⟨w.heap.size, 2, none⟩ = some _ := (cell_of_row _ _ 2 _ _ _ HC1.out).trans rfl; have cf2 : wc.frozen? ⟨w.heap.size, 2, none⟩ = false := frozen_of_row _ _ _ _ _ HC1.out; have cc3 : wc.cell? ⟨w.heap.size, 3, none⟩ = some _ := (cell_of_row _ _ 3 _ _ _ HC1.out).trans rfl; have cf3 : wc.frozen? ⟨w.heap.size, 3, none⟩ = false := frozen_of_row _ _ _ _ _ HC1.out
      have zc0 : wc.cell? ⟨w.heap.size + 1, 0, none⟩ = some _ := (cell_of_row _ _ 0 _ _ _ HZ1.out).trans rfl; have zf0 : wc.frozen? ⟨w.heap.size + 1, 0, none⟩ = false := frozen_of_row _ _ _ _ _ HZ1.out; have zc1 : wc.cell? ⟨w.heap.size + 1, 1, none⟩ = some _ := (cell_of_row _ _ 1 _ _ _ HZ1.out).trans rfl; have zf1 : wc.frozen? ⟨w.heap.size + 1, 1, none⟩ = false := frozen_of_row _ _ _ _ _ HZ1.out; have zc2 : wc.cell? ⟨w.heap.size + 1, 2, none⟩ = some _ := (cell_of_row _ _ 2 _ _ _ HZ1.out).trans rfl; have zf2 : wc.frozen? ⟨w.heap.size + 1, 2, none⟩ = false := frozen_of_row _ _ _ _ _ HZ1.out; have zc3 : wc.cell? ⟨w.heap.size + 1, 3, none⟩ = some _ := (cell_of_row _ _ 3 _ _ _ HZ1.out).trans rfl; have zf3 : wc.frozen? ⟨w.heap.size + 1, 3, none⟩ = false := frozen_of_row _ _ _ _ _ HZ1.out
      rcases HVB.out HLT.out D rfl with he | he
      · have hee := HER.out
        rw [he] at hee
        subst hee
        obtain ⟨D2, HD2⟩ : ∃ y, Hid (syncD D1 = y) := ⟨_, rfl⟩
        obtain ⟨e2', HE2⟩ : ∃ y, Hid (syncE D1 = y) := ⟨_, rfl⟩
        have HSY : Hid (Calls Try.prog 71 #[.agg #[.slice A1 (64 * D1.n) ca1, .slice X1 P1.length cx1, .bool D1.x, .int .i64 D1.f]] wc (NewK wc N1 D2 e2')) := by
          refine (rsync_calls (kval D1 A1 ca1 X1 cx1 P1) N1 D1 wc ⟨_, _, _, _, _, rfl, HI1.out⟩).mono fun e w' hh => ?_
          rw [HD2.out, HE2.out] at hh
          exact NewK.of (Below.refl _ _) hh
        have HW0 := Lib.hid he
        clear he zc0 zc1 zc2 zc3 zf0 zf1 zf2 zf3
        go_wp2_with fail
        (with_reducible refine HSY.out.mono ?_)
        rintro e w5 ⟨A5, ca5, X5, cx5, P5, N5, rfl, h5, hb5, hn5⟩
        have H5 := Lib.hid h5
        have HB5 := Lib.hid (HBC.out.trans (hb5.mono HBC.out.size))
        have HN5 : Hid (∀ x ∈ N5, x ∈ N0 ∨ w.heap.size + 1 < x) := fun x hx => by
          rcases hn5 x hx with hx | hx
          · exact HNC.out x hx
          · exact .inr (Nat.lt_of_lt_of_le hsc hx)
        have hk5 := Lib.hid ((hb5.block _ (by omega)).trans HC1.out)
        have hk15 := Lib.hid ((hb5.block _ hsc).trans HZ1.out)
        clear h5 hb5 hn5 HSY cc0 cc1 cc2 cc3 cf0 cf1 cf2 cf3
        have vc0 : w5.cell? ⟨w.heap.size, 0, none⟩ = some _ := (cell_of_row _ _ 0 _ _ _ hk5.out).trans rfl; have vf0 : w5.frozen? ⟨w.heap.size, 0, none⟩ = false := frozen_of_row _ _ _ _ _ hk5.out; have vc1 : w5.cell? ⟨w.heap.size, 1, none⟩ = some _ := (cell_of_row _ _ 1 _ _ _ hk5.out).trans rfl; have vf1 : w5.frozen? ⟨w.heap.size, 1, none⟩ = false := frozen_of_row _ _ _ _ _ hk5.out; have vc2 : w5.cell? ⟨w.heap.size, 2, none⟩ = some _ := (cell_of_row _ _ 2 _ _ _ hk5.out).trans rfl; have vf2 : w5.frozen? ⟨w.heap.size, 2, none⟩ = false := frozen_of_row _ _ _ _ _ hk5.out; have vc3 : w5.cell? ⟨w.heap.size, 3, none⟩ = some _ := (cell_of_row _ _ 3 _ _ _ hk5.out).trans rfl; have vf3 : w5.frozen? ⟨w.heap.size, 3, none⟩ = false := frozen_of_row _ _ _ _ _ hk5.out
        go_upto_region 8 with (fail)
        have HRA : Hid (RAt w N0 D2 ((((w5.setCell ⟨w.heap.size, 0, none⟩ (.slice A5 (64 * D2.n) ca5)).setCell ⟨w.heap.size, 1, none⟩ (.slice X5 P5.length cx5)).setCell ⟨w.heap.size, 2, none⟩ (.bool D2.x)).setCell ⟨w.heap.size, 3, none⟩ (.int .i64 D2.f))) :=
          RAt.put H5.out hk5.out hk15.out HB5.out HN5.out HKK.out.nl
        clear vc0 vc1 vc2 vc3 vf0 vf1 vf2 vf3
        generalize (((w5.setCell ⟨w.heap.size, 0, none⟩ (.slice A5 (64 * D2.n) ca5)).setCell ⟨w.heap.size, 1, none⟩ (.slice X5 P5.length cx5)).setCell ⟨w.heap.size, 2, none⟩ (.bool D2.x)).setCell ⟨w.heap.size, 3, none⟩ (.int .i64 D2.f) = w6 at *
        have hse := syncE_valid D1
        rw [HE2.out] at hse
        have hWJ := HWJ.out
        rw [if_pos HLT.out] at hWJ
        rcases hse with he2 | he2
        · have hrr : wr2 D2 fs b = r := by
            have h0 : wr2 D fb zero64 = (D2, true) := by rw [wr2_ok HW0.out (by rw [HD1.out, HE2.out]; exact he2), HD1.out, HD2.out]
            rw [h0, if_pos rfl] at hWJ
            exact hWJ.symm
          have HR : Hid (RMid w N0 D.n 5 fs b r w6) := ⟨D2, HRA.out, by rw [← HD2.out, syncD_n, HD1N.out], by rw [← HD2.out]; have := syncD_p D1; omega, hrr⟩
          subst he2
          clear hrr hWJ
          go_wp2_with fail
          go_meet
          exact HR.out
        · have hrr : r = (D2, false) := by
            have h0 : wr2 D fb zero64 = (D2, false) := by rw [wr2_syn HW0.out (by rw [HD1.out, HE2.out]; exact he2), HD1.out, HD2.out]
            rw [h0] at hWJ
            simpa using hWJ
          subst he2
          subst hrr
          clear hWJ
          obtain ⟨A6, ca6, X6, cx6, P6, N6, g1, g2, g3, g4, g5⟩ := HRA.out
          have HI6 := Lib.hid g1
          have HC6 := Lib.hid g2
          have HZ6 := Lib.hid g3
          have HB6 := Lib.hid g4
          have HN6 := Lib.hid g5
          clear g1 g2 g3 g4 g5
          have cc0 : w6.cell? ⟨w.heap.size, 0, none⟩ = some _ := (cell_of_row _ _ 0 _ _ _ HC6.out).trans rfl; have cf0 : w6.frozen? ⟨w.heap.size, 0, none⟩ = false := frozen_of_row _ _ _ _ _ HC6.out; have cc1 : w6.cell? ⟨w.heap.size, 1, none⟩ = some _ := (cell_of_row _ _ 1 _ _ _ HC6.out).trans rfl; have cf1 : w6.frozen? ⟨w.heap.size, 1, none⟩ = false := frozen_of_row _ _ _ _ _ HC6.out; have cc2 : w6.cell? ⟨w.heap.size, 2, none⟩ = some _ := (cell_of_row _ _ 2 _ _ _ HC6.out).trans rfl; have cf2 : w6.frozen? ⟨w.heap.size, 2, none⟩ = false := frozen_of_row _ _ _ _ _ HC6.out; have cc3 : w6.cell? ⟨w.heap.size, 3, none⟩ = some _ := (cell_of_row _ _ 3 _ _ _ HC6.out).trans rfl; have cf3 : w6.frozen? ⟨w.heap.size, 3, none⟩ = false := frozen_of_row _ _ _ _ _ HC6.out
          have zc0 : w6.cell? ⟨w.heap.size + 1, 0, none⟩ = some _ := (cell_of_row _ _ 0 _ _ _ HZ6.out).trans rfl; have zf0 : w6.frozen? ⟨w.heap.size + 1, 0, none⟩ = false := frozen_of_row _ _ _ _ _ HZ6.out; have zc1 : w6.cell? ⟨w.heap.size + 1, 1, none⟩ = some _ := (cell_of_row _ _ 1 _ _ _ HZ6.out).trans rfl; have zf1 : w6.frozen? ⟨w.heap.size + 1, 1, none⟩ = false := frozen_of_row _ _ _ _ _ HZ6.out; have zc2 : w6.cell? ⟨w.heap.size + 1, 2, none⟩ = some _ := (cell_of_row _ _ 2 _ _ _ HZ6.out).trans rfl; have zf2 : w6.frozen? ⟨w.heap.size + 1, 2, none⟩ = false := frozen_of_row _ _ _ _ _ HZ6.out; have zc3 : w6.cell? ⟨w.heap.size + 1, 3, none⟩ = some _ := (cell_of_row _ _ 3 _ _ _ HZ6.out).trans rfl; have zf3 : w6.frozen? ⟨w.heap.size + 1, 3, none⟩ = false := frozen_of_row _ _ _ _ _ HZ6.out
          go_wp2_with fail
          have hz := heap_set4 HZ6.out (.slice A6 (64 * D2.n) ca6) (.slice X6 P6.length cx6) (.bool D2.x) (.int .i64 D2.f)
          refine bodyPost_ret (results_cell_tmp rfl _ _ (w.heap.size + 1) 42 _ (0, 0) _ rfl hz Try.underlying42 rfl size_dk) rfl ?_
          exact RAt.ret HI6.out HB6.out HN6.out HKK.out.nl
      · have hee := HER.out
        rw [he] at hee
        subst hee
        have hrr : r = (D1, false) := by
          have hWJ := HWJ.out
          rw [if_pos HLT.out, wr2_fail he, HD1.out] at hWJ
          simpa using hWJ
        subst hrr
        clear he
        go_wp2_with fail
        have hz := heap_set4 HZ1.out (.slice A1 (64 * D1.n) ca1) (.slice X1 P1.length cx1) (.bool D1.x) (.int .i64 D1.f)
        refine bodyPost_ret (results_cell_tmp rfl _ _ (w.heap.size + 1) 42 _ (0, 0) _ rfl hz Try.underlying42 rfl size_dk) rfl ?_
        exact RAt.ret HI1.out HBC.out HNC.out HKK.out.nl
    · have d1 : decide ((be : Int) < (q : Int)) = false := by simp; omega
      have d1' : decide (be < q) = false := by simpa using hlt
      first | rw [d1'] | rw [d1]
      have HR : Hid (RMid w N0 D.n 5 fs b r w3) := by
        have hr := HWJ.out
        rw [if_neg hlt] at hr
        exact ⟨D, ⟨A, ca, X, cx, P, N0, HKK.out.below HB3.out, by rw [HNN.out, HPL.out]; exact HK03.out, HK13.out, HB3.out, fun x hx => .inl hx⟩, rfl, Nat.le_trans hpl (by decide), hr.symm⟩
      clear hlt
      go_wp2_with fail
      go_meet
      exact HR.out
  case rest =>
  obtain ⟨D1, ⟨A1, ca1, X1, cx1, P1, N1, g1, g2, g3, g4, g5⟩, h1n, h1p, hwr⟩ := hcut
  have HI1 := Lib.hid g1
  have HC1 := Lib.hid g2
  have HZ1 := Lib.hid g3
  have HBC := Lib.hid g4
  have HNC := Lib.hid g5
  have HWR1 := Lib.hid hwr
  have HN1 := Lib.hid h1n
  have hsc : w.heap.size + 1 < wc.heap.size := (Array.getElem?_eq_some_iff.1 g3).1
  have HVK : ∀ u, Below wc.heap.size wc u → Hid (IsK u N1 (kval D1 A1 ca1 X1 cx1 P1) D1) := fun u hu => ⟨_, _, _, _, _, rfl, HI1.out.below hu⟩
  unfold kval at HVK
  have HF1 : Hid (fst D1 t = f) := by show _ = _; rw [(fst_n HN1.out t).1, HF.out]
  have HFI : ∀ u, Below wc.heap.size wc u → Hid (Calls Try.prog 70 #[.agg #[.slice A1 (64 * D1.n) ca1, .slice X1 P1.length cx1, .bool D1.x, .int .i64 D1.f], .int .i64 (t : Int)] u fun e w'' => e = .returned (.int .i64 (f : Int)) ∧ Below u.heap.size u w'') := fun u hu =>
    (rfirst_calls _ N1 D1 t u (HVK u hu).out (by rw [HN1.out]; exact hD)).mono fun e w'' ⟨a, b⟩ => ⟨by rw [a, HF1.out], b⟩
  obtain ⟨D2, HD2⟩ : ∃ y, Hid (writeD D1 fs b = y) := ⟨_, rfl⟩
  obtain ⟨er, HER⟩ : ∃ y, Hid (writeE D1 fs b = y) := ⟨_, rfl⟩
  have HWR : ∀ u, Below wc.heap.size wc u → Hid (Calls Try.prog 69 #[.agg #[.slice A1 (64 * D1.n) ca1, .slice X1 P1.length cx1, .bool D1.x, .int .i64 D1.f], .int .i64 (fs : Int), .slice B n c] u (NewK wc N1 D2 er)) := fun u hu => by
    refine (rwrite_calls _ N1 D1 (fs : Int) B n c b u (HVK u hu).out HN.out (RB.below HRB.out (HBC.out.trans (hu.mono HBC.out.size))) (by omega) (by omega) (by omega) (by omega)).mono fun e w' hh => ?_
    rw [HD2.out, HER.out] at hh
    exact NewK.of hu hh
  have ebs : (f : Int) + (s : Int) = (fs : Int) := by have := HFS.out; omega
  have r0 : wc.cell? ⟨w.heap.size, 0, none⟩ = some (.slice A1 (64 * D1.n) ca1) := (cell_of_row _ _ 0 _ _ _ HC1.out).trans rfl
  have r1 : wc.cell? ⟨w.heap.size, 1, none⟩ = some (.slice X1 P1.length cx1) := (cell_of_row _ _ 1 _ _ _ HC1.out).trans rfl
  have r2 : wc.cell? ⟨w.heap.size, 2, none⟩ = some (.bool D1.x) := (cell_of_row _ _ 2 _ _ _ HC1.out).trans rfl
  have r3 : wc.cell? ⟨w.heap.size, 3, none⟩ = some (.int .i64 D1.f) := (cell_of_row _ _ 3 _ _ _ HC1.out).trans rfl
  have hwf : IntKind.i64.wrap (fs : Int) = (fs : Int) := wi_nat (Nat.lt_of_le_of_lt hfs (by decide))
  have hVS := HVS.out D1 HN1.out
  rw [HER.out] at hVS
  have HD2N : Hid (D2.n = D.n) := by show _ = _; rw [← HD2.out, writeD_n]; exact HN1.out
  obtain ⟨N1L, HN1L⟩ : ∃ y, Hid (64 * D1.n = y) := ⟨_, rfl⟩
  obtain ⟨pl1, HPL1⟩ : ∃ y, Hid (P1.length = y) := ⟨_, rfl⟩
  rw [HN1L.out] at r0
  rw [HPL1.out] at r1
  rw [HN1L.out, HPL1.out] at HFI HWR
  clear g1 g2 g3 g4 g5 hwr h1n HVK
  go_upto_region 10 with (fail)
  go_cut [10] (fun ev wx => ev = .int .i64 er ∧ RAt w N0 D2 wx)
  case first =>
   go_region_law (first | (go_simp; go_at_call 70; (with_reducible refine (HFI wc.drew (Go.Proofs.Ytmdpmpfjldgalaa.below_drew wc)).out.mono ?_); rintro e w4 ⟨rfl, hb4⟩; have hu4 : Below wc.heap.size wc w4 := (Go.Proofs.Ytmdpmpfjldgalaa.below_drew wc).trans hb4; have hk4 := Lib.hid ((hu4.block _ (Nat.lt_of_succ_lt hsc)).trans HC1.out); have u0 : w4.cell? ⟨w.heap.size, 0, none⟩ = some (.slice A1 N1L ca1) := (cell_of_row _ _ 0 _ _ _ hk4.out).trans (by rw [← HN1L.out]; rfl); have u1 : w4.cell? ⟨w.heap.size, 1, none⟩ = some (.slice X1 pl1 cx1) := (cell_of_row _ _ 1 _ _ _ hk4.out).trans (by rw [← HPL1.out]; rfl); have u2 : w4.cell? ⟨w.heap.size, 2, none⟩ = some (.bool D1.x) := (cell_of_row _ _ 2 _ _ _ hk4.out).trans rfl; have u3 : w4.cell? ⟨w.heap.size, 3, none⟩ = some (.int .i64 D1.f) := (cell_of_row _ _ 3 _ _ _ hk4.out).trans rfl) | (go_simp; go_at_call 69; (with_reducible refine (HWR w4 hu4).out.mono ?_); rintro e w5 ⟨A5, ca5, X5, cx5, P5, N5, rfl, h5, hb5, hn5⟩; have H5 := Lib.hid h5; have HB5 := Lib.hid hb5; have HN5 := Lib.hid hn5; have hk5 := Lib.hid ((hb5.block _ (Nat.lt_of_succ_lt hsc)).trans HC1.out); have vc0 : w5.cell? ⟨w.heap.size, 0, none⟩ = some _ := (cell_of_row _ _ 0 _ _ _ hk5.out).trans rfl; have vf0 : w5.frozen? ⟨w.heap.size, 0, none⟩ = false := frozen_of_row _ _ _ _ _ hk5.out; have vc1 : w5.cell? ⟨w.heap.size, 1, none⟩ = some _ := (cell_of_row _ _ 1 _ _ _ hk5.out).trans rfl; have vf1 : w5.frozen? ⟨w.heap.size, 1, none⟩ = false := frozen_of_row _ _ _ _ _ hk5.out; have vc2 : w5.cell? ⟨w.heap.size, 2, none⟩ = some _ := (cell_of_row _ _ 2 _ _ _ hk5.out).trans rfl; have vf2 : w5.frozen? ⟨w.heap.size, 2, none⟩ = false := frozen_of_row _ _ _ _ _ hk5.out; have vc3 : w5.cell? ⟨w.heap.size, 3, none⟩ = some _ := (cell_of_row _ _ 3 _ _ _ hk5.out).trans rfl; have vf3 : w5.frozen? ⟨w.heap.size, 3, none⟩ = false := frozen_of_row _ _ _ _ _ hk5.out; clear h5 hb5 hn5))
   all_goals
    have HF : Hid (RAt w N0 D2 ((((w5.setCell ⟨w.heap.size, 0, none⟩ (.slice A5 (64 * D2.n) ca5)).setCell ⟨w.heap.size, 1, none⟩ (.slice X5 P5.length cx5)).setCell ⟨w.heap.size, 2, none⟩ (.bool D2.x)).setCell ⟨w.heap.size, 3, none⟩ (.int .i64 D2.f))) :=
      RAt.put H5.out hk5.out ((HB5.out.block _ hsc).trans HZ1.out) (HBC.out.trans (HB5.out.mono HBC.out.size)) (fun x hx => by
        rcases HN5.out x hx with hx | hx
        · exact HNC.out x hx
        · exact .inr (Nat.lt_of_lt_of_le hsc hx)) HKK.out.nl
    go_wp2_with fail
    go_meet
    exact ⟨rfl, HF.out⟩
  case rest =>
  obtain ⟨rfl, A3, ca3, X3, cx3, P3, N3, g1, g2, g3, g4, g5⟩ := hcut
  have HI3 := Lib.hid g1
  have HC3 := Lib.hid g2
  have HZ3 := Lib.hid g3
  have HBD := Lib.hid g4
  have HND := Lib.hid g5
  have hsd : w.heap.size + 1 < wc.heap.size := (Array.getElem?_eq_some_iff.1 g3).1
  obtain ⟨D3, HD3⟩ : ∃ y, Hid (syncD D2 = y) := ⟨_, rfl⟩
  obtain ⟨e3, HE3⟩ : ∃ y, Hid (syncE D2 = y) := ⟨_, rfl⟩
  have HSY : Hid (Calls Try.prog 71 #[.agg #[.slice A3 (64 * D2.n) ca3, .slice X3 P3.length cx3, .bool D2.x, .int .i64 D2.f]] wc (NewK wc N3 D3 e3)) := by
    refine (rsync_calls (kval D2 A3 ca3 X3 cx3 P3) N3 D2 wc ⟨_, _, _, _, _, rfl, HI3.out⟩).mono fun e w' hh => ?_
    rw [HD3.out, HE3.out] at hh
    exact NewK.of (Below.refl _ _) hh
  clear g1 g2 g3 g4 g5
  have cc0 : wc.cell? ⟨w.heap.size, 0, none⟩ = some _ := (cell_of_row _ _ 0 _ _ _ HC3.out).trans rfl; have cf0 : wc.frozen? ⟨w.heap.size, 0, none⟩ = false := frozen_of_row _ _ _ _ _ HC3.out; have cc1 : wc.cell? ⟨w.heap.size, 1, none⟩ = some _ := (cell_of_row _ _ 1 _ _ _ HC3.out).trans rfl; have cf1 : wc.frozen? ⟨w.heap.size, 1, none⟩ = false := frozen_of_row _ _ _ _ _ HC3.out; have cc2 : wc.cell? ⟨w.heap.size, 2, none⟩ = some _ := (cell_of_row _ _ 2 _ _ _ HC3.out).trans rfl; have cf2 : wc.frozen? ⟨w.heap.size, 2, none⟩ = false := frozen_of_row _ _ _ _ _ HC3.out; have cc3 : wc.cell? ⟨w.heap.size, 3, none⟩ = some _ := (cell_of_row _ _ 3 _ _ _ HC3.out).trans rfl; have cf3 : wc.frozen? ⟨w.heap.size, 3, none⟩ = false := frozen_of_row _ _ _ _ _ HC3.out
  rcases hVS with he | he
  · have hse := syncE_valid D2
    rw [HE3.out] at hse
    have hw0 : writeE D1 fs b = 0 := by rw [HER.out]; exact he
    have HRS : Hid (r = (D3, decide (e3 = 0))) := by
      show _ = _
      rw [← HWR1.out]
      rcases hse with h2 | h2
      · rw [wr2_ok hw0 (by rw [HD2.out, HE3.out]; exact h2), HD2.out, HD3.out, h2]; rfl
      · rw [wr2_syn hw0 (by rw [HD2.out, HE3.out]; exact h2), HD2.out, HD3.out, h2]; rfl
    subst he
    clear hw0
    go_wp2_with fail
    (with_reducible refine HSY.out.mono ?_)
    rintro e w5 ⟨A5, ca5, X5, cx5, P5, N5, rfl, h5, hb5, hn5⟩
    have H5 := Lib.hid h5
    have HB5 := Lib.hid (HBD.out.trans (hb5.mono HBD.out.size))
    have HN5 : Hid (∀ x ∈ N5, x ∈ N0 ∨ w.heap.size + 1 < x) := fun x hx => by
      rcases hn5 x hx with hx | hx
      · exact HND.out x hx
      · exact .inr (Nat.lt_of_lt_of_le hsd hx)
    have hk15 := Lib.hid ((hb5.block _ hsd).trans HZ3.out)
    clear h5 hb5 hn5 HSY cc0 cc1 cc2 cc3 cf0 cf1 cf2 cf3
    have zc0 : w5.cell? ⟨w.heap.size + 1, 0, none⟩ = some _ := (cell_of_row _ _ 0 _ _ _ hk15.out).trans rfl; have zf0 : w5.frozen? ⟨w.heap.size + 1, 0, none⟩ = false := frozen_of_row _ _ _ _ _ hk15.out; have zc1 : w5.cell? ⟨w.heap.size + 1, 1, none⟩ = some _ := (cell_of_row _ _ 1 _ _ _ hk15.out).trans rfl; have zf1 : w5.frozen? ⟨w.heap.size + 1, 1, none⟩ = false := frozen_of_row _ _ _ _ _ hk15.out; have zc2 : w5.cell? ⟨w.heap.size + 1, 2, none⟩ = some _ := (cell_of_row _ _ 2 _ _ _ hk15.out).trans rfl; have zf2 : w5.frozen? ⟨w.heap.size + 1, 2, none⟩ = false := frozen_of_row _ _ _ _ _ hk15.out; have zc3 : w5.cell? ⟨w.heap.size + 1, 3, none⟩ = some _ := (cell_of_row _ _ 3 _ _ _ hk15.out).trans rfl; have zf3 : w5.frozen? ⟨w.heap.size + 1, 3, none⟩ = false := frozen_of_row _ _ _ _ _ hk15.out
    rcases hse with h2 | h2
    all_goals
      subst h2
      obtain rfl := HRS.out
      go_wp2_with fail
      have hz := heap_set4 hk15.out (.slice A5 (64 * D3.n) ca5) (.slice X5 P5.length cx5) (.bool D3.x) (.int .i64 D3.f)
      refine bodyPost_ret (results_cell_tmp rfl _ _ (w.heap.size + 1) 42 _ (0, 0) _ rfl hz Try.underlying42 rfl size_dk) rfl ?_
      exact RAt.ret H5.out HB5.out HN5.out HKK.out.nl
  · have HRS : Hid (r = (D2, false)) := by
      show _ = _
      rw [← HWR1.out, wr2_fail (by rw [HER.out]; exact he), HD2.out]
    subst he
    obtain rfl := HRS.out
    have zc0 : wc.cell? ⟨w.heap.size + 1, 0, none⟩ = some _ := (cell_of_row _ _ 0 _ _ _ HZ3.out).trans rfl; have zf0 : wc.frozen? ⟨w.heap.size + 1, 0, none⟩ = false := frozen_of_row _ _ _ _ _ HZ3.out; have zc1 : wc.cell? ⟨w.heap.size + 1, 1, none⟩ = some _ := (cell_of_row _ _ 1 _ _ _ HZ3.out).trans rfl; have zf1 : wc.frozen? ⟨w.heap.size + 1, 1, none⟩ = false := frozen_of_row _ _ _ _ _ HZ3.out; have zc2 : wc.cell? ⟨w.heap.size + 1, 2, none⟩ = some _ := (cell_of_row _ _ 2 _ _ _ HZ3.out).trans rfl; have zf2 : wc.frozen? ⟨w.heap.size + 1, 2, none⟩ = false := frozen_of_row _ _ _ _ _ HZ3.out; have zc3 : wc.cell? ⟨w.heap.size + 1, 3, none⟩ = some _ := (cell_of_row _ _ 3 _ _ _ HZ3.out).trans rfl; have zf3 : wc.frozen? ⟨w.heap.size + 1, 3, none⟩ = false := frozen_of_row _ _ _ _ _ HZ3.out
    clear HSY
    go_wp2_with fail
    have hz := heap_set4 HZ3.out (.slice A3 (64 * D2.n) ca3) (.slice X3 P3.length cx3) (.bool D2.x) (.int .i64 D2.f)
    refine bodyPost_ret (results_cell_tmp rfl _ _ (w.heap.size + 1) 42 _ (0, 0) _ rfl hz Try.underlying42 rfl size_dk) rfl ?_
    exact RAt.ret HI3.out HBD.out HND.out HKK.out.nl
end Jn
end Go.Proofs.Ytmdpmpfjldgalaa

/- What a journal writes is read back: plain mathematics. No program in sight. -/
namespace Go.Proofs.Ytmdpmpfjldgalaa
namespace Jn
open Dk Wr

/-! ### a block is read back -/

theorem uintR_enc (n : Nat) (h : n < 18446744073709551616) (r : List UInt8) : uintR ⟨enc n ++ r, 0⟩ = (n, ⟨r, 0⟩) := by
  unfold uintR
  rw [if_neg (by simp)]
  have hp := parse_enc n h r
  simp only [hp]
  simp
theorem parse_block (t i : Nat) (d r : List UInt8) (h1 : 1 ≤ t) (h2 : t ≤ 1099511627776) (h3 : i ≤ 1099511627776) (h4 : d.length < 1099511627776) :
    parseB (blockL t i d ++ r) = some ⟨t, i, d, (blockL t i d).length / 64⟩ := by
  have hB : blockL t i d = Crc.sealed (body t i d) ++ List.replicate ((64 - (Crc.sealed (body t i d)).length % 64) % 64) 0 := rfl
  obtain ⟨z, hz⟩ : ∃ z, List.replicate ((64 - (Crc.sealed (body t i d)).length % 64) % 64) (0 : UInt8) ++ r = z := ⟨_, rfl⟩
  have hl : blockL t i d ++ r = Crc.sealed (body t i d) ++ z := by rw [hB, List.append_assoc, hz]
  obtain ⟨sl, hs⟩ : ∃ y, Crc.sealed (body t i d) = body t i d ++ y ∧ y.length = 8 := ⟨Crc.le8 (Crc.sum (body t i d)), rfl, Crc.le8_length _⟩
  have hsl := sealed_len (body t i d)
  have hbl := body_len t i d
  obtain ⟨L, hL⟩ : ∃ L, blockL t i d ++ r = L := ⟨_, rfl⟩
  have e0 : L = enc t ++ (enc i ++ (enc d.length ++ (d ++ (sl ++ z)))) := by
    rw [← hL, hl, hs.1]; unfold body; simp only [List.append_assoc]
  have u1 : uintR ⟨L, 0⟩ = (t, ⟨enc i ++ (enc d.length ++ (d ++ (sl ++ z))), 0⟩) := by rw [e0]; exact uintR_enc t (by omega) _
  have u2 : uintR (uintR ⟨L, 0⟩).2 = (i, ⟨enc d.length ++ (d ++ (sl ++ z)), 0⟩) := by rw [u1]; exact uintR_enc i (by omega) _
  have u3 : uintR (uintR (uintR ⟨L, 0⟩).2).2 = (d.length, ⟨d ++ (sl ++ z), 0⟩) := by rw [u2]; exact uintR_enc d.length (by omega) _
  have hLl : L.length = (enc t).length + (enc i).length + (enc d.length).length + d.length + 8 + z.length := by rw [e0]; simp only [List.length_append, hs.2]; omega
  have ha : at3 L = (enc t).length + (enc i).length + (enc d.length).length := by
    unfold at3; rw [u3, hLl]; simp only [List.length_append, hs.2]; omega
  have hsz : size3 L = (Crc.sealed (body t i d)).length := by unfold size3; rw [ha, u3, hsl, hbl]
  have hbad : badB L = false := by
    unfold badB
    rw [u3, u2, u1, hsz, hsl, hbl]
    simp only [Bool.or_eq_false_iff, decide_eq_false_iff_not]
    omega
  have hop : Crc.opened (L.take (size3 L)) = some (body t i d) := by
    rw [hsz, ← hL, hl, List.take_left', Crc.opened_sealed]
    rfl
  rw [hL, parseB_some L _ hbad hop, u2, u1, ha, hsz]
  have hd : (body t i d).drop ((enc t).length + (enc i).length + (enc d.length).length) = d := by
    unfold body; rw [List.drop_left']; simp only [List.length_append]
  have hn : ((Crc.sealed (body t i d)).length + 63) / 64 = (blockL t i d).length / 64 := by
    have p1 := pad_len (Crc.sealed (body t i d))
    have p2 := pad_le (Crc.sealed (body t i d))
    unfold blockL
    omega
  rw [hd, hn]
theorem parse_zero (r : List UInt8) : parseB (zero64 ++ r) = none := by
  apply parseB_bad
  have e : zero64 ++ r = enc 0 ++ (List.replicate 63 0 ++ r) := by
    unfold zero64
    rw [show enc 0 = [0] by unfold enc; rw [digits_zero]; rfl]
    rfl
  unfold badB
  rw [e, uintR_enc 0 (by omega)]
  simp
theorem parse_nil : parseB [] = none := by
  apply parseB_bad
  unfold badB uintR
  simp [parse, failR]

/-! ### the blocks of a log -/

def blocks (t : Nat) : Nat → List (List UInt8) → List UInt8
  | _, [] => []
  | i, d :: ds => blockL t i d ++ blocks t (i + 1) ds
theorem blocks_snoc (t i : Nat) (ds : List (List UInt8)) (d : List UInt8) : blocks t i (ds ++ [d]) = blocks t i ds ++ blockL t (i + ds.length) d := by
  induction ds generalizing i with
  | nil => simp [blocks]
  | cons x ds ih =>
    show blockL t i x ++ blocks t (i + 1) (ds ++ [d]) = (blockL t i x ++ blocks t (i + 1) ds) ++ _
    rw [ih, List.append_assoc, List.length_cons, show i + 1 + ds.length = i + (ds.length + 1) by omega]
theorem blocks_mod (t i : Nat) (ds : List (List UInt8)) : (blocks t i ds).length % 64 = 0 := by
  induction ds generalizing i with
  | nil => rfl
  | cons x ds ih =>
    have h1 := (blockL_len t i x).1
    have h2 := ih (i + 1)
    show (blockL t i x ++ blocks t (i + 1) ds).length % 64 = 0
    rw [List.length_append]; omega
theorem blocks_ge (t i : Nat) (ds : List (List UInt8)) : 64 * ds.length ≤ (blocks t i ds).length := by
  induction ds generalizing i with
  | nil => simp [blocks]
  | cons x ds ih =>
    have h1 := (blockL_len t i x).2.1
    have h2 := ih (i + 1)
    show _ ≤ (blockL t i x ++ blocks t (i + 1) ds).length
    rw [List.length_append, List.length_cons]; omega

/-- nothing more is found -/
def Stop (r : List UInt8) : Prop := r = [] ∨ ∃ q, r = zero64 ++ q
theorem Stop.parse {r : List UInt8} (h : Stop r) : parseB r = none := by
  rcases h with rfl | ⟨q, rfl⟩
  · exact parse_nil
  · exact parse_zero q
theorem loadR_blocks (H pre rest : List UInt8) (h t : Nat) (s : List UInt8) (x : Bool) (ds : List (List UInt8)) : ∀ (rs : List (List UInt8)) (e : Nat), H = pre ++ (blocks t (rs.length + 1) ds ++ rest) → pre.length = 64 * e → e + (blocks t (rs.length + 1) ds).length / 64 ≤ h →
    (∀ d ∈ ds, d.length < 1099511627776) → 1 ≤ t → t ≤ 1099511627776 → rs.length + ds.length ≤ 1099511627776 → Stop rest →
    loadR H h ⟨t, s, rs, e, x⟩ = ⟨t, s, rs ++ ds, e + (blocks t (rs.length + 1) ds).length / 64, x⟩ := by
  induction ds generalizing pre with
  | nil =>
    intro rs e hH hp he _ _ _ _ hs
    have hd : H.drop (64 * e) = rest := by rw [hH, ← hp, List.drop_left]; rfl
    rw [loadR_none (stepL_no (by show parseB (H.drop (64 * e)) = none; rw [hd]; exact hs.parse))]
    simp [blocks]
  | cons d ds ih =>
    intro rs e hH hp he hdl h1 h2 hrl hs
    have hb := blockL_len t (rs.length + 1) d
    have hB : blocks t (rs.length + 1) (d :: ds) = blockL t (rs.length + 1) d ++ blocks t (rs.length + 1 + 1) ds := rfl
    have hm := blocks_mod t (rs.length + 1 + 1) ds
    rw [hB, List.length_append] at he
    have hd : H.drop (64 * e) = blockL t (rs.length + 1) d ++ (blocks t (rs.length + 1 + 1) ds ++ rest) := by rw [hH, ← hp, List.drop_left, hB, List.append_assoc]
    have hpb : parseB (H.drop (64 * e)) = some ⟨t, rs.length + 1, d, (blockL t (rs.length + 1) d).length / 64⟩ := by
      rw [hd]
      exact parse_block t (rs.length + 1) d _ h1 h2 (by simp at hrl; omega) (hdl d (by simp))
    have hne : e < h := by omega
    have hst : stepL H h ⟨t, s, rs, e, x⟩ = some ⟨t, s, rs ++ [d], e + (blockL t (rs.length + 1) d).length / 64, x⟩ :=
      stepL_yes (j := ⟨t, s, rs, e, x⟩) (b := ⟨t, rs.length + 1, d, (blockL t (rs.length + 1) d).length / 64⟩) hne hpb ⟨rfl, rfl⟩
    rw [loadR_some hst]
    have hlen : (rs ++ [d]).length + 1 = rs.length + 1 + 1 := by simp
    rw [ih (pre ++ blockL t (rs.length + 1) d) (rs ++ [d]) _ ?_ ?_ ?_ ?_ h1 h2 ?_ hs]
    · rw [hlen, hB, List.length_append, List.append_assoc]
      congr 1
      omega
    · rw [hlen, hH, hB]; simp only [List.append_assoc]
    · rw [List.length_append, hp]; omega
    · rw [hlen]; omega
    · intro y hy; exact hdl y (by simp [hy])
    · simp at hrl ⊢; omega
theorem loadR_t (H : List UInt8) (h : Nat) (j : Jr) : (loadR H h j).t = j.t := by
  rw [loadR]
  split
  · rfl
  · rename_i j' hs
    have hl := stepL_lt hs
    have ht : j'.t = j.t := by
      unfold stepL at hs
      split at hs
      · split at hs
        · cases hs
        · split at hs
          · injection hs with hs; subst hs; rfl
          · cases hs
      · cases hs
    rw [loadR_t H h j', ht]
termination_by h - j.e
end Jn
end Go.Proofs.Ytmdpmpfjldgalaa

/- The walk of the reference's Open. -/
namespace Go.Proofs.Ytmdpmpfjldgalaa
open Go.RowKit
namespace Jn
open Dk Wi Wr

/-- the reference's journal, open or not -/
structure IsW' (w : World) (N : List Nat) (D : St) (j : Jr) (A : Option Addr) (ca : Nat) (X : Option Addr) (cx : Nat) (P : List Pm) (sa : Option Addr) (sc : Nat) (ra : Option Addr) (rc : Nat) (ms : List Rm) : Prop where
  k : IsK' w N D A ca X cx P
  st : InR w N ⟨sa, sc, j.s⟩
  rr : RsR w N ra rc ms
  rs : j.rs = ms.map (·.d)
def IsW (w : World) (N : List Nat) (v : Value) (D : St) (j : Jr) : Prop :=
  ∃ A ca X cx P sa sc ra rc ms, v = jval D A ca X P.length cx j sa sc ra ms.length rc ∧ IsW' w N D j A ca X cx P sa sc ra rc ms
theorem IsW'.kept {w w' : World} {N : List Nat} {D : St} {j : Jr} {A : Option Addr} {ca : Nat} {X : Option Addr} {cx : Nat} {P : List Pm} {sa : Option Addr} {sc : Nat} {ra : Option Addr} {rc : Nat} {ms : List Rm}
    (h : IsW' w N D j A ca X cx P sa sc ra rc ms) (k : Kept N w w') : IsW' w' N D j A ca X cx P sa sc ra rc ms := ⟨h.k.kept' k, h.st.kept k, h.rr.kept k, h.rs⟩
theorem IsW.kept {w w' : World} {N : List Nat} {v : Value} {D : St} {j : Jr} (h : IsW w N v D j) (k : Kept N w w') : IsW w' N v D j := by
  obtain ⟨A, ca, X, cx, P, sa, sc, ra, rc, ms, hv, h⟩ := h
  exact ⟨A, ca, X, cx, P, sa, sc, ra, rc, ms, hv, h.kept k⟩
theorem IsW.nl {w : World} {N : List Nat} {v : Value} {D : St} {j : Jr} (h : IsW w N v D j) : ∀ x ∈ N, x < w.heap.size := by
  obtain ⟨A, ca, X, cx, P, sa, sc, ra, rc, ms, hv, h⟩ := h; exact h.k.nl
theorem IsW.below {w w' : World} {N : List Nat} {v : Value} {D : St} {j : Jr} (h : IsW w N v D j) (hb : Below w.heap.size w w') : IsW w' N v D j := h.kept (Kept.of_below h.nl hb)
theorem IsW.chg {w w' : World} {N S : List Nat} {v : Value} {D : St} {j : Jr} (h : IsW w N v D j) (hc : Chg S w w') (hS : ∀ x ∈ N, x ∉ S) : IsW w' N v D j := h.kept (fun x hx => hc.block x (h.nl x hx) (hS x hx))
theorem IsV.w {w : World} {N : List Nat} {v : Value} {D : St} {j : Jr} (h : IsV w N v D j) : IsW w N v D j := by
  obtain ⟨A, ca, X, cx, P, sa, sc, ra, rc, ms, hv, h⟩ := h
  exact ⟨A, ca, X, cx, P, sa, sc, ra, rc, ms, hv, ⟨h.k, h.st, h.rr, h.rs⟩⟩
theorem IsV.ok {w : World} {N : List Nat} {v : Value} {D : St} {j : Jr} (h : IsV w N v D j) : j.ok (half D) := by
  obtain ⟨A, ca, X, cx, P, sa, sc, ra, rc, ms, hv, h⟩ := h
  exact h.ok
theorem IsW.v {w : World} {N : List Nat} {v : Value} {D : St} {j : Jr} (h : IsW w N v D j) (ho : j.ok (half D)) : IsV w N v D j := by
  obtain ⟨A, ca, X, cx, P, sa, sc, ra, rc, ms, hv, h⟩ := h
  exact ⟨A, ca, X, cx, P, sa, sc, ra, rc, ms, hv, ⟨h.k, h.st, h.rr, h.rs, ho⟩⟩
/-- no journal -/
def j0 : Jr := ⟨0, [], [], 0, false⟩
theorem IsW.bare {w : World} {N : List Nat} {D : St} {A X : Option Addr} {ca cx : Nat} {P : List Pm} (h : IsK' w N D A ca X cx P) (t e : Nat) :
    IsW w N (.agg #[.slice A (64 * D.n) ca, .slice X P.length cx, .bool D.x, .int .i64 D.f, .int .i64 (t : Int), .slice none 0 0, .slice none 0 0, .int .i64 (e : Int), .bool false]) D ⟨t, [], [], e, false⟩ :=
  ⟨A, ca, X, cx, P, none, 0, none, 0, [], rfl, h, ⟨RB.nil, Nat.le_refl _, Nat.zero_le _, fun hp => by simp at hp⟩, ⟨Rd.nil, Nat.le_refl _, Nat.zero_le _, fun hp => by simp at hp, fun m hm => by cases hm⟩, rfl⟩

def ROpenP (w : World) (N0 : List Nat) (D : St) (e : Ending) (w' : World) : Prop :=
  ∃ v N, e = .returned (.tuple #[v, .int .i64 (openE D)]) ∧ IsW w' N v (openD D) ((openJ D).getD j0) ∧ Below w.heap.size w w' ∧ ∀ x ∈ N, x ∈ N0 ∨ w.heap.size ≤ x
def RLoadQ (w : World) (N0 : List Nat) (D : St) (k : Nat) (e : Ending) (w' : World) : Prop :=
  Below w.heap.size w w' ∧ ∃ (zA : Option Addr) (zn zc : Nat) (zX : Option Addr) (zp zk : Nat) (zx : Bool) (zf : Int) (zt : Nat) (zS : Option Addr) (zl zs : Nat) (zR : Option Addr) (zr zq : Nat) (ze : Int) (zb : Bool) (p : Bool), e = .returned (.tuple #[.agg #[.slice zA zn zc, .slice zX zp zk, .bool zx, .int .i64 zf, .int .i64 (zt : Int), .slice zS zl zs, .slice zR zr zq, .int .i64 ze, .bool zb], .bool p]) ∧
    ((p = false ∧ loadD D k = none) ∨ (p = true ∧ ∃ j N, loadD D k = some j ∧ j.t = zt ∧ IsV w' N (.agg #[.slice zA zn zc, .slice zX zp zk, .bool zx, .int .i64 zf, .int .i64 (zt : Int), .slice zS zl zs, .slice zR zr zq, .int .i64 ze, .bool zb]) D j ∧ ∀ x ∈ N, x ∈ N0 ∨ w.heap.size ≤ x))
theorem RLoadP.q {w : World} {N0 : List Nat} {D : St} {k : Nat} {e : Ending} {w' : World} (h : RLoadP w N0 D k e w') : RLoadQ w N0 D k e w' := by
  obtain ⟨hb, ⟨h1, rfl⟩ | ⟨j, v, N, h1, rfl, h2, h3⟩⟩ := h
  · exact ⟨hb, _, _, _, _, _, _, _, _, 0, _, _, _, _, _, _, _, _, _, rfl, .inl ⟨rfl, h1⟩⟩
  · have h2' := h2
    obtain ⟨A, ca, X, cx, P, sa, sc, ra, rc, ms, rfl, h⟩ := h2'
    exact ⟨hb, _, _, _, _, _, _, _, _, j.t, _, _, _, _, _, _, _, _, _, rfl, .inr ⟨rfl, j, N, h1, rfl, h2, h3⟩⟩
theorem loadD_par (D : St) (k : Nat) (j : Jr) (h : loadD D k = some j) : j.t % 2 = k := by
  unfold loadD at h
  cases h0 : first0 (halfL D k) k with
  | none => rw [h0] at h; cases h
  | some j1 =>
    rw [h0] at h
    injection h with h
    subst h
    rw [loadR_t]
    unfold first0 at h0
    split at h0
    · cases h0
    · split at h0
      · rename_i hh
        injection h0 with h0
        subst h0
        exact hh.2
      · cases h0

theorem openR_eq (D : St) : wrJ D (fst D 1 + 0) (fst D 1 + half D) (blockL 1 0 []) = openR D := by
  have h1 : fst D 1 = half D := by unfold fst; omega
  unfold openR
  rw [h1, Nat.add_zero, show half D + half D = 2 * half D by omega]

set_option maxRecDepth 100000 in
set_option maxHeartbeats 2000000 in
theorem ropen_calls (v : Value) (N0 : List Nat) (D : St) (w : World) (h : IsK w N0 v D) (hc : Calm D) (hD : D.n ≤ 100) :
    Calls Try.prog 32 #[v] w (ROpenP w N0 D) := by
  have HKV := Lib.hid h
  obtain ⟨A, ca, X, cx, P, rfl, h⟩ := h
  have HKK := Lib.hid h
  have HC := Lib.hid hc
  have hq50 : half D ≤ 50 := by unfold half; omega
  have HHF : ∀ w', Below w.heap.size w w' → Hid (Calls Try.prog 54 #[kval D A ca X cx P] w' fun e w'' => e = .returned (.int .i64 (half D : Int)) ∧ Below w'.heap.size w' w'') := fun w' hb => rhalf_calls _ N0 D w' (HKV.out.below hb)
  have HLDX : D.x = false → ∀ (k : Nat), k < 2 → ∀ w', Below w.heap.size w w' → Hid (Calls Try.prog 56 #[kval D A ca X cx P, .int .i64 (k : Int)] w' (RLoadQ w' N0 D k)) := fun hx k hk w' hb =>
    (rload_calls _ N0 D k w' (HKV.out.below hb) hk hx hD).mono fun _ _ h => h.q
  have HWRX : ∀ w' B c, Below w.heap.size w w' → RB w' B (blockL 1 0 []) → Hid (Calls Try.prog 55 #[kval D A ca X cx P, .int .i64 1, .int .i64 0, .slice B 64 c] w' (KP w' N0 (openR D).1 fun v' => .tuple #[v', .int .i64 (if (openR D).2 = true then 0 else 10)])) ∨ half D = 0 := fun w' B c hb hr => by
    by_cases hz : half D = 0
    · exact .inr hz
    · have := rwr_calls _ N0 D 1 0 B 64 c (blockL 1 0 []) w' (HKV.out.below hb) blk0_len hr (by omega) (by omega) (by omega) hD (by have := HC.out.l; omega)
      rw [openR_eq] at this
      exact .inl (Lib.hid this)
  unfold kval at HHF HLDX HWRX ⊢
  have hb2 := below2 w (.cells #[.slice A (64 * D.n) ca, .slice X P.length cx, .bool D.x, .int .i64 D.f] 42) (.cells #[.slice none 0 0, .slice none 0 0, .bool false, .int .i64 0, .int .i64 0, .slice none 0 0, .slice none 0 0, .int .i64 0, .bool false] 46)
  have hk0 : ((w.alloc (.cells #[.slice A (64 * D.n) ca, .slice X P.length cx, .bool D.x, .int .i64 D.f] 42)).alloc (.cells #[.slice none 0 0, .slice none 0 0, .bool false, .int .i64 0, .int .i64 0, .slice none 0 0, .slice none 0 0, .int .i64 0, .bool false] 46)).heap[w.heap.size]? = _ := (Below.heap_alloc _ _ _ (by simp)).trans (heap_alloc_new _ _)
  have hk1 : ((w.alloc (.cells #[.slice A (64 * D.n) ca, .slice X P.length cx, .bool D.x, .int .i64 D.f] 42)).alloc (.cells #[.slice none 0 0, .slice none 0 0, .bool false, .int .i64 0, .int .i64 0, .slice none 0 0, .slice none 0 0, .int .i64 0, .bool false] 46)).heap[w.heap.size + 1]? = _ := heap_alloc2_new _ _ _
  obtain ⟨w2, HW2⟩ : ∃ x, Hid ((w.alloc (.cells #[.slice A (64 * D.n) ca, .slice X P.length cx, .bool D.x, .int .i64 D.f] 42)).alloc (.cells #[.slice none 0 0, .slice none 0 0, .bool false, .int .i64 0, .int .i64 0, .slice none 0 0, .slice none 0 0, .int .i64 0, .bool false] 46) = x) := ⟨_, rfl⟩
  rw [HW2.out] at hb2 hk0 hk1
  have HB2 := Lib.hid hb2
  have HK0 := Lib.hid hk0
  have HK1 := Lib.hid hk1
  have hs2 : w.heap.size + 1 < w2.heap.size := (Array.getElem?_eq_some_iff.1 hk1).1
  have HH2 := Lib.hid (HHF w2 hb2).out
  -- what is returned: a journal in block 1
  have HRET : Hid (∀ er N c0 c1 c2 c3 c4 c5 c6 c7 c8 w', openE D = er → IsW w' N (.agg #[c0, c1, c2, c3, c4, c5, c6, c7, c8]) (openD D) ((openJ D).getD j0) → Below w.heap.size w w' → (∀ x ∈ N, x ∈ N0 ∨ w.heap.size + 1 < x) →
      ROpenP w N0 D (.returned (.tuple #[.agg #[c0, c1, c2, c3, c4, c5, c6, c7, c8], .int .i64 er])) ((((((((((w'.setCell ⟨w.heap.size + 1, 0, none⟩ c0).setCell ⟨w.heap.size + 1, 1, none⟩ c1).setCell ⟨w.heap.size + 1, 2, none⟩ c2).setCell ⟨w.heap.size + 1, 3, none⟩ c3).setCell ⟨w.heap.size + 1, 4, none⟩ c4).setCell ⟨w.heap.size + 1, 5, none⟩ c5).setCell ⟨w.heap.size + 1, 6, none⟩ c6).setCell ⟨w.heap.size + 1, 7, none⟩ c7).setCell ⟨w.heap.size + 1, 8, none⟩ c8))) := by
    intro er N c0 c1 c2 c3 c4 c5 c6 c7 c8 w' he hw hb hn
    have hcs := chg_set9 w' (w.heap.size + 1) c0 c1 c2 c3 c4 c5 c6 c7 c8
    refine ⟨_, N, by rw [he], hw.chg hcs (fun x hx hm => ?_), hb.trans (hcs.below hb.size (by simp)), fun x hx => (hn x hx).imp id fun h => by omega⟩
    simp only [List.mem_singleton] at hm
    subst hm
    rcases hn _ hx with h | h
    · have := HKK.out.nl _ h; omega
    · omega
  clear h hc hb2 hk0 hk1 HHF
  obtain ⟨q, HQ⟩ : ∃ x, Hid (half D = x) := ⟨_, rfl⟩
  obtain ⟨N, HN⟩ : ∃ x, Hid (64 * D.n = x) := ⟨_, rfl⟩
  obtain ⟨pl, HPL⟩ : ∃ x, Hid (P.length = x) := ⟨_, rfl⟩
  rw [HQ.out] at hq50 HH2
  rw [HQ.out] at HWRX
  rw [HN.out, HPL.out] at HH2 HLDX HWRX HW2 HK0 ⊢
  have HNONE : Hid (∀ er w', openE D = er → openD D = D → openJ D = none → Below w.heap.size w w' → ROpenP w N0 D (.returned (.tuple #[.agg #[.slice A N ca, .slice X pl cx, .bool D.x, .int .i64 D.f, .int .i64 0, .slice none 0 0, .slice none 0 0, .int .i64 0, .bool false], .int .i64 er])) (((((((((w'.setCell ⟨w.heap.size + 1, 0, none⟩ (.slice A N ca)).setCell ⟨w.heap.size + 1, 1, none⟩ (.slice X pl cx)).setCell ⟨w.heap.size + 1, 2, none⟩ (.bool D.x)).setCell ⟨w.heap.size + 1, 3, none⟩ (.int .i64 D.f)).setCell ⟨w.heap.size + 1, 4, none⟩ (.int .i64 0)).setCell ⟨w.heap.size + 1, 5, none⟩ (.slice none 0 0)).setCell ⟨w.heap.size + 1, 6, none⟩ (.slice none 0 0)).setCell ⟨w.heap.size + 1, 7, none⟩ (.int .i64 0)).setCell ⟨w.heap.size + 1, 8, none⟩ (.bool false))) := by
    intro er w' h1 h2 h3 hb
    refine HRET.out er N0 _ _ _ _ _ _ _ _ _ w' h1 ?_ hb (fun x hx => .inl hx)
    rw [h2, h3]
    have := IsW.bare (HKK.out.below hb) 0 0
    rw [HN.out, HPL.out] at this
    exact this
  by_cases h0 : q = 0
  · have d0 : ((q : Int) == 0) = true := by simpa using h0
    have e1 : half D = 0 := by rw [HQ.out]; exact h0
    have HF := fun w' hb => Lib.hid (HNONE.out 8 w' (by unfold openE; rw [if_pos e1]) (by unfold openD; rw [if_pos e1]) (by unfold openJ; rw [if_pos e1]) hb)
    clear h0 e1 HLDX HWRX
    have rc0 : w2.cell? ⟨w.heap.size, 0, none⟩ = some _ := (cell_of_row _ _ 0 _ _ _ HK0.out).trans rfl; have rc1 : w2.cell? ⟨w.heap.size, 1, none⟩ = some _ := (cell_of_row _ _ 1 _ _ _ HK0.out).trans rfl; have rc2 : w2.cell? ⟨w.heap.size, 2, none⟩ = some _ := (cell_of_row _ _ 2 _ _ _ HK0.out).trans rfl; have rc3 : w2.cell? ⟨w.heap.size, 3, none⟩ = some _ := (cell_of_row _ _ 3 _ _ _ HK0.out).trans rfl
    go_enter Try.func32, Try.ntmps32
    go_upto_region 1 with (fail)
    rw [HW2.out]
    go_wp2_with fail
    (with_reducible refine HH2.out.mono ?_)
    rintro e w3 ⟨rfl, hb3⟩
    have HB3 := Lib.hid (HB2.out.trans (hb3.mono HB2.out.size))
    have HK03 := Lib.hid ((hb3.block _ (by omega)).trans HK0.out)
    have HK13 := Lib.hid ((hb3.block _ (by omega)).trans HK1.out)
    clear hb3 rc0 rc1 rc2 rc3
    have rc0 : w3.cell? ⟨w.heap.size, 0, none⟩ = some _ := (cell_of_row _ _ 0 _ _ _ HK03.out).trans rfl; have rc1 : w3.cell? ⟨w.heap.size, 1, none⟩ = some _ := (cell_of_row _ _ 1 _ _ _ HK03.out).trans rfl; have rc2 : w3.cell? ⟨w.heap.size, 2, none⟩ = some _ := (cell_of_row _ _ 2 _ _ _ HK03.out).trans rfl; have rc3 : w3.cell? ⟨w.heap.size, 3, none⟩ = some _ := (cell_of_row _ _ 3 _ _ _ HK03.out).trans rfl
    have zc0 : w3.cell? ⟨w.heap.size + 1, 0, none⟩ = some _ := (cell_of_row _ _ 0 _ _ _ HK13.out).trans rfl; have zf0 : w3.frozen? ⟨w.heap.size + 1, 0, none⟩ = false := frozen_of_row _ _ _ _ _ HK13.out; have zc1 : w3.cell? ⟨w.heap.size + 1, 1, none⟩ = some _ := (cell_of_row _ _ 1 _ _ _ HK13.out).trans rfl; have zf1 : w3.frozen? ⟨w.heap.size + 1, 1, none⟩ = false := frozen_of_row _ _ _ _ _ HK13.out; have zc2 : w3.cell? ⟨w.heap.size + 1, 2, none⟩ = some _ := (cell_of_row _ _ 2 _ _ _ HK13.out).trans rfl; have zf2 : w3.frozen? ⟨w.heap.size + 1, 2, none⟩ = false := frozen_of_row _ _ _ _ _ HK13.out; have zc3 : w3.cell? ⟨w.heap.size + 1, 3, none⟩ = some _ := (cell_of_row _ _ 3 _ _ _ HK13.out).trans rfl; have zf3 : w3.frozen? ⟨w.heap.size + 1, 3, none⟩ = false := frozen_of_row _ _ _ _ _ HK13.out; have zc4 : w3.cell? ⟨w.heap.size + 1, 4, none⟩ = some _ := (cell_of_row _ _ 4 _ _ _ HK13.out).trans rfl; have zf4 : w3.frozen? ⟨w.heap.size + 1, 4, none⟩ = false := frozen_of_row _ _ _ _ _ HK13.out; have zc5 : w3.cell? ⟨w.heap.size + 1, 5, none⟩ = some _ := (cell_of_row _ _ 5 _ _ _ HK13.out).trans rfl; have zf5 : w3.frozen? ⟨w.heap.size + 1, 5, none⟩ = false := frozen_of_row _ _ _ _ _ HK13.out; have zc6 : w3.cell? ⟨w.heap.size + 1, 6, none⟩ = some _ := (cell_of_row _ _ 6 _ _ _ HK13.out).trans rfl; have zf6 : w3.frozen? ⟨w.heap.size + 1, 6, none⟩ = false := frozen_of_row _ _ _ _ _ HK13.out; have zc7 : w3.cell? ⟨w.heap.size + 1, 7, none⟩ = some _ := (cell_of_row _ _ 7 _ _ _ HK13.out).trans rfl; have zf7 : w3.frozen? ⟨w.heap.size + 1, 7, none⟩ = false := frozen_of_row _ _ _ _ _ HK13.out; have zc8 : w3.cell? ⟨w.heap.size + 1, 8, none⟩ = some _ := (cell_of_row _ _ 8 _ _ _ HK13.out).trans rfl; have zf8 : w3.frozen? ⟨w.heap.size + 1, 8, none⟩ = false := frozen_of_row _ _ _ _ _ HK13.out
    go_wp2_with fail
    have hz := heap_set9 HK13.out (.slice A N ca) (.slice X pl cx) (.bool D.x) (.int .i64 D.f) (.int .i64 0) (.slice none 0 0) (.slice none 0 0) (.int .i64 0) (.bool false)
    refine bodyPost_ret (results_cell_tmp rfl _ _ (w.heap.size + 1) 46 _ (0, 0) _ rfl hz Try.underlying46 rfl size_jr) rfl ?_
    exact (HF w3 HB3.out).out
  have d0 : ((q : Int) == 0) = false := by rw [beq_eq_false_iff_ne]; omega
  have e1 : ¬ half D = 0 := by rw [HQ.out]; exact h0
  have HNZ := Lib.hid e1
  have HWR2 : ∀ w' B c, Below w.heap.size w w' → RB w' B (blockL 1 0 []) → Hid (Calls Try.prog 55 #[.agg #[.slice A N ca, .slice X pl cx, .bool D.x, .int .i64 D.f], .int .i64 1, .int .i64 0, .slice B 64 c] w' (KP w' N0 (openR D).1 fun v' => .tuple #[v', .int .i64 (if (openR D).2 = true then 0 else 10)])) := fun w' B c hb hr => by
    rcases HWRX w' B c hb hr with h | h
    · exact h
    · exact absurd h h0
  clear HWRX e1 h0
  cases hx : D.x with
  | true =>
    have HF := fun w' hb => Lib.hid (HNONE.out 10 w' (by unfold openE; rw [if_neg HNZ.out, if_pos hx]) (by unfold openD; rw [if_neg HNZ.out, if_pos hx]) (by unfold openJ; rw [if_neg HNZ.out, if_pos hx]) hb)
    rw [hx] at HH2 HK0 HW2 HF
    clear HLDX HWR2 HNONE hx
    have rc0 : w2.cell? ⟨w.heap.size, 0, none⟩ = some _ := (cell_of_row _ _ 0 _ _ _ HK0.out).trans rfl; have rc1 : w2.cell? ⟨w.heap.size, 1, none⟩ = some _ := (cell_of_row _ _ 1 _ _ _ HK0.out).trans rfl; have rc2 : w2.cell? ⟨w.heap.size, 2, none⟩ = some _ := (cell_of_row _ _ 2 _ _ _ HK0.out).trans rfl; have rc3 : w2.cell? ⟨w.heap.size, 3, none⟩ = some _ := (cell_of_row _ _ 3 _ _ _ HK0.out).trans rfl
    go_enter Try.func32, Try.ntmps32
    go_upto_region 1 with (fail)
    rw [HW2.out]
    go_wp2_with fail
    (with_reducible refine HH2.out.mono ?_)
    rintro e w3 ⟨rfl, hb3⟩
    have HB3 := Lib.hid (HB2.out.trans (hb3.mono HB2.out.size))
    have HK03 := Lib.hid ((hb3.block _ (by omega)).trans HK0.out)
    have HK13 := Lib.hid ((hb3.block _ (by omega)).trans HK1.out)
    clear hb3 rc0 rc1 rc2 rc3
    have rc0 : w3.cell? ⟨w.heap.size, 0, none⟩ = some _ := (cell_of_row _ _ 0 _ _ _ HK03.out).trans rfl; have rc1 : w3.cell? ⟨w.heap.size, 1, none⟩ = some _ := (cell_of_row _ _ 1 _ _ _ HK03.out).trans rfl; have rc2 : w3.cell? ⟨w.heap.size, 2, none⟩ = some _ := (cell_of_row _ _ 2 _ _ _ HK03.out).trans rfl; have rc3 : w3.cell? ⟨w.heap.size, 3, none⟩ = some _ := (cell_of_row _ _ 3 _ _ _ HK03.out).trans rfl
    have zc0 : w3.cell? ⟨w.heap.size + 1, 0, none⟩ = some _ := (cell_of_row _ _ 0 _ _ _ HK13.out).trans rfl; have zf0 : w3.frozen? ⟨w.heap.size + 1, 0, none⟩ = false := frozen_of_row _ _ _ _ _ HK13.out; have zc1 : w3.cell? ⟨w.heap.size + 1, 1, none⟩ = some _ := (cell_of_row _ _ 1 _ _ _ HK13.out).trans rfl; have zf1 : w3.frozen? ⟨w.heap.size + 1, 1, none⟩ = false := frozen_of_row _ _ _ _ _ HK13.out; have zc2 : w3.cell? ⟨w.heap.size + 1, 2, none⟩ = some _ := (cell_of_row _ _ 2 _ _ _ HK13.out).trans rfl; have zf2 : w3.frozen? ⟨w.heap.size + 1, 2, none⟩ = false := frozen_of_row _ _ _ _ _ HK13.out; have zc3 : w3.cell? ⟨w.heap.size + 1, 3, none⟩ = some _ := (cell_of_row _ _ 3 _ _ _ HK13.out).trans rfl; have zf3 : w3.frozen? ⟨w.heap.size + 1, 3, none⟩ = false := frozen_of_row _ _ _ _ _ HK13.out; have zc4 : w3.cell? ⟨w.heap.size + 1, 4, none⟩ = some _ := (cell_of_row _ _ 4 _ _ _ HK13.out).trans rfl; have zf4 : w3.frozen? ⟨w.heap.size + 1, 4, none⟩ = false := frozen_of_row _ _ _ _ _ HK13.out; have zc5 : w3.cell? ⟨w.heap.size + 1, 5, none⟩ = some _ := (cell_of_row _ _ 5 _ _ _ HK13.out).trans rfl; have zf5 : w3.frozen? ⟨w.heap.size + 1, 5, none⟩ = false := frozen_of_row _ _ _ _ _ HK13.out; have zc6 : w3.cell? ⟨w.heap.size + 1, 6, none⟩ = some _ := (cell_of_row _ _ 6 _ _ _ HK13.out).trans rfl; have zf6 : w3.frozen? ⟨w.heap.size + 1, 6, none⟩ = false := frozen_of_row _ _ _ _ _ HK13.out; have zc7 : w3.cell? ⟨w.heap.size + 1, 7, none⟩ = some _ := (cell_of_row _ _ 7 _ _ _ HK13.out).trans rfl; have zf7 : w3.frozen? ⟨w.heap.size + 1, 7, none⟩ = false := frozen_of_row _ _ _ _ _ HK13.out; have zc8 : w3.cell? ⟨w.heap.size + 1, 8, none⟩ = some _ := (cell_of_row _ _ 8 _ _ _ HK13.out).trans rfl; have zf8 : w3.frozen? ⟨w.heap.size + 1, 8, none⟩ = false := frozen_of_row _ _ _ _ _ HK13.out
    go_wp2_with fail
    have hz := heap_set9 HK13.out (.slice A N ca) (.slice X pl cx) (.bool true) (.int .i64 D.f) (.int .i64 0) (.slice none 0 0) (.slice none 0 0) (.int .i64 0) (.bool false)
    refine bodyPost_ret (results_cell_tmp rfl _ _ (w.heap.size + 1) 46 _ (0, 0) _ rfl hz Try.underlying46 rfl size_jr) rfl ?_
    exact (HF w3 HB3.out).out
  | false =>
    have HLD := HLDX hx
    have HX := Lib.hid hx
    rw [hx] at HH2 HK0 HW2 HLD HWR2
    clear HLDX HNONE hx
    have rc0 : w2.cell? ⟨w.heap.size, 0, none⟩ = some _ := (cell_of_row _ _ 0 _ _ _ HK0.out).trans rfl; have rc1 : w2.cell? ⟨w.heap.size, 1, none⟩ = some _ := (cell_of_row _ _ 1 _ _ _ HK0.out).trans rfl; have rc2 : w2.cell? ⟨w.heap.size, 2, none⟩ = some _ := (cell_of_row _ _ 2 _ _ _ HK0.out).trans rfl; have rc3 : w2.cell? ⟨w.heap.size, 3, none⟩ = some _ := (cell_of_row _ _ 3 _ _ _ HK0.out).trans rfl
    go_enter Try.func32, Try.ntmps32
    go_upto_region 1 with (fail)
    rw [HW2.out]
    go_wp2_with fail
    (with_reducible refine HH2.out.mono ?_)
    rintro e w3 ⟨rfl, hb3⟩
    have HB3 := Lib.hid (HB2.out.trans (hb3.mono HB2.out.size))
    have HK03 := Lib.hid ((hb3.block _ (by omega)).trans HK0.out)
    have HK13 := Lib.hid ((hb3.block _ (by omega)).trans HK1.out)
    have hs3 : w.heap.size + 1 < w3.heap.size := Nat.lt_of_lt_of_le hs2 hb3.size
    have HL0 := Lib.hid (HLD 0 (by omega) w3 HB3.out).out
    clear hb3 rc0 rc1 rc2 rc3 HH2
    rw [show ((0 : Nat) : Int) = 0 from rfl] at HL0
    have rc0 : w3.cell? ⟨w.heap.size, 0, none⟩ = some _ := (cell_of_row _ _ 0 _ _ _ HK03.out).trans rfl; have rc1 : w3.cell? ⟨w.heap.size, 1, none⟩ = some _ := (cell_of_row _ _ 1 _ _ _ HK03.out).trans rfl; have rc2 : w3.cell? ⟨w.heap.size, 2, none⟩ = some _ := (cell_of_row _ _ 2 _ _ _ HK03.out).trans rfl; have rc3 : w3.cell? ⟨w.heap.size, 3, none⟩ = some _ := (cell_of_row _ _ 3 _ _ _ HK03.out).trans rfl
    go_wp2_with fail
    (with_reducible refine HL0.out.mono ?_)
    rintro e w4 ⟨hb4, uA, un, uc, uX, up, uk, ux, uf, ut, uS, ul, us, uR, ur, uq, ue, ub, p, rfl, hpa⟩
    have HPA := Lib.hid hpa
    have hb5 := below1 w4 (.cells #[.slice uA un uc, .slice uX up uk, .bool ux, .int .i64 uf, .int .i64 (ut : Int), .slice uS ul us, .slice uR ur uq, .int .i64 ue, .bool ub] 46)
    have hx5 := heap_alloc_new w4 (.cells #[.slice uA un uc, .slice uX up uk, .bool ux, .int .i64 uf, .int .i64 (ut : Int), .slice uS ul us, .slice uR ur uq, .int .i64 ue, .bool ub] 46)
    go_upto_region 6 with (fail)
    generalize w4.alloc (.cells #[.slice uA un uc, .slice uX up uk, .bool ux, .int .i64 uf, .int .i64 (ut : Int), .slice uS ul us, .slice uR ur uq, .int .i64 ue, .bool ub] 46) = w5 at *
    have HA5 := Lib.hid hx5
    have HB5 := Lib.hid (HB3.out.trans ((hb4.trans (hb5.mono hb4.size)).mono HB3.out.size))
    have HK05 := Lib.hid ((hb5.block _ (by have := hb4.size; omega)).trans ((hb4.block _ (by omega)).trans HK03.out))
    have HK15 := Lib.hid ((hb5.block _ (by have := hb4.size; omega)).trans ((hb4.block _ (by omega)).trans HK13.out))
    have hs4 := hb4.size
    have hs5 : w4.heap.size < w5.heap.size := (Array.getElem?_eq_some_iff.1 hx5).1
    have HPA5 : Hid ((p = false ∧ loadD D 0 = none) ∨ (p = true ∧ ∃ j N, loadD D 0 = some j ∧ j.t = ut ∧ IsV w5 N (.agg #[.slice uA un uc, .slice uX up uk, .bool ux, .int .i64 uf, .int .i64 (ut : Int), .slice uS ul us, .slice uR ur uq, .int .i64 ue, .bool ub]) D j ∧ ∀ x ∈ N, x ∈ N0 ∨ w.heap.size + 1 < x)) := by
      rcases HPA.out with h | ⟨h1, j, N, h2, h3, h4, h5⟩
      · exact .inl h
      · exact .inr ⟨h1, j, N, h2, h3, h4.below hb5, fun x hx => (h5 x hx).imp id fun h => by omega⟩
    have HL1 := Lib.hid (HLD 1 (by omega) w5 HB5.out).out
    rw [show ((1 : Nat) : Int) = 1 from rfl] at HL1
    clear hpa HPA hb4 hb5 hx5 HL0 HLD HB3 HK03 HK13 rc0 rc1 rc2 rc3
    obtain ⟨ab, HAB⟩ : ∃ y, Hid (w4.heap.size = y) := ⟨_, rfl⟩
    rw [HAB.out] at hs4 hs5 HA5 ⊢
    have rc0 : w5.cell? ⟨w.heap.size, 0, none⟩ = some _ := (cell_of_row _ _ 0 _ _ _ HK05.out).trans rfl; have rc1 : w5.cell? ⟨w.heap.size, 1, none⟩ = some _ := (cell_of_row _ _ 1 _ _ _ HK05.out).trans rfl; have rc2 : w5.cell? ⟨w.heap.size, 2, none⟩ = some _ := (cell_of_row _ _ 2 _ _ _ HK05.out).trans rfl; have rc3 : w5.cell? ⟨w.heap.size, 3, none⟩ = some _ := (cell_of_row _ _ 3 _ _ _ HK05.out).trans rfl
    go_wp2_with fail
    (with_reducible refine HL1.out.mono ?_)
    rintro e w6 ⟨hb6, vA, vn, vc, vX, vp, vk, vx, vf, vt, vS, vl, vs, vR, vr, vq, ve, vb, p', rfl, hpb⟩
    have HPB := Lib.hid hpb
    have hb7 := below1 w6 (.cells #[.slice vA vn vc, .slice vX vp vk, .bool vx, .int .i64 vf, .int .i64 (vt : Int), .slice vS vl vs, .slice vR vr vq, .int .i64 ve, .bool vb] 46)
    have hx7 := heap_alloc_new w6 (.cells #[.slice vA vn vc, .slice vX vp vk, .bool vx, .int .i64 vf, .int .i64 (vt : Int), .slice vS vl vs, .slice vR vr vq, .int .i64 ve, .bool vb] 46)
    go_upto_region 7 with (fail)
    generalize w6.alloc (.cells #[.slice vA vn vc, .slice vX vp vk, .bool vx, .int .i64 vf, .int .i64 (vt : Int), .slice vS vl vs, .slice vR vr vq, .int .i64 ve, .bool vb] 46) = w7 at *
    have HX7 := Lib.hid hx7
    have hb57 := hb6.trans (hb7.mono hb6.size)
    have HB7 := Lib.hid (HB5.out.trans (hb57.mono HB5.out.size))
    have HK07 := Lib.hid ((hb57.block _ (by omega)).trans HK05.out)
    have HK17 := Lib.hid ((hb57.block _ (by omega)).trans HK15.out)
    have HA7 := Lib.hid ((hb57.block _ hs5).trans HA5.out)
    have hs6 := hb6.size
    have hs7 : w6.heap.size < w7.heap.size := (Array.getElem?_eq_some_iff.1 hx7).1
    have HPA7 : Hid ((p = false ∧ loadD D 0 = none) ∨ (p = true ∧ ∃ j N, loadD D 0 = some j ∧ j.t = ut ∧ IsV w7 N (.agg #[.slice uA un uc, .slice uX up uk, .bool ux, .int .i64 uf, .int .i64 (ut : Int), .slice uS ul us, .slice uR ur uq, .int .i64 ue, .bool ub]) D j ∧ ∀ x ∈ N, x ∈ N0 ∨ w.heap.size + 1 < x)) := by
      rcases HPA5.out with h | ⟨h1, j, N, h2, h3, h4, h5⟩
      · exact .inl h
      · exact .inr ⟨h1, j, N, h2, h3, h4.below hb57, h5⟩
    have HPB7 : Hid ((p' = false ∧ loadD D 1 = none) ∨ (p' = true ∧ ∃ j N, loadD D 1 = some j ∧ j.t = vt ∧ IsV w7 N (.agg #[.slice vA vn vc, .slice vX vp vk, .bool vx, .int .i64 vf, .int .i64 (vt : Int), .slice vS vl vs, .slice vR vr vq, .int .i64 ve, .bool vb]) D j ∧ ∀ x ∈ N, x ∈ N0 ∨ w.heap.size + 1 < x)) := by
      rcases HPB.out with h | ⟨h1, j, N, h2, h3, h4, h5⟩
      · exact .inl h
      · exact .inr ⟨h1, j, N, h2, h3, h4.below hb7, fun x hx => (h5 x hx).imp id fun h => by omega⟩
    have hw7 : w.heap.size + 1 < w7.heap.size := by omega
    clear hpb HPB HPA5 hb6 hb7 hb57 hx7 HL1 HB5 HK05 HK15 HA5 rc0 rc1 rc2 rc3
    obtain ⟨bb, HBB⟩ : ∃ y, Hid (w6.heap.size = y) := ⟨_, rfl⟩
    rw [HBB.out] at hs6 hs7 HX7 ⊢
    have HBEST : Hid (∀ j, best (loadD D 0) (loadD D 1) = some j → openE D = 0 ∧ openD D = D ∧ openJ D = some j) := by
      intro j hj
      have hnx : ¬ D.x = true := by rw [HX.out]; simp
      exact ⟨by unfold openE; rw [if_neg HNZ.out, if_neg hnx, hj], by unfold openD; rw [if_neg HNZ.out, if_neg hnx, hj], by unfold openJ; rw [if_neg HNZ.out, if_neg hnx, hj]⟩
    have HRA : Hid (∀ j N c0 c1 c2 c3 c4 c5 c6 c7 c8, best (loadD D 0) (loadD D 1) = some j → IsV w7 N (.agg #[c0, c1, c2, c3, c4, c5, c6, c7, c8]) D j → (∀ x ∈ N, x ∈ N0 ∨ w.heap.size + 1 < x) →
        ROpenP w N0 D (.returned (.tuple #[.agg #[c0, c1, c2, c3, c4, c5, c6, c7, c8], .int .i64 0])) ((((((((((w7.setCell ⟨w.heap.size + 1, 0, none⟩ c0).setCell ⟨w.heap.size + 1, 1, none⟩ c1).setCell ⟨w.heap.size + 1, 2, none⟩ c2).setCell ⟨w.heap.size + 1, 3, none⟩ c3).setCell ⟨w.heap.size + 1, 4, none⟩ c4).setCell ⟨w.heap.size + 1, 5, none⟩ c5).setCell ⟨w.heap.size + 1, 6, none⟩ c6).setCell ⟨w.heap.size + 1, 7, none⟩ c7).setCell ⟨w.heap.size + 1, 8, none⟩ c8))) := by
      intro j N c0 c1 c2 c3 c4 c5 c6 c7 c8 hj hv hn
      obtain ⟨o1, o2, o3⟩ := HBEST.out j hj
      exact HRET.out 0 N c0 c1 c2 c3 c4 c5 c6 c7 c8 w7 o1 (by rw [o2, o3]; exact hv.w) HB7.out hn
    have HPR : Hid (∀ k j, loadD D k = some j → j.t % 2 = k) := fun k j h => loadD_par D k j h
    have xc0 : w7.cell? ⟨ab, 0, none⟩ = some _ := (cell_of_row _ _ 0 _ _ _ HA7.out).trans rfl; have xc1 : w7.cell? ⟨ab, 1, none⟩ = some _ := (cell_of_row _ _ 1 _ _ _ HA7.out).trans rfl; have xc2 : w7.cell? ⟨ab, 2, none⟩ = some _ := (cell_of_row _ _ 2 _ _ _ HA7.out).trans rfl; have xc3 : w7.cell? ⟨ab, 3, none⟩ = some _ := (cell_of_row _ _ 3 _ _ _ HA7.out).trans rfl; have xc4 : w7.cell? ⟨ab, 4, none⟩ = some _ := (cell_of_row _ _ 4 _ _ _ HA7.out).trans rfl; have xc5 : w7.cell? ⟨ab, 5, none⟩ = some _ := (cell_of_row _ _ 5 _ _ _ HA7.out).trans rfl; have xc6 : w7.cell? ⟨ab, 6, none⟩ = some _ := (cell_of_row _ _ 6 _ _ _ HA7.out).trans rfl; have xc7 : w7.cell? ⟨ab, 7, none⟩ = some _ := (cell_of_row _ _ 7 _ _ _ HA7.out).trans rfl; have xc8 : w7.cell? ⟨ab, 8, none⟩ = some _ := (cell_of_row _ _ 8 _ _ _ HA7.out).trans rfl
    have yc0 : w7.cell? ⟨bb, 0, none⟩ = some _ := (cell_of_row _ _ 0 _ _ _ HX7.out).trans rfl; have yc1 : w7.cell? ⟨bb, 1, none⟩ = some _ := (cell_of_row _ _ 1 _ _ _ HX7.out).trans rfl; have yc2 : w7.cell? ⟨bb, 2, none⟩ = some _ := (cell_of_row _ _ 2 _ _ _ HX7.out).trans rfl; have yc3 : w7.cell? ⟨bb, 3, none⟩ = some _ := (cell_of_row _ _ 3 _ _ _ HX7.out).trans rfl; have yc4 : w7.cell? ⟨bb, 4, none⟩ = some _ := (cell_of_row _ _ 4 _ _ _ HX7.out).trans rfl; have yc5 : w7.cell? ⟨bb, 5, none⟩ = some _ := (cell_of_row _ _ 5 _ _ _ HX7.out).trans rfl; have yc6 : w7.cell? ⟨bb, 6, none⟩ = some _ := (cell_of_row _ _ 6 _ _ _ HX7.out).trans rfl; have yc7 : w7.cell? ⟨bb, 7, none⟩ = some _ := (cell_of_row _ _ 7 _ _ _ HX7.out).trans rfl; have yc8 : w7.cell? ⟨bb, 8, none⟩ = some _ := (cell_of_row _ _ 8 _ _ _ HX7.out).trans rfl
    rcases HPA7.out with ⟨rfl, hl0⟩ | ⟨rfl, ja, Na, hl0, hta, hva, hna⟩
    · rcases HPB7.out with ⟨rfl, hl1⟩ | ⟨rfl, jb, Nb, hl1, htb, hvb, hnb⟩
      · have HNB : Hid (openE D = (if (openR D).2 = true then 0 else 10) ∧ openD D = (openR D).1 ∧ openJ D = if (openR D).2 = true then some newJ else none) := by
          have hnx : ¬ D.x = true := by rw [HX.out]; simp
          have hj : best (loadD D 0) (loadD D 1) = none := by rw [hl0, hl1]; rfl
          exact ⟨by unfold openE; rw [if_neg HNZ.out, if_neg hnx, hj], by unfold openD; rw [if_neg HNZ.out, if_neg hnx, hj], by unfold openJ; rw [if_neg HNZ.out, if_neg hnx, hj]⟩
        have hbl := rblock_calls 1 0 none 0 0 [] w7 rfl RB.nil (by omega) (by omega) (by omega)
        rw [show ((1 : Nat) : Int) = 1 from rfl, show ((0 : Nat) : Int) = 0 from rfl] at hbl
        have HBL := Lib.hid hbl
        clear hbl
        have HBLN : Hid ((blockL 1 0 []).length = 64) := blk0_len
        clear hl0 hl1 HPA7 HPB7 HRA HBEST HPR
        go_upto_region 11 with (fail)
        clear xc0 xc1 xc2 xc3 xc4 xc5 xc6 xc7 xc8 yc0 yc1 yc2 yc3 yc4 yc5 yc6 yc7 yc8
        go_wp2_with fail
        (with_reducible refine HBL.out.mono ?_)
        rintro e w8 ⟨Y, c, k, rfl, hk, ho, hb8⟩
        have hk64 : k = 64 := by rw [hk, HBLN.out]
        subst hk64
        have HB8 := Lib.hid (HB7.out.trans (hb8.mono HB7.out.size))
        have HK08 := Lib.hid ((hb8.block _ (by omega)).trans HK07.out)
        have HK18 := Lib.hid ((hb8.block _ hw7).trans HK17.out)
        have HWQ := Lib.hid (HWR2 w8 Y c HB8.out ho.rb.1).out
        have hs8 := hb8.size
        clear hk ho hb8 HBL HWR2
        have rc0 : w8.cell? ⟨w.heap.size, 0, none⟩ = some _ := (cell_of_row _ _ 0 _ _ _ HK08.out).trans rfl; have rc1 : w8.cell? ⟨w.heap.size, 1, none⟩ = some _ := (cell_of_row _ _ 1 _ _ _ HK08.out).trans rfl; have rc2 : w8.cell? ⟨w.heap.size, 2, none⟩ = some _ := (cell_of_row _ _ 2 _ _ _ HK08.out).trans rfl; have rc3 : w8.cell? ⟨w.heap.size, 3, none⟩ = some _ := (cell_of_row _ _ 3 _ _ _ HK08.out).trans rfl
        go_wp2_with fail
        (with_reducible refine HWQ.out.mono ?_)
        rintro e w9 ⟨v', N9, he, ⟨A9, ca9, X9, cx9, P9, rfl, hk9⟩, hb9, hn9⟩
        unfold kval at he
        have HB9 := Lib.hid (HB8.out.trans (hb9.mono HB8.out.size))
        have HK09 := Lib.hid ((hb9.block _ (by omega)).trans HK08.out)
        have HK19 := Lib.hid ((hb9.block _ (by omega)).trans HK18.out)
        have HN9 : Hid (∀ x ∈ N9, x ∈ N0 ∨ w.heap.size + 1 < x) := fun x hx => (hn9 x hx).imp id fun h => by omega
        have HI9 := Lib.hid hk9
        obtain ⟨o1, o2, o3⟩ := HNB.out
        have HO1 := Lib.hid o1
        have HO2 := Lib.hid o2
        have HO3 := Lib.hid o3
        clear o1 o2 o3 hb9 hn9 hk9 HWQ HNB rc0 rc1 rc2 rc3
        generalize openR D = ro at *
        obtain ⟨D9, bo⟩ := ro
        simp only at *
        obtain ⟨N9L, HN9L⟩ : ∃ y, Hid (64 * D9.n = y) := ⟨_, rfl⟩
        obtain ⟨pl9, HPL9⟩ : ∃ y, Hid (P9.length = y) := ⟨_, rfl⟩
        rw [HN9L.out, HPL9.out] at he
        cases bo with
        | true =>
          rw [if_pos rfl] at he HO1 HO3
          subst he
          have vc0 : w9.cell? ⟨w.heap.size, 0, none⟩ = some _ := (cell_of_row _ _ 0 _ _ _ HK09.out).trans rfl; have vf0 : w9.frozen? ⟨w.heap.size, 0, none⟩ = false := frozen_of_row _ _ _ _ _ HK09.out; have vc1 : w9.cell? ⟨w.heap.size, 1, none⟩ = some _ := (cell_of_row _ _ 1 _ _ _ HK09.out).trans rfl; have vf1 : w9.frozen? ⟨w.heap.size, 1, none⟩ = false := frozen_of_row _ _ _ _ _ HK09.out; have vc2 : w9.cell? ⟨w.heap.size, 2, none⟩ = some _ := (cell_of_row _ _ 2 _ _ _ HK09.out).trans rfl; have vf2 : w9.frozen? ⟨w.heap.size, 2, none⟩ = false := frozen_of_row _ _ _ _ _ HK09.out; have vc3 : w9.cell? ⟨w.heap.size, 3, none⟩ = some _ := (cell_of_row _ _ 3 _ _ _ HK09.out).trans rfl; have vf3 : w9.frozen? ⟨w.heap.size, 3, none⟩ = false := frozen_of_row _ _ _ _ _ HK09.out
          go_upto_region 13 with (fail)
          have hcs := chg_set4 w9 w.heap.size (.slice A9 N9L ca9) (.slice X9 pl9 cx9) (.bool D9.x) (.int .i64 D9.f)
          have HK0a := Lib.hid (heap_set4 HK09.out (.slice A9 N9L ca9) (.slice X9 pl9 cx9) (.bool D9.x) (.int .i64 D9.f))
          have HK1a := Lib.hid (hcs.blk HK19.out (by simp))
          have HBa := Lib.hid (HB9.out.trans (hcs.below HB9.out.size (by simp)))
          have HIa := Lib.hid (HI9.out.kept (fun x hx => hcs.block x (HI9.out.nl x hx) (fun hm => by
            simp only [List.mem_singleton] at hm
            subst hm
            rcases HN9.out _ hx with h | h
            · have := HKK.out.nl _ h; omega
            · omega)) hcs.size)
          clear hcs vc0 vc1 vc2 vc3 vf0 vf1 vf2 vf3
          generalize (((w9.setCell ⟨w.heap.size, 0, none⟩ (.slice A9 N9L ca9)).setCell ⟨w.heap.size, 1, none⟩ (.slice X9 pl9 cx9)).setCell ⟨w.heap.size, 2, none⟩ (.bool D9.x)).setCell ⟨w.heap.size, 3, none⟩ (.int .i64 D9.f) = wa at *
          have HF : Hid (ROpenP w N0 D (.returned (.tuple #[.agg #[.slice A9 N9L ca9, .slice X9 pl9 cx9, .bool D9.x, .int .i64 D9.f, .int .i64 1, .slice none 0 0, .slice none 0 0, .int .i64 1, .bool false], .int .i64 0])) (((((((((wa.setCell ⟨w.heap.size + 1, 0, none⟩ (.slice A9 N9L ca9)).setCell ⟨w.heap.size + 1, 1, none⟩ (.slice X9 pl9 cx9)).setCell ⟨w.heap.size + 1, 2, none⟩ (.bool D9.x)).setCell ⟨w.heap.size + 1, 3, none⟩ (.int .i64 D9.f)).setCell ⟨w.heap.size + 1, 4, none⟩ (.int .i64 1)).setCell ⟨w.heap.size + 1, 5, none⟩ (.slice none 0 0)).setCell ⟨w.heap.size + 1, 6, none⟩ (.slice none 0 0)).setCell ⟨w.heap.size + 1, 7, none⟩ (.int .i64 1)).setCell ⟨w.heap.size + 1, 8, none⟩ (.bool false))) := by
            refine HRET.out 0 N9 _ _ _ _ _ _ _ _ _ wa HO1.out ?_ HBa.out HN9.out
            rw [HO2.out, HO3.out, ← HN9L.out, ← HPL9.out]
            exact IsW.bare HIa.out 1 1
          have rc0 : wa.cell? ⟨w.heap.size, 0, none⟩ = some _ := (cell_of_row _ _ 0 _ _ _ HK0a.out).trans rfl; have rc1 : wa.cell? ⟨w.heap.size, 1, none⟩ = some _ := (cell_of_row _ _ 1 _ _ _ HK0a.out).trans rfl; have rc2 : wa.cell? ⟨w.heap.size, 2, none⟩ = some _ := (cell_of_row _ _ 2 _ _ _ HK0a.out).trans rfl; have rc3 : wa.cell? ⟨w.heap.size, 3, none⟩ = some _ := (cell_of_row _ _ 3 _ _ _ HK0a.out).trans rfl
          have zc0 : wa.cell? ⟨w.heap.size + 1, 0, none⟩ = some _ := (cell_of_row _ _ 0 _ _ _ HK1a.out).trans rfl; have zf0 : wa.frozen? ⟨w.heap.size + 1, 0, none⟩ = false := frozen_of_row _ _ _ _ _ HK1a.out; have zc1 : wa.cell? ⟨w.heap.size + 1, 1, none⟩ = some _ := (cell_of_row _ _ 1 _ _ _ HK1a.out).trans rfl; have zf1 : wa.frozen? ⟨w.heap.size + 1, 1, none⟩ = false := frozen_of_row _ _ _ _ _ HK1a.out; have zc2 : wa.cell? ⟨w.heap.size + 1, 2, none⟩ = some _ := (cell_of_row _ _ 2 _ _ _ HK1a.out).trans rfl; have zf2 : wa.frozen? ⟨w.heap.size + 1, 2, none⟩ = false := frozen_of_row _ _ _ _ _ HK1a.out; have zc3 : wa.cell? ⟨w.heap.size + 1, 3, none⟩ = some _ := (cell_of_row _ _ 3 _ _ _ HK1a.out).trans rfl; have zf3 : wa.frozen? ⟨w.heap.size + 1, 3, none⟩ = false := frozen_of_row _ _ _ _ _ HK1a.out; have zc4 : wa.cell? ⟨w.heap.size + 1, 4, none⟩ = some _ := (cell_of_row _ _ 4 _ _ _ HK1a.out).trans rfl; have zf4 : wa.frozen? ⟨w.heap.size + 1, 4, none⟩ = false := frozen_of_row _ _ _ _ _ HK1a.out; have zc5 : wa.cell? ⟨w.heap.size + 1, 5, none⟩ = some _ := (cell_of_row _ _ 5 _ _ _ HK1a.out).trans rfl; have zf5 : wa.frozen? ⟨w.heap.size + 1, 5, none⟩ = false := frozen_of_row _ _ _ _ _ HK1a.out; have zc6 : wa.cell? ⟨w.heap.size + 1, 6, none⟩ = some _ := (cell_of_row _ _ 6 _ _ _ HK1a.out).trans rfl; have zf6 : wa.frozen? ⟨w.heap.size + 1, 6, none⟩ = false := frozen_of_row _ _ _ _ _ HK1a.out; have zc7 : wa.cell? ⟨w.heap.size + 1, 7, none⟩ = some _ := (cell_of_row _ _ 7 _ _ _ HK1a.out).trans rfl; have zf7 : wa.frozen? ⟨w.heap.size + 1, 7, none⟩ = false := frozen_of_row _ _ _ _ _ HK1a.out; have zc8 : wa.cell? ⟨w.heap.size + 1, 8, none⟩ = some _ := (cell_of_row _ _ 8 _ _ _ HK1a.out).trans rfl; have zf8 : wa.frozen? ⟨w.heap.size + 1, 8, none⟩ = false := frozen_of_row _ _ _ _ _ HK1a.out
          go_wp2_with fail
          have hz := heap_set9 HK1a.out (.slice A9 N9L ca9) (.slice X9 pl9 cx9) (.bool D9.x) (.int .i64 D9.f) (.int .i64 1) (.slice none 0 0) (.slice none 0 0) (.int .i64 1) (.bool false)
          refine bodyPost_ret (results_cell_tmp rfl _ _ (w.heap.size + 1) 46 _ (0, 0) _ rfl hz Try.underlying46 rfl size_jr) rfl ?_
          exact HF.out
        | false =>
          rw [if_neg (by simp)] at he HO1 HO3
          subst he
          have vc0 : w9.cell? ⟨w.heap.size, 0, none⟩ = some _ := (cell_of_row _ _ 0 _ _ _ HK09.out).trans rfl; have vf0 : w9.frozen? ⟨w.heap.size, 0, none⟩ = false := frozen_of_row _ _ _ _ _ HK09.out; have vc1 : w9.cell? ⟨w.heap.size, 1, none⟩ = some _ := (cell_of_row _ _ 1 _ _ _ HK09.out).trans rfl; have vf1 : w9.frozen? ⟨w.heap.size, 1, none⟩ = false := frozen_of_row _ _ _ _ _ HK09.out; have vc2 : w9.cell? ⟨w.heap.size, 2, none⟩ = some _ := (cell_of_row _ _ 2 _ _ _ HK09.out).trans rfl; have vf2 : w9.frozen? ⟨w.heap.size, 2, none⟩ = false := frozen_of_row _ _ _ _ _ HK09.out; have vc3 : w9.cell? ⟨w.heap.size, 3, none⟩ = some _ := (cell_of_row _ _ 3 _ _ _ HK09.out).trans rfl; have vf3 : w9.frozen? ⟨w.heap.size, 3, none⟩ = false := frozen_of_row _ _ _ _ _ HK09.out
          go_upto_region 13 with (fail)
          have hcs := chg_set4 w9 w.heap.size (.slice A9 N9L ca9) (.slice X9 pl9 cx9) (.bool D9.x) (.int .i64 D9.f)
          have HK0a := Lib.hid (heap_set4 HK09.out (.slice A9 N9L ca9) (.slice X9 pl9 cx9) (.bool D9.x) (.int .i64 D9.f))
          have HK1a := Lib.hid (hcs.blk HK19.out (by simp))
          have HBa := Lib.hid (HB9.out.trans (hcs.below HB9.out.size (by simp)))
          have HIa := Lib.hid (HI9.out.kept (fun x hx => hcs.block x (HI9.out.nl x hx) (fun hm => by
            simp only [List.mem_singleton] at hm
            subst hm
            rcases HN9.out _ hx with h | h
            · have := HKK.out.nl _ h; omega
            · omega)) hcs.size)
          clear hcs vc0 vc1 vc2 vc3 vf0 vf1 vf2 vf3
          generalize (((w9.setCell ⟨w.heap.size, 0, none⟩ (.slice A9 N9L ca9)).setCell ⟨w.heap.size, 1, none⟩ (.slice X9 pl9 cx9)).setCell ⟨w.heap.size, 2, none⟩ (.bool D9.x)).setCell ⟨w.heap.size, 3, none⟩ (.int .i64 D9.f) = wa at *
          have HF : Hid (ROpenP w N0 D (.returned (.tuple #[.agg #[.slice A9 N9L ca9, .slice X9 pl9 cx9, .bool D9.x, .int .i64 D9.f, .int .i64 0, .slice none 0 0, .slice none 0 0, .int .i64 0, .bool false], .int .i64 10])) (((((((((wa.setCell ⟨w.heap.size + 1, 0, none⟩ (.slice A9 N9L ca9)).setCell ⟨w.heap.size + 1, 1, none⟩ (.slice X9 pl9 cx9)).setCell ⟨w.heap.size + 1, 2, none⟩ (.bool D9.x)).setCell ⟨w.heap.size + 1, 3, none⟩ (.int .i64 D9.f)).setCell ⟨w.heap.size + 1, 4, none⟩ (.int .i64 0)).setCell ⟨w.heap.size + 1, 5, none⟩ (.slice none 0 0)).setCell ⟨w.heap.size + 1, 6, none⟩ (.slice none 0 0)).setCell ⟨w.heap.size + 1, 7, none⟩ (.int .i64 0)).setCell ⟨w.heap.size + 1, 8, none⟩ (.bool false))) := by
            refine HRET.out 10 N9 _ _ _ _ _ _ _ _ _ wa HO1.out ?_ HBa.out HN9.out
            rw [HO2.out, HO3.out, ← HN9L.out, ← HPL9.out]
            exact IsW.bare HIa.out 0 0
          have rc0 : wa.cell? ⟨w.heap.size, 0, none⟩ = some _ := (cell_of_row _ _ 0 _ _ _ HK0a.out).trans rfl; have rc1 : wa.cell? ⟨w.heap.size, 1, none⟩ = some _ := (cell_of_row _ _ 1 _ _ _ HK0a.out).trans rfl; have rc2 : wa.cell? ⟨w.heap.size, 2, none⟩ = some _ := (cell_of_row _ _ 2 _ _ _ HK0a.out).trans rfl; have rc3 : wa.cell? ⟨w.heap.size, 3, none⟩ = some _ := (cell_of_row _ _ 3 _ _ _ HK0a.out).trans rfl
          have zc0 : wa.cell? ⟨w.heap.size + 1, 0, none⟩ = some _ := (cell_of_row _ _ 0 _ _ _ HK1a.out).trans rfl; have zf0 : wa.frozen? ⟨w.heap.size + 1, 0, none⟩ = false := frozen_of_row _ _ _ _ _ HK1a.out; have zc1 : wa.cell? ⟨w.heap.size + 1, 1, none⟩ = some _ := (cell_of_row _ _ 1 _ _ _ HK1a.out).trans rfl; have zf1 : wa.frozen? ⟨w.heap.size + 1, 1, none⟩ = false := frozen_of_row _ _ _ _ _ HK1a.out; have zc2 : wa.cell? ⟨w.heap.size + 1, 2, none⟩ = some _ := (cell_of_row _ _ 2 _ _ _ HK1a.out).trans rfl; have zf2 : wa.frozen? ⟨w.heap.size + 1, 2, none⟩ = false := frozen_of_row _ _ _ _ _ HK1a.out; have zc3 : wa.cell? ⟨w.heap.size + 1, 3, none⟩ = some _ := (cell_of_row _ _ 3 _ _ _ HK1a.out).trans rfl; have zf3 : wa.frozen? ⟨w.heap.size + 1, 3, none⟩ = false := frozen_of_row _ _ _ _ _ HK1a.out; have zc4 : wa.cell? ⟨w.heap.size + 1, 4, none⟩ = some _ := (cell_of_row _ _ 4 _ _ _ HK1a.out).trans rfl; have zf4 : wa.frozen? ⟨w.heap.size + 1, 4, none⟩ = false := frozen_of_row _ _ _ _ _ HK1a.out; have zc5 : wa.cell? ⟨w.heap.size + 1, 5, none⟩ = some _ := (cell_of_row _ _ 5 _ _ _ HK1a.out).trans rfl; have zf5 : wa.frozen? ⟨w.heap.size + 1, 5, none⟩ = false := frozen_of_row _ _ _ _ _ HK1a.out; have zc6 : wa.cell? ⟨w.heap.size + 1, 6, none⟩ = some _ := (cell_of_row _ _ 6 _ _ _ HK1a.out).trans rfl; have zf6 : wa.frozen? ⟨w.heap.size + 1, 6, none⟩ = false := frozen_of_row _ _ _ _ _ HK1a.out; have zc7 : wa.cell? ⟨w.heap.size + 1, 7, none⟩ = some _ := (cell_of_row _ _ 7 _ _ _ HK1a.out).trans rfl; have zf7 : wa.frozen? ⟨w.heap.size + 1, 7, none⟩ = false := frozen_of_row _ _ _ _ _ HK1a.out; have zc8 : wa.cell? ⟨w.heap.size + 1, 8, none⟩ = some _ := (cell_of_row _ _ 8 _ _ _ HK1a.out).trans rfl; have zf8 : wa.frozen? ⟨w.heap.size + 1, 8, none⟩ = false := frozen_of_row _ _ _ _ _ HK1a.out
          go_wp2_with fail
          have hz := heap_set9 HK1a.out (.slice A9 N9L ca9) (.slice X9 pl9 cx9) (.bool D9.x) (.int .i64 D9.f) (.int .i64 0) (.slice none 0 0) (.slice none 0 0) (.int .i64 0) (.bool false)
          refine bodyPost_ret (results_cell_tmp rfl _ _ (w.heap.size + 1) 46 _ (0, 0) _ rfl hz Try.underlying46 rfl size_jr) rfl ?_
          exact HF.out
      · have HF := Lib.hid (HRA.out jb Nb (.slice vA vn vc) (.slice vX vp vk) (.bool vx) (.int .i64 vf) (.int .i64 (vt : Int)) (.slice vS vl vs) (.slice vR vr vq) (.int .i64 ve) (.bool vb) (by rw [hl0, hl1]; rfl) hvb hnb)
        clear hl0 hl1 hvb hnb htb HPA7 HPB7 HRA HWR2
        have zc0 : w7.cell? ⟨w.heap.size + 1, 0, none⟩ = some _ := (cell_of_row _ _ 0 _ _ _ HK17.out).trans rfl; have zf0 : w7.frozen? ⟨w.heap.size + 1, 0, none⟩ = false := frozen_of_row _ _ _ _ _ HK17.out; have zc1 : w7.cell? ⟨w.heap.size + 1, 1, none⟩ = some _ := (cell_of_row _ _ 1 _ _ _ HK17.out).trans rfl; have zf1 : w7.frozen? ⟨w.heap.size + 1, 1, none⟩ = false := frozen_of_row _ _ _ _ _ HK17.out; have zc2 : w7.cell? ⟨w.heap.size + 1, 2, none⟩ = some _ := (cell_of_row _ _ 2 _ _ _ HK17.out).trans rfl; have zf2 : w7.frozen? ⟨w.heap.size + 1, 2, none⟩ = false := frozen_of_row _ _ _ _ _ HK17.out; have zc3 : w7.cell? ⟨w.heap.size + 1, 3, none⟩ = some _ := (cell_of_row _ _ 3 _ _ _ HK17.out).trans rfl; have zf3 : w7.frozen? ⟨w.heap.size + 1, 3, none⟩ = false := frozen_of_row _ _ _ _ _ HK17.out; have zc4 : w7.cell? ⟨w.heap.size + 1, 4, none⟩ = some _ := (cell_of_row _ _ 4 _ _ _ HK17.out).trans rfl; have zf4 : w7.frozen? ⟨w.heap.size + 1, 4, none⟩ = false := frozen_of_row _ _ _ _ _ HK17.out; have zc5 : w7.cell? ⟨w.heap.size + 1, 5, none⟩ = some _ := (cell_of_row _ _ 5 _ _ _ HK17.out).trans rfl; have zf5 : w7.frozen? ⟨w.heap.size + 1, 5, none⟩ = false := frozen_of_row _ _ _ _ _ HK17.out; have zc6 : w7.cell? ⟨w.heap.size + 1, 6, none⟩ = some _ := (cell_of_row _ _ 6 _ _ _ HK17.out).trans rfl; have zf6 : w7.frozen? ⟨w.heap.size + 1, 6, none⟩ = false := frozen_of_row _ _ _ _ _ HK17.out; have zc7 : w7.cell? ⟨w.heap.size + 1, 7, none⟩ = some _ := (cell_of_row _ _ 7 _ _ _ HK17.out).trans rfl; have zf7 : w7.frozen? ⟨w.heap.size + 1, 7, none⟩ = false := frozen_of_row _ _ _ _ _ HK17.out; have zc8 : w7.cell? ⟨w.heap.size + 1, 8, none⟩ = some _ := (cell_of_row _ _ 8 _ _ _ HK17.out).trans rfl; have zf8 : w7.frozen? ⟨w.heap.size + 1, 8, none⟩ = false := frozen_of_row _ _ _ _ _ HK17.out
        go_wp2_with fail
        have hz := heap_set9 HK17.out (.slice vA vn vc) (.slice vX vp vk) (.bool vx) (.int .i64 vf) (.int .i64 (vt : Int)) (.slice vS vl vs) (.slice vR vr vq) (.int .i64 ve) (.bool vb)
        refine bodyPost_ret (results_cell_tmp rfl _ _ (w.heap.size + 1) 46 _ (0, 0) _ rfl hz Try.underlying46 rfl size_jr) rfl ?_
        exact HF.out
    · rcases HPB7.out with ⟨rfl, hl1⟩ | ⟨rfl, jb, Nb, hl1, htb, hvb, hnb⟩
      · have HF := Lib.hid (HRA.out ja Na (.slice uA un uc) (.slice uX up uk) (.bool ux) (.int .i64 uf) (.int .i64 (ut : Int)) (.slice uS ul us) (.slice uR ur uq) (.int .i64 ue) (.bool ub) (by rw [hl0, hl1]; rfl) hva hna)
        clear hl0 hl1 hva hna hta HPA7 HPB7 HRA HWR2
        have zc0 : w7.cell? ⟨w.heap.size + 1, 0, none⟩ = some _ := (cell_of_row _ _ 0 _ _ _ HK17.out).trans rfl; have zf0 : w7.frozen? ⟨w.heap.size + 1, 0, none⟩ = false := frozen_of_row _ _ _ _ _ HK17.out; have zc1 : w7.cell? ⟨w.heap.size + 1, 1, none⟩ = some _ := (cell_of_row _ _ 1 _ _ _ HK17.out).trans rfl; have zf1 : w7.frozen? ⟨w.heap.size + 1, 1, none⟩ = false := frozen_of_row _ _ _ _ _ HK17.out; have zc2 : w7.cell? ⟨w.heap.size + 1, 2, none⟩ = some _ := (cell_of_row _ _ 2 _ _ _ HK17.out).trans rfl; have zf2 : w7.frozen? ⟨w.heap.size + 1, 2, none⟩ = false := frozen_of_row _ _ _ _ _ HK17.out; have zc3 : w7.cell? ⟨w.heap.size + 1, 3, none⟩ = some _ := (cell_of_row _ _ 3 _ _ _ HK17.out).trans rfl; have zf3 : w7.frozen? ⟨w.heap.size + 1, 3, none⟩ = false := frozen_of_row _ _ _ _ _ HK17.out; have zc4 : w7.cell? ⟨w.heap.size + 1, 4, none⟩ = some _ := (cell_of_row _ _ 4 _ _ _ HK17.out).trans rfl; have zf4 : w7.frozen? ⟨w.heap.size + 1, 4, none⟩ = false := frozen_of_row _ _ _ _ _ HK17.out; have zc5 : w7.cell? ⟨w.heap.size + 1, 5, none⟩ = some _ := (cell_of_row _ _ 5 _ _ _ HK17.out).trans rfl; have zf5 : w7.frozen? ⟨w.heap.size + 1, 5, none⟩ = false := frozen_of_row _ _ _ _ _ HK17.out; have zc6 : w7.cell? ⟨w.heap.size + 1, 6, none⟩ = some _ := (cell_of_row _ _ 6 _ _ _ HK17.out).trans rfl; have zf6 : w7.frozen? ⟨w.heap.size + 1, 6, none⟩ = false := frozen_of_row _ _ _ _ _ HK17.out; have zc7 : w7.cell? ⟨w.heap.size + 1, 7, none⟩ = some _ := (cell_of_row _ _ 7 _ _ _ HK17.out).trans rfl; have zf7 : w7.frozen? ⟨w.heap.size + 1, 7, none⟩ = false := frozen_of_row _ _ _ _ _ HK17.out; have zc8 : w7.cell? ⟨w.heap.size + 1, 8, none⟩ = some _ := (cell_of_row _ _ 8 _ _ _ HK17.out).trans rfl; have zf8 : w7.frozen? ⟨w.heap.size + 1, 8, none⟩ = false := frozen_of_row _ _ _ _ _ HK17.out
        go_wp2_with fail
        have hz := heap_set9 HK17.out (.slice uA un uc) (.slice uX up uk) (.bool ux) (.int .i64 uf) (.int .i64 (ut : Int)) (.slice uS ul us) (.slice uR ur uq) (.int .i64 ue) (.bool ub)
        refine bodyPost_ret (results_cell_tmp rfl _ _ (w.heap.size + 1) 46 _ (0, 0) _ rfl hz Try.underlying46 rfl size_jr) rfl ?_
        exact HF.out
      · have hpa := HPR.out 0 ja hl0
        have hpb := HPR.out 1 jb hl1
        by_cases hlt : vt < ut
        · have d1 : decide ((vt : Int) < (ut : Int)) = true := by simp; omega
          have d1' : decide (vt < ut) = true := by simpa using hlt
          have HF := Lib.hid (HRA.out ja Na (.slice uA un uc) (.slice uX up uk) (.bool ux) (.int .i64 uf) (.int .i64 (ut : Int)) (.slice uS ul us) (.slice uR ur uq) (.int .i64 ue) (.bool ub) (by rw [hl0, hl1]; exact best_ge (by omega)) hva hna)
          clear hl0 hl1 hva hna hta hvb hnb htb HPA7 HPB7 HRA HWR2 hlt hpa hpb
          have zc0 : w7.cell? ⟨w.heap.size + 1, 0, none⟩ = some _ := (cell_of_row _ _ 0 _ _ _ HK17.out).trans rfl; have zf0 : w7.frozen? ⟨w.heap.size + 1, 0, none⟩ = false := frozen_of_row _ _ _ _ _ HK17.out; have zc1 : w7.cell? ⟨w.heap.size + 1, 1, none⟩ = some _ := (cell_of_row _ _ 1 _ _ _ HK17.out).trans rfl; have zf1 : w7.frozen? ⟨w.heap.size + 1, 1, none⟩ = false := frozen_of_row _ _ _ _ _ HK17.out; have zc2 : w7.cell? ⟨w.heap.size + 1, 2, none⟩ = some _ := (cell_of_row _ _ 2 _ _ _ HK17.out).trans rfl; have zf2 : w7.frozen? ⟨w.heap.size + 1, 2, none⟩ = false := frozen_of_row _ _ _ _ _ HK17.out; have zc3 : w7.cell? ⟨w.heap.size + 1, 3, none⟩ = some _ := (cell_of_row _ _ 3 _ _ _ HK17.out).trans rfl; have zf3 : w7.frozen? ⟨w.heap.size + 1, 3, none⟩ = false := frozen_of_row _ _ _ _ _ HK17.out; have zc4 : w7.cell? ⟨w.heap.size + 1, 4, none⟩ = some _ := (cell_of_row _ _ 4 _ _ _ HK17.out).trans rfl; have zf4 : w7.frozen? ⟨w.heap.size + 1, 4, none⟩ = false := frozen_of_row _ _ _ _ _ HK17.out; have zc5 : w7.cell? ⟨w.heap.size + 1, 5, none⟩ = some _ := (cell_of_row _ _ 5 _ _ _ HK17.out).trans rfl; have zf5 : w7.frozen? ⟨w.heap.size + 1, 5, none⟩ = false := frozen_of_row _ _ _ _ _ HK17.out; have zc6 : w7.cell? ⟨w.heap.size + 1, 6, none⟩ = some _ := (cell_of_row _ _ 6 _ _ _ HK17.out).trans rfl; have zf6 : w7.frozen? ⟨w.heap.size + 1, 6, none⟩ = false := frozen_of_row _ _ _ _ _ HK17.out; have zc7 : w7.cell? ⟨w.heap.size + 1, 7, none⟩ = some _ := (cell_of_row _ _ 7 _ _ _ HK17.out).trans rfl; have zf7 : w7.frozen? ⟨w.heap.size + 1, 7, none⟩ = false := frozen_of_row _ _ _ _ _ HK17.out; have zc8 : w7.cell? ⟨w.heap.size + 1, 8, none⟩ = some _ := (cell_of_row _ _ 8 _ _ _ HK17.out).trans rfl; have zf8 : w7.frozen? ⟨w.heap.size + 1, 8, none⟩ = false := frozen_of_row _ _ _ _ _ HK17.out
          go_wp2_with fail
          have hz := heap_set9 HK17.out (.slice uA un uc) (.slice uX up uk) (.bool ux) (.int .i64 uf) (.int .i64 (ut : Int)) (.slice uS ul us) (.slice uR ur uq) (.int .i64 ue) (.bool ub)
          refine bodyPost_ret (results_cell_tmp rfl _ _ (w.heap.size + 1) 46 _ (0, 0) _ rfl hz Try.underlying46 rfl size_jr) rfl ?_
          exact HF.out
        · have d1 : decide ((vt : Int) < (ut : Int)) = false := by simp; omega
          have d1' : decide (vt < ut) = false := by simpa using hlt
          have HF := Lib.hid (HRA.out jb Nb (.slice vA vn vc) (.slice vX vp vk) (.bool vx) (.int .i64 vf) (.int .i64 (vt : Int)) (.slice vS vl vs) (.slice vR vr vq) (.int .i64 ve) (.bool vb) (by rw [hl0, hl1]; exact best_lt (by omega)) hvb hnb)
          clear hl0 hl1 hva hna hta hvb hnb htb HPA7 HPB7 HRA HWR2 hlt hpa hpb
          have zc0 : w7.cell? ⟨w.heap.size + 1, 0, none⟩ = some _ := (cell_of_row _ _ 0 _ _ _ HK17.out).trans rfl; have zf0 : w7.frozen? ⟨w.heap.size + 1, 0, none⟩ = false := frozen_of_row _ _ _ _ _ HK17.out; have zc1 : w7.cell? ⟨w.heap.size + 1, 1, none⟩ = some _ := (cell_of_row _ _ 1 _ _ _ HK17.out).trans rfl; have zf1 : w7.frozen? ⟨w.heap.size + 1, 1, none⟩ = false := frozen_of_row _ _ _ _ _ HK17.out; have zc2 : w7.cell? ⟨w.heap.size + 1, 2, none⟩ = some _ := (cell_of_row _ _ 2 _ _ _ HK17.out).trans rfl; have zf2 : w7.frozen? ⟨w.heap.size + 1, 2, none⟩ = false := frozen_of_row _ _ _ _ _ HK17.out; have zc3 : w7.cell? ⟨w.heap.size + 1, 3, none⟩ = some _ := (cell_of_row _ _ 3 _ _ _ HK17.out).trans rfl; have zf3 : w7.frozen? ⟨w.heap.size + 1, 3, none⟩ = false := frozen_of_row _ _ _ _ _ HK17.out; have zc4 : w7.cell? ⟨w.heap.size + 1, 4, none⟩ = some _ := (cell_of_row _ _ 4 _ _ _ HK17.out).trans rfl; have zf4 : w7.frozen? ⟨w.heap.size + 1, 4, none⟩ = false := frozen_of_row _ _ _ _ _ HK17.out; have zc5 : w7.cell? ⟨w.heap.size + 1, 5, none⟩ = some _ := (cell_of_row _ _ 5 _ _ _ HK17.out).trans rfl; have zf5 : w7.frozen? ⟨w.heap.size + 1, 5, none⟩ = false := frozen_of_row _ _ _ _ _ HK17.out; have zc6 : w7.cell? ⟨w.heap.size + 1, 6, none⟩ = some _ := (cell_of_row _ _ 6 _ _ _ HK17.out).trans rfl; have zf6 : w7.frozen? ⟨w.heap.size + 1, 6, none⟩ = false := frozen_of_row _ _ _ _ _ HK17.out; have zc7 : w7.cell? ⟨w.heap.size + 1, 7, none⟩ = some _ := (cell_of_row _ _ 7 _ _ _ HK17.out).trans rfl; have zf7 : w7.frozen? ⟨w.heap.size + 1, 7, none⟩ = false := frozen_of_row _ _ _ _ _ HK17.out; have zc8 : w7.cell? ⟨w.heap.size + 1, 8, none⟩ = some _ := (cell_of_row _ _ 8 _ _ _ HK17.out).trans rfl; have zf8 : w7.frozen? ⟨w.heap.size + 1, 8, none⟩ = false := frozen_of_row _ _ _ _ _ HK17.out
          go_wp2_with fail
          have hz := heap_set9 HK17.out (.slice vA vn vc) (.slice vX vp vk) (.bool vx) (.int .i64 vf) (.int .i64 (vt : Int)) (.slice vS vl vs) (.slice vR vr vq) (.int .i64 ve) (.bool vb)
          refine bodyPost_ret (results_cell_tmp rfl _ _ (w.heap.size + 1) 46 _ (0, 0) _ rfl hz Try.underlying46 rfl size_jr) rfl ?_
          exact HF.out
end Jn
end Go.Proofs.Ytmdpmpfjldgalaa
