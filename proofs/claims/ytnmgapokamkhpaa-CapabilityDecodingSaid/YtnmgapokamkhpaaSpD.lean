/- The walks of refmeshref03: rotl, round. -/
import Derived.Test.YtnmgapokamkhpaaSpC
namespace Go.Proofs.Ytnmgapokamkhpaa
open Go.RowKit
namespace Sp
open Sip
attribute [local go_sem ↓] Go.wp_at_zero Go.wp_at_succ

set_option maxRecDepth 100000 in
theorem rotl13_calls (x : BitVec 64) (w : World) :
    Calls Try.prog 41 #[vw x, .int .i64 13] w fun e w' => e = .returned (vw (rot x 13)) ∧ w.drew = w' := by
  go_enter Try.func41, Try.ntmps41
  go_wp2_with fail
  go_region
  all_goals
    go_wp2_with fail
    go_ret
    refine ⟨?_, rfl⟩
    show Ending.returned (.int .u64 (bits .or .u64 (IntKind.u64.wrap ((x.toNat : Int) * 8192)) ((x.toNat : Int) / 2251799813685248))) = _
    rw [show IntKind.u64.wrap ((x.toNat : Int) * (8192 : Int)) = ((x <<< 13).toNat : Int) from shl_bv x 13, show (x.toNat : Int) / (2251799813685248 : Int) = ((x >>> 51).toNat : Int) from shr_bv x 51, or_bv]
    rfl
set_option maxRecDepth 100000 in
theorem rotl16_calls (x : BitVec 64) (w : World) :
    Calls Try.prog 41 #[vw x, .int .i64 16] w fun e w' => e = .returned (vw (rot x 16)) ∧ w.drew = w' := by
  go_enter Try.func41, Try.ntmps41
  go_wp2_with fail
  go_region
  all_goals
    go_wp2_with fail
    go_ret
    refine ⟨?_, rfl⟩
    show Ending.returned (.int .u64 (bits .or .u64 (IntKind.u64.wrap ((x.toNat : Int) * 65536)) ((x.toNat : Int) / 281474976710656))) = _
    rw [show IntKind.u64.wrap ((x.toNat : Int) * (65536 : Int)) = ((x <<< 16).toNat : Int) from shl_bv x 16, show (x.toNat : Int) / (281474976710656 : Int) = ((x >>> 48).toNat : Int) from shr_bv x 48, or_bv]
    rfl
set_option maxRecDepth 100000 in
theorem rotl17_calls (x : BitVec 64) (w : World) :
    Calls Try.prog 41 #[vw x, .int .i64 17] w fun e w' => e = .returned (vw (rot x 17)) ∧ w.drew = w' := by
  go_enter Try.func41, Try.ntmps41
  go_wp2_with fail
  go_region
  all_goals
    go_wp2_with fail
    go_ret
    refine ⟨?_, rfl⟩
    show Ending.returned (.int .u64 (bits .or .u64 (IntKind.u64.wrap ((x.toNat : Int) * 131072)) ((x.toNat : Int) / 140737488355328))) = _
    rw [show IntKind.u64.wrap ((x.toNat : Int) * (131072 : Int)) = ((x <<< 17).toNat : Int) from shl_bv x 17, show (x.toNat : Int) / (140737488355328 : Int) = ((x >>> 47).toNat : Int) from shr_bv x 47, or_bv]
    rfl
set_option maxRecDepth 100000 in
theorem rotl21_calls (x : BitVec 64) (w : World) :
    Calls Try.prog 41 #[vw x, .int .i64 21] w fun e w' => e = .returned (vw (rot x 21)) ∧ w.drew = w' := by
  go_enter Try.func41, Try.ntmps41
  go_wp2_with fail
  go_region
  all_goals
    go_wp2_with fail
    go_ret
    refine ⟨?_, rfl⟩
    show Ending.returned (.int .u64 (bits .or .u64 (IntKind.u64.wrap ((x.toNat : Int) * 2097152)) ((x.toNat : Int) / 8796093022208))) = _
    rw [show IntKind.u64.wrap ((x.toNat : Int) * (2097152 : Int)) = ((x <<< 21).toNat : Int) from shl_bv x 21, show (x.toNat : Int) / (8796093022208 : Int) = ((x >>> 43).toNat : Int) from shr_bv x 43, or_bv]
    rfl
set_option maxRecDepth 100000 in
theorem rotl32_calls (x : BitVec 64) (w : World) :
    Calls Try.prog 41 #[vw x, .int .i64 32] w fun e w' => e = .returned (vw (rot x 32)) ∧ w.drew = w' := by
  go_enter Try.func41, Try.ntmps41
  go_wp2_with fail
  go_region
  all_goals
    go_wp2_with fail
    go_ret
    refine ⟨?_, rfl⟩
    show Ending.returned (.int .u64 (bits .or .u64 (IntKind.u64.wrap ((x.toNat : Int) * 4294967296)) ((x.toNat : Int) / 4294967296))) = _
    rw [show IntKind.u64.wrap ((x.toNat : Int) * (4294967296 : Int)) = ((x <<< 32).toNat : Int) from shl_bv x 32, show (x.toNat : Int) / (4294967296 : Int) = ((x >>> 32).toNat : Int) from shr_bv x 32, or_bv]
    rfl

/-- the round's variable and its result -/
def RS (w wx : World) (s : S4) : Prop := Q4 wx w.heap.size 73 s [] ∧ Q4 wx (w.heap.size + 1) 73 ⟨0, 0, 0, 0⟩ [] ∧ Below w.heap.size w wx
theorem RS.set {w wx : World} {s s' : S4} {j : Nat} {v : Value} (h : RS w wx s) (hq : Q4 (wx.setCell ⟨w.heap.size, j, none⟩ v) w.heap.size 73 s' []) : RS w (wx.setCell ⟨w.heap.size, j, none⟩ v) s' :=
  ⟨hq, (chg_set wx w.heap.size j v).blk h.2.1 (by simp), h.2.2.setCell (p := ⟨w.heap.size, j, none⟩) (Nat.le_refl _) v⟩
theorem RS.drew {w wx : World} {s : S4} (h : RS w wx s) : RS w wx.drew s := ⟨h.1, h.2.1, h.2.2.drew⟩

def st (s : S4) : Value := .agg #[vw s.a, vw s.b, vw s.c, vw s.d]

set_option maxRecDepth 100000 in
set_option maxHeartbeats 2000000 in
theorem round_calls (s : S4) (w : World) :
    Calls Try.prog 37 #[st s] w fun e w' => e = .returned (st (r1 s)) ∧ Below w.heap.size w w' := by
  unfold st
  go_enter Try.func37, Try.ntmps37
  go_upto_region 1 with fail
  have R0 : Hid (RS w ((w.alloc (.cells #[vw s.a, vw s.b, vw s.c, vw s.d] 73)).alloc (.cells #[.int .u64 0, .int .u64 0, .int .u64 0, .int .u64 0] 73)) s) :=
    ⟨(Below.heap_alloc _ _ _ (by simp)).trans (heap_alloc_new _ _), heap_alloc2_new _ _ _, below2 _ _ _⟩
  generalize (w.alloc (.cells #[vw s.a, vw s.b, vw s.c, vw s.d] 73)).alloc (.cells #[.int .u64 0, .int .u64 0, .int .u64 0, .int .u64 0] 73) = w0 at *
  obtain ⟨z1, U1⟩ : ∃ x : S4, Hid (x = { s with a := s.a + s.b }) := ⟨_, rfl⟩
  have c0 := R0.out.1.at0
  have c1 := R0.out.1.at1
  have f0 := R0.out.1.fr (j := 0)
  go_upto_region 2 with fail
  rw [add_bv]
  have R1 : Hid (RS w (w0.setCell ⟨w.heap.size, 0, none⟩ (vw (s.a + s.b))) z1) := by rw [U1.out]; exact R0.out.set (R0.out.1.set0 _)
  clear c0 c1 f0 R0
  generalize w0.setCell ⟨w.heap.size, 0, none⟩ (vw (s.a + s.b)) = w1 at *
  obtain ⟨z2, U2⟩ : ∃ x : S4, Hid (x = { z1 with b := rot z1.b 13 ^^^ z1.a }) := ⟨_, rfl⟩
  go_cut [14] (fun _ wx => RS w wx z2)
  case first =>
    have c0 := R1.out.1.at1
    have c1 := R1.out.1.at0
    have f0 := R1.out.1.fr (j := 1)
    go_region_with (go_at_call 41; refine (rotl13_calls _ _).mono ?_; rintro e w' ⟨rfl, rfl⟩)
    all_goals
      rw [xor_bv]
      go_wp2_with fail
      go_meet
      rw [U2.out]
      exact (R1.out.set (R1.out.1.set1 _)).drew.drew
  case rest =>
  have R2 := Lib.hid hcut
  clear hcut R1
  obtain ⟨w2, rfl⟩ : ∃ x : World, x = wc := ⟨_, rfl⟩
  obtain ⟨z3, U3⟩ : ∃ x : S4, Hid (x = { z2 with a := rot z2.a 32 }) := ⟨_, rfl⟩
  have c0 := R2.out.1.at0
  have f0 := R2.out.1.fr (j := 0)
  go_upto_region 4 with (go_at_call 41; refine (rotl32_calls _ _).mono ?_; rintro e w' ⟨rfl, rfl⟩)
  have R3 : Hid (RS w (w2.setCell ⟨w.heap.size, 0, none⟩ (vw (rot z2.a 32))).drew z3) := by rw [U3.out]; exact (R2.out.set (R2.out.1.set0 _)).drew
  clear c0 f0 R2
  generalize (w2.setCell ⟨w.heap.size, 0, none⟩ (vw (rot z2.a 32))).drew = w3 at *
  obtain ⟨z4, U4⟩ : ∃ x : S4, Hid (x = { z3 with c := z3.c + z3.d }) := ⟨_, rfl⟩
  have c0 := R3.out.1.at2
  have c1 := R3.out.1.at3
  have f0 := R3.out.1.fr (j := 2)
  go_upto_region 5 with fail
  rw [add_bv]
  have R4 : Hid (RS w (w3.setCell ⟨w.heap.size, 2, none⟩ (vw (z3.c + z3.d))) z4) := by rw [U4.out]; exact R3.out.set (R3.out.1.set2 _)
  clear c0 c1 f0 R3
  generalize w3.setCell ⟨w.heap.size, 2, none⟩ (vw (z3.c + z3.d)) = w4 at *
  obtain ⟨z5, U5⟩ : ∃ x : S4, Hid (x = { z4 with d := rot z4.d 16 ^^^ z4.c }) := ⟨_, rfl⟩
  go_cut [31] (fun _ wx => RS w wx z5)
  case first =>
    have c0 := R4.out.1.at3
    have c1 := R4.out.1.at2
    have f0 := R4.out.1.fr (j := 3)
    go_region_with (go_at_call 41; refine (rotl16_calls _ _).mono ?_; rintro e w' ⟨rfl, rfl⟩)
    all_goals
      rw [xor_bv]
      go_wp2_with fail
      go_meet
      rw [U5.out]
      exact (R4.out.set (R4.out.1.set3 _)).drew.drew
  case rest =>
  have R5 := Lib.hid hcut
  clear hcut R4
  obtain ⟨w5, rfl⟩ : ∃ x : World, x = wc := ⟨_, rfl⟩
  obtain ⟨z6, U6⟩ : ∃ x : S4, Hid (x = { z5 with a := z5.a + z5.d }) := ⟨_, rfl⟩
  have c0 := R5.out.1.at0
  have c1 := R5.out.1.at3
  have f0 := R5.out.1.fr (j := 0)
  go_upto_region 7 with fail
  rw [add_bv]
  have R6 : Hid (RS w (w5.setCell ⟨w.heap.size, 0, none⟩ (vw (z5.a + z5.d))) z6) := by rw [U6.out]; exact R5.out.set (R5.out.1.set0 _)
  clear c0 c1 f0 R5
  generalize w5.setCell ⟨w.heap.size, 0, none⟩ (vw (z5.a + z5.d)) = w6 at *
  obtain ⟨z7, U7⟩ : ∃ x : S4, Hid (x = { z6 with d := rot z6.d 21 ^^^ z6.a }) := ⟨_, rfl⟩
  go_cut [44] (fun _ wx => RS w wx z7)
  case first =>
    have c0 := R6.out.1.at3
    have c1 := R6.out.1.at0
    have f0 := R6.out.1.fr (j := 3)
    go_region_with (go_at_call 41; refine (rotl21_calls _ _).mono ?_; rintro e w' ⟨rfl, rfl⟩)
    all_goals
      rw [xor_bv]
      go_wp2_with fail
      go_meet
      rw [U7.out]
      exact (R6.out.set (R6.out.1.set3 _)).drew.drew
  case rest =>
  have R7 := Lib.hid hcut
  clear hcut R6
  obtain ⟨w7, rfl⟩ : ∃ x : World, x = wc := ⟨_, rfl⟩
  obtain ⟨z8, U8⟩ : ∃ x : S4, Hid (x = { z7 with c := z7.c + z7.b }) := ⟨_, rfl⟩
  have c0 := R7.out.1.at2
  have c1 := R7.out.1.at1
  have f0 := R7.out.1.fr (j := 2)
  go_upto_region 9 with fail
  rw [add_bv]
  have R8 : Hid (RS w (w7.setCell ⟨w.heap.size, 2, none⟩ (vw (z7.c + z7.b))) z8) := by rw [U8.out]; exact R7.out.set (R7.out.1.set2 _)
  clear c0 c1 f0 R7
  generalize w7.setCell ⟨w.heap.size, 2, none⟩ (vw (z7.c + z7.b)) = w8 at *
  obtain ⟨z9, U9⟩ : ∃ x : S4, Hid (x = { z8 with b := rot z8.b 17 ^^^ z8.c }) := ⟨_, rfl⟩
  go_cut [57] (fun _ wx => RS w wx z9)
  case first =>
    have c0 := R8.out.1.at1
    have c1 := R8.out.1.at2
    have f0 := R8.out.1.fr (j := 1)
    go_region_with (go_at_call 41; refine (rotl17_calls _ _).mono ?_; rintro e w' ⟨rfl, rfl⟩)
    all_goals
      rw [xor_bv]
      go_wp2_with fail
      go_meet
      rw [U9.out]
      exact (R8.out.set (R8.out.1.set1 _)).drew.drew
  case rest =>
  have R9 := Lib.hid hcut
  clear hcut R8
  obtain ⟨w9, rfl⟩ : ∃ x : World, x = wc := ⟨_, rfl⟩
  obtain ⟨z10, U10⟩ : ∃ x : S4, Hid (x = { z9 with c := rot z9.c 32 }) := ⟨_, rfl⟩
  have c0 := R9.out.1.at2
  have f0 := R9.out.1.fr (j := 2)
  go_upto_region 11 with (go_at_call 41; refine (rotl32_calls _ _).mono ?_; rintro e w' ⟨rfl, rfl⟩)
  have R10 : Hid (RS w (w9.setCell ⟨w.heap.size, 2, none⟩ (vw (rot z9.c 32))).drew z10) := by rw [U10.out]; exact (R9.out.set (R9.out.1.set2 _)).drew
  clear c0 f0 R9
  generalize (w9.setCell ⟨w.heap.size, 2, none⟩ (vw (rot z9.c 32))).drew = w10 at *
  have c0 := R10.out.1.at0
  have c1 := R10.out.1.at1
  have c2 := R10.out.1.at2
  have c3 := R10.out.1.at3
  have d0 := R10.out.2.1.at0
  have d1 := R10.out.2.1.at1
  have d2 := R10.out.2.1.at2
  have d3 := R10.out.2.1.at3
  have f0 := R10.out.2.1.fr (j := 0)
  have f1 := R10.out.2.1.fr (j := 1)
  have f2 := R10.out.2.1.fr (j := 2)
  have f3 := R10.out.2.1.fr (j := 3)
  have HF : Hid (r1 s = z10) := by
    show _ = _
    rw [U10.out, U9.out, U8.out, U7.out, U6.out, U5.out, U4.out, U3.out, U2.out, U1.out]; rfl
  go_wp2_with fail
  have hq := (((R10.out.2.1.set0 z10.a).set1 z10.b).set2 z10.c).set3 z10.d
  have hb := (((R10.out.2.2.setCell (p := ⟨w.heap.size + 1, 0, none⟩) (by show w.heap.size ≤ w.heap.size + 1; omega) (vw z10.a)).setCell (p := ⟨w.heap.size + 1, 1, none⟩) (by show w.heap.size ≤ w.heap.size + 1; omega) (vw z10.b)).setCell (p := ⟨w.heap.size + 1, 2, none⟩) (by show w.heap.size ≤ w.heap.size + 1; omega) (vw z10.c)).setCell (p := ⟨w.heap.size + 1, 3, none⟩) (by show w.heap.size ≤ w.heap.size + 1; omega) (vw z10.d)
  refine bodyPost_ret (results_cell_row rfl _ _ (w.heap.size + 1) 73 _ (0, 0) _ rfl hq Try.underlying73 rfl (by kernel_rfl)) rfl ?_
  rw [HF.out]
  exact ⟨rfl, hb⟩
end Sp
end Go.Proofs.Ytnmgapokamkhpaa
