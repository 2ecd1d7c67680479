/- The walk of refmeshlaw19.even. -/
import Derived.Test.YtoallpinpeolfaaDlA
import Derived.Test.YtoallpinpeolfaaDlB
import Derived.Deep.QuietTactic
namespace Go.Proofs.Ytoallpinpeolfaa
open Go.RowKit
namespace Dk
theorem readL_all (D : St) (h : D.ok) (hx : D.x = false) : readL D 0 D.n = D.all := by
  have h1 := h.all
  have : inB D.n 0 D.n = true := by unfold inB; simp
  unfold readL
  rw [hx, this]
  simp only [Bool.false_eq_true, if_false]
  rw [if_neg (by simp)]
  simp only [Int.toNat_zero, Nat.mul_zero, List.drop_zero, Int.toNat_natCast]
  rw [← h1]; exact List.take_length
theorem readE_all (D : St) (hx : D.x = false) : readE D 0 D.n = 0 := by
  have : inB D.n 0 D.n = true := by unfold inB; simp
  unfold readE
  rw [hx, this]; rfl
theorem readL_x (D : St) (s k : Int) (hx : D.x = true) : readL D s k = [] := by unfold readL; rw [hx]; rfl
theorem readE_x (D : St) (s k : Int) (hx : D.x = true) : readE D s k = 10 := by unfold readE; rw [hx]; rfl
theorem sameB_self (l : List UInt8) : sameB l l = true := by unfold sameB; simp

set_option maxRecDepth 100000 in
set_option maxHeartbeats 2000000 in
theorem even_calls (g : Nat) (M E N0 : List Nat) (D : St) (v : Value) (w : World) (h : IsD w g M E D) (hk : IsK w N0 v D) :
    Calls Try.prog 28 #[.pointer (some ⟨g, 0, none⟩), v] w fun e w' => e = .returned (.bool true) ∧ Below w.heap.size w w' := by
  have HD := Lib.hid h
  have HK := Lib.hid hk
  obtain ⟨A, ca, X, cx, P, rfl, hk'⟩ := hk
  have HI := Lib.hid hk'
  have hn := hk'.ok.n2
  have HPN : Hid (D.p.length = P.length) := by show _ = _; rw [hk'.pd]; simp
  unfold kval at HK ⊢
  have hq : ((64 * D.n : Nat) : Int) / 64 = (D.n : Int) := by omega
  have hqt : Int.tdiv ((64 * D.n : Nat) : Int) 64 = (D.n : Int) := by rw [Int.tdiv_eq_ediv_of_nonneg (by omega)]; exact hq
  have hqw : IntKind.i64.wrap (D.n : Int) = (D.n : Int) := by rw [IntKind.wrap_i64]; omega
  clear h hk'
  obtain ⟨pl, HPL⟩ : ∃ x, Hid (P.length = x) := ⟨_, rfl⟩
  obtain ⟨N, HNN⟩ : ∃ x, Hid (64 * D.n = x) := ⟨_, rfl⟩
  rw [HPL.out] at HPN
  rw [HPL.out, HNN.out] at HK ⊢
  rw [HNN.out] at hq hqt
  have hb1 := below1 w (.cells #[.slice A N ca, .slice X pl cx, .bool D.x, .int .i64 D.f] 33)
  have hk1 := heap_alloc_new w (.cells #[.slice A N ca, .slice X pl cx, .bool D.x, .int .i64 D.f] 33)
  have HSE := fun z => Lib.hid ((sectors_calls g M E D ((w.alloc (.cells #[.slice A N ca, .slice X pl cx, .bool D.x, .int .i64 D.f] 33)).drewN z) ((HD.out.below hb1).below (below_drewN (Below.refl _ _) z))).mono fun e w' ⟨a, b⟩ => (⟨a, b.symm⟩ : _ ∧ w' = (w.alloc (.cells #[.slice A N ca, .slice X pl cx, .bool D.x, .int .i64 D.f] 33)).drewN z))
  have HPE := fun z => Lib.hid ((pending_calls g M E D ((w.alloc (.cells #[.slice A N ca, .slice X pl cx, .bool D.x, .int .i64 D.f] 33)).drewN z) ((HD.out.below hb1).below (below_drewN (Below.refl _ _) z))).mono fun e w' ⟨a, b⟩ => (⟨a, b.symm⟩ : _ ∧ w' = (w.alloc (.cells #[.slice A N ca, .slice X pl cx, .bool D.x, .int .i64 D.f] 33)).drewN z))
  have HFA := fun z => Lib.hid ((failed_calls g M E D ((w.alloc (.cells #[.slice A N ca, .slice X pl cx, .bool D.x, .int .i64 D.f] 33)).drewN z) ((HD.out.below hb1).below (below_drewN (Below.refl _ _) z))).mono fun e w' ⟨a, b⟩ => (⟨a, b.symm⟩ : _ ∧ w' = (w.alloc (.cells #[.slice A N ca, .slice X pl cx, .bool D.x, .int .i64 D.f] 33)).drewN z))
  have HRD := Lib.hid (fun w' (h : Below w.heap.size w w') => read_calls g M E D 0 (D.n : Int) w' (HD.out.below h) (by omega) (by omega))
  have HB1 := Lib.hid hb1
  have HK1 := Lib.hid hk1
  have c0 : (w.alloc (.cells #[.slice A N ca, .slice X pl cx, .bool D.x, .int .i64 D.f] 33)).cell? ⟨w.heap.size, 0, none⟩ = some (.slice A N ca) := (cell_of_row _ _ 0 _ _ _ hk1).trans rfl
  have c1 : (w.alloc (.cells #[.slice A N ca, .slice X pl cx, .bool D.x, .int .i64 D.f] 33)).cell? ⟨w.heap.size, 1, none⟩ = some (.slice X pl cx) := (cell_of_row _ _ 1 _ _ _ hk1).trans rfl
  have c2 : (w.alloc (.cells #[.slice A N ca, .slice X pl cx, .bool D.x, .int .i64 D.f] 33)).cell? ⟨w.heap.size, 2, none⟩ = some (.bool D.x) := (cell_of_row _ _ 2 _ _ _ hk1).trans rfl
  have c3 : (w.alloc (.cells #[.slice A N ca, .slice X pl cx, .bool D.x, .int .i64 D.f] 33)).cell? ⟨w.heap.size, 3, none⟩ = some (.int .i64 D.f) := (cell_of_row _ _ 3 _ _ _ hk1).trans rfl
  rw [HPN.out] at HPE
  obtain ⟨dn, HDN⟩ : ∃ x, Hid (D.n = x) := ⟨_, rfl⟩
  rw [HDN.out] at HSE HRD hq hqt hqw
  obtain ⟨w1, HW1⟩ : ∃ x, Hid (w.alloc (.cells #[.slice A N ca, .slice X pl cx, .bool D.x, .int .i64 D.f] 33) = x) := ⟨_, rfl⟩
  rw [HW1.out] at HSE HPE HFA HB1 HK1 c0 c1 c2 c3
  clear hb1 hk1
  have e1 : ((dn : Int) != (dn : Int)) = false := by simp
  have e2 : ((pl : Int) != (pl : Int)) = false := by simp
  go_enter Try.func28, Try.ntmps28
  go_upto_region 1 with (fail)
  rw [HW1.out]
  cases hx : D.x with
  | true =>
    rw [hx] at HFA c2
    go_upto_region 2 with (fail)
    go_quiet (first | (go_at_call 40; exact Calls.quiet_of_same (HSE _).out) | (go_at_call 24; exact Calls.quiet_of_same (HPE _).out) | (go_at_call 23; exact Calls.quiet_of_same (HFA _).out))
    go_wp2_with fail
    have hbq := below_drewN HB1.out nq
    have hrq : (w1.drewN nq).heap[w.heap.size]? = _ := HK1.out
    refine (HRD.out (w1.drewN nq) hbq).mono ?_
    rintro e w2 ⟨X2, n2, cc2, rfl, hn2, _, hb2⟩
    rw [readL_x D 0 dn hx] at hn2
    rw [readE_x D 0 dn hx]
    have hn0 : n2 = 0 := hn2
    subst hn0
    have HB2 := Lib.hid (hbq.trans (hb2.mono hbq.size))
    have r2 : w2.cell? ⟨w.heap.size, 2, none⟩ = some (.bool D.x) := (cell_of_row _ _ 2 _ _ _ ((hb2.block _ (Array.getElem?_eq_some_iff.1 hrq).1).trans hrq)).trans rfl
    rw [hx] at r2
    clear hb2 hbq hrq hn2
    go_wp2_with fail
    go_ret
    exact ⟨rfl, HB2.out⟩
  | false =>
    rw [hx] at HFA c2
    go_upto_region 2 with (fail)
    go_quiet (first | (go_at_call 40; exact Calls.quiet_of_same (HSE _).out) | (go_at_call 24; exact Calls.quiet_of_same (HPE _).out) | (go_at_call 23; exact Calls.quiet_of_same (HFA _).out))
    go_wp2_with fail
    have hbq := below_drewN HB1.out nq
    have hrq : (w1.drewN nq).heap[w.heap.size]? = _ := HK1.out
    refine (HRD.out (w1.drewN nq) hbq).mono ?_
    rintro e w2 ⟨X2, n2, cc2, rfl, hn2, ho2, hb2⟩
    have hl := readL_all D HI.out.ok hx
    have he := readE_all D hx
    rw [HDN.out] at hl he
    rw [hl] at hn2 ho2
    rw [he]
    have HN2 := Lib.hid hn2
    have HR2 := Lib.hid (RB.of_own ho2)
    have HB2 := Lib.hid (hbq.trans (hb2.mono hbq.size))
    have hr2 := (hb2.block _ (Array.getElem?_eq_some_iff.1 hrq).1).trans hrq
    have r0 : w2.cell? ⟨w.heap.size, 0, none⟩ = some (.slice A N ca) := (cell_of_row _ _ 0 _ _ _ hr2).trans rfl
    have r1 : w2.cell? ⟨w.heap.size, 1, none⟩ = some (.slice X pl cx) := (cell_of_row _ _ 1 _ _ _ hr2).trans rfl
    have r2 : w2.cell? ⟨w.heap.size, 2, none⟩ = some (.bool D.x) := (cell_of_row _ _ 2 _ _ _ hr2).trans rfl
    have r3 : w2.cell? ⟨w.heap.size, 3, none⟩ = some (.int .i64 D.f) := (cell_of_row _ _ 3 _ _ _ hr2).trans rfl
    have HCO := Lib.hid (rcontents_calls _ N0 D w2 (HK.out.below HB2.out))
    rw [hx] at r2
    rw [hx] at HCO
    clear hb2 hbq hrq hn2 hl he hr2 ho2
    go_wp2_with fail
    refine HCO.out.mono ?_
    rintro e w3 ⟨Y, cy, rfl, hr3, _, _, hb3, _⟩
    have HB3 := Lib.hid (HB2.out.trans (hb3.mono HB2.out.size))
    have HSM := Lib.hid (same_calls X2 Y n2 D.all.length cc2 cy D.all D.all w3 HN2.out.symm rfl (HR2.out.below hb3) hr3)
    rw [sameB_self] at HSM
    generalize D.all.length = al at *
    clear hr3 hb3
    go_wp2_with fail
    refine HSM.out.mono ?_
    rintro e w4 ⟨rfl, rfl⟩
    go_wp2_with fail
    go_ret
    exact ⟨rfl, HB3.out⟩
end Dk
end Go.Proofs.Ytoallpinpeolfaa
