/- The walk of pair.step: what is no sending. -/
import Derived.Test.YtjmcmilbkhacdaaTnR
namespace Go.Proofs.Ytjmcmilbkhacdaa
open Go.RowKit Go.Shelf
open Wi Wr
namespace Tc
/-- what a step leaves -/
def Stp (B : Nat) (M : Ms) (K : Nat) (w w' : World) : Prop :=
  ∃ M', IsP B w' M' ∧ Inv M' ∧ M'.x = M.x ∧ M'.S ≤ M.S + 1 ∧ M'.n + mu M'.ps ≤ M.n + mu M.ps + 202 ∧ (K = 0 → FF M → FF M' ∧ mu M'.ps = mu M.ps + 2 ∧ M'.S = M.S + 1) ∧
    (K = 2 → FF M → FF M' ∧ M'.S = M.S ∧ (M.ps ≠ [] → mu M'.ps < mu M.ps)) ∧ (K = 6 → FF M') ∧ Below B w w'
def StpP (B : Nat) (M : Ms) (K : Nat) (w : World) (e : Ending) (w' : World) : Prop := e = .returned (.bool true) ∧ Stp B M K w w'
set_option maxRecDepth 100000 in
set_option maxHeartbeats 4000000 in
theorem step_none (B : Nat) (M : Ms) (K : Nat) (i : Int) (a : Option Addr) (dl ca : Nat) (w : World) (h : IsP B w M) (hv : Inv M) (hB : B ≤ w.heap.size) (hK : 7 ≤ K) : Calls Try.prog 6 #[.pointer (some ⟨M.x, 0, none⟩), .agg #[.int .u8 (K : Int), .int .i64 i, .slice a dl ca]] w (StpP B M K w) := by
  have hb := below1 w (.cells #[.int .u8 (K : Int), .int .i64 i, .slice a dl ca] 34)
  have HF : Hid (Stp B M K w (w.alloc (.cells #[.int .u8 (K : Int), .int .i64 i, .slice a dl ca] 34))) := Lib.hid ⟨M, h.below hB hb, hv, rfl, by omega, by omega, fun h => by omega, fun h => by omega, fun h => by omega, hb.mono hB⟩
  have q0 : ((K : Int) == 0) = false := by rw [beq_eq_false_iff_ne]; omega
  have q1 : ((K : Int) == 1) = false := by rw [beq_eq_false_iff_ne]; omega
  have q2 : ((K : Int) == 2) = false := by rw [beq_eq_false_iff_ne]; omega
  have q3 : ((K : Int) == 3) = false := by rw [beq_eq_false_iff_ne]; omega
  have q4 : ((K : Int) == 4) = false := by rw [beq_eq_false_iff_ne]; omega
  have q5 : ((K : Int) == 5) = false := by rw [beq_eq_false_iff_ne]; omega
  have q6 : ((K : Int) == 6) = false := by rw [beq_eq_false_iff_ne]; omega
  clear h hv hb hK
  generalize M.x = x at *
  go_enter Try.func6, Try.ntmps6
  go_wp2_with fail
  go_ret
  exact ⟨rfl, HF.out⟩
set_option maxRecDepth 100000 in
set_option maxHeartbeats 4000000 in
theorem step_dlv (B : Nat) (M : Ms) (K : Nat) (i : Int) (a : Option Addr) (dl ca : Nat) (w : World) (h : IsP B w M) (hv : Inv M) (hB : B ≤ w.heap.size) (hS : M.S ≤ 1000) (hn : M.n + mu M.ps ≤ 50000) (hK : K = 2 ∨ K = 3) : Calls Try.prog 6 #[.pointer (some ⟨M.x, 0, none⟩), .agg #[.int .u8 (K : Int), .int .i64 i, .slice a dl ca]] w (StpP B M K w) := by
  have hb := below1 w (.cells #[.int .u8 (K : Int), .int .i64 i, .slice a dl ca] 34)
  have HD := Lib.hid (dlv_calls B M i _ (h.below hB hb) hv (Nat.le_trans hB hb.size) hS hn)
  have HF : Hid (∀ w', Dlv B M (w.alloc (.cells #[.int .u8 (K : Int), .int .i64 i, .slice a dl ca] 34)) w' → Stp B M K w w') := Lib.hid (fun w' ⟨M', h1, h2, h3, h4, h5, h6, h7, h8⟩ => ⟨M', h1, h2, h3, by omega, by omega, fun h => by omega, fun _ hf => ⟨h7 hf, h4, h6⟩, fun h => by omega, (hb.mono hB).trans h8⟩)
  clear h hv hb
  unfold StpP
  generalize M.x = x at *
  rcases hK with rfl | rfl
  all_goals
    go_enter Try.func6, Try.ntmps6
    go_wp2_with fail
    refine HD.out.mono ?_
    rintro e w2 ⟨rfl, hd⟩
    have HX := Lib.hid (HF.out w2 hd)
    clear hd HF HD
    go_wp2_with fail
    go_ret
    exact ⟨rfl, HX.out⟩
theorem Stp.of_net {B K : Nat} {M : Ms} {w w1 w' : World} (h1 : IsP B w1 M) (hv : Inv M) (hB1 : B ≤ w1.heap.size) (hb : Below B w w1) (hK : K ≠ 0 ∧ K ≠ 2 ∧ K ≠ 6) {ps : List Pk} (hp : ∀ p ∈ ps, OkP (sd M) M.r p) (hm : mu ps ≤ mu M.ps + 2) (hw : NetW B M.gn M.An ps w1.heap.size w1 w') : Stp B M K w w' := by
  obtain ⟨A1, n1, c1, l1, g1, g2⟩ := h1.net' hB1 hw
  exact ⟨_, g1, hv.net A1 n1 c1 l1 hp, rfl, by show M.S ≤ _; omega, by show M.n + mu ps ≤ _; omega, fun h => by omega, fun h => by omega, fun h => by omega, hb.trans g2⟩
set_option maxRecDepth 100000 in
set_option maxHeartbeats 4000000 in
theorem step_drop (B : Nat) (M : Ms) (i : Int) (a : Option Addr) (dl ca : Nat) (w : World) (h : IsP B w M) (hv : Inv M) (hB : B ≤ w.heap.size) (hn : M.n + mu M.ps ≤ 50000) : Calls Try.prog 6 #[.pointer (some ⟨M.x, 0, none⟩), .agg #[.int .u8 4, .int .i64 i, .slice a dl ca]] w (StpP B M 4 w) := by
  have hb := below1 w (.cells #[.int .u8 4, .int .i64 i, .slice a dl ca] 34)
  have hxl : M.x < w.heap.size := h.lt (i := 0) (by omega) (by simp [Ms.P])
  have hml := mu_len M.ps
  have x0 : ∀ o, (w.alloc o).cell? ⟨M.x, 0, none⟩ = some (.pointer (some ⟨M.gn, 0, none⟩)) := fun o => (World.cell?_alloc_lt w o ⟨M.x, 0, none⟩ hxl).trans ((cell_of_row _ _ 0 _ _ _ h.hd).trans rfl)
  have HD : Hid (Calls Try.prog 15 #[.pointer (some ⟨M.gn, 0, none⟩), .int .i64 i] (w.alloc (.cells #[.int .u8 4, .int .i64 i, .slice a dl ca] 34)).drew fun e w2 => (∃ v, e = .returned v) ∧ Stp B M 4 w w2) := Lib.hid (by
    have hbd := hb.drew
    have hB1 := Nat.le_trans hB hbd.size
    have h1 := h.below hB hbd
    refine (drop_calls B M.gn M.nn M.cn M.An M.last M.ps i _ h1.net hB1 (by have := h.net.hn; omega)).mono ?_
    rintro e w2 (⟨_, hr, hb2⟩ | ⟨hpos, hr, hw⟩)
    · exact ⟨hr, M, h1.below hB1 hb2, hv, rfl, by omega, by omega, fun h => by omega, fun h => by omega, fun h => by omega, (hbd.mono hB).trans (hb2.mono hB1)⟩
    · have hi : chI i M.nn < M.ps.length := by rw [h.net.hn]; exact chI_lt i hpos
      refine ⟨hr, Stp.of_net h1 hv hB1 (hbd.mono hB) (by decide) (fun p hp => hv.pk p (rm_mem hp)) ?_ hw⟩
      have := mu_rm hi
      show mu (rm M.ps (chI i M.nn)) ≤ _
      omega)
  clear h hv hb hml
  unfold StpP
  generalize M.x = x at *
  go_enter Try.func6, Try.ntmps6
  go_upto_region 12 with (fail)
  go_region_law (go_simp; go_at_call 15; (with_reducible refine HD.out.mono ?_); rintro e w2 ⟨⟨v, rfl⟩, hs⟩; have HX := Lib.hid hs; clear hs)
  all_goals
    clear x0 HD
    go_wp2_with fail
    go_ret
    exact ⟨rfl, HX.out⟩
set_option maxRecDepth 100000 in
set_option maxHeartbeats 4000000 in
theorem step_dbl (B : Nat) (M : Ms) (i : Int) (a : Option Addr) (dl ca : Nat) (w : World) (h : IsP B w M) (hv : Inv M) (hB : B ≤ w.heap.size) (hn : M.n + mu M.ps ≤ 50000) : Calls Try.prog 6 #[.pointer (some ⟨M.x, 0, none⟩), .agg #[.int .u8 5, .int .i64 i, .slice a dl ca]] w (StpP B M 5 w) := by
  have hb := below1 w (.cells #[.int .u8 5, .int .i64 i, .slice a dl ca] 34)
  have hxl : M.x < w.heap.size := h.lt (i := 0) (by omega) (by simp [Ms.P])
  have hml := mu_len M.ps
  have x0 : ∀ o, (w.alloc o).cell? ⟨M.x, 0, none⟩ = some (.pointer (some ⟨M.gn, 0, none⟩)) := fun o => (World.cell?_alloc_lt w o ⟨M.x, 0, none⟩ hxl).trans ((cell_of_row _ _ 0 _ _ _ h.hd).trans rfl)
  have HD : Hid (Calls Try.prog 16 #[.pointer (some ⟨M.gn, 0, none⟩), .int .i64 i] (w.alloc (.cells #[.int .u8 5, .int .i64 i, .slice a dl ca] 34)).drew fun e w2 => (∃ v, e = .returned v) ∧ Stp B M 5 w w2) := Lib.hid (by
    have hbd := hb.drew
    have hB1 := Nat.le_trans hB hbd.size
    have h1 := h.below hB hbd
    refine (double_calls B M.gn M.nn M.cn M.An M.last M.ps i _ h1.net hB1 (by have := h.net.hn; omega)).mono ?_
    rintro e w2 (⟨_, hr, hb2⟩ | ⟨hr, hi, num, X, cX, hw⟩)
    · exact ⟨hr, M, h1.below hB1 hb2, hv, rfl, by omega, by omega, fun h => by omega, fun h => by omega, fun h => by omega, (hbd.mono hB).trans (hb2.mono hB1)⟩
    · refine ⟨hr, Stp.of_net h1 hv hB1 (hbd.mono hB) (by decide) (fun p hp => ?_) ?_ hw⟩
      · rcases List.mem_append.1 hp with hp | hp
        · exact hv.pk p hp
        · rw [List.mem_singleton.1 hp]
          have := hv.pk _ (List.getElem_mem hi)
          exact this
      · rw [mu_app, mu_one]
        have : wt ⟨num, M.ps[chI i M.nn].f, M.ps[chI i M.nn].t, M.ps[chI i M.nn].d, X, cX⟩ ≤ 2 := by unfold wt; split <;> omega
        omega)
  clear h hv hb hml
  unfold StpP
  generalize M.x = x at *
  go_enter Try.func6, Try.ntmps6
  go_upto_region 14 with (fail)
  go_region_law (go_simp; go_at_call 16; (with_reducible refine HD.out.mono ?_); rintro e w2 ⟨⟨v, rfl⟩, hs⟩; have HX := Lib.hid hs; clear hs)
  all_goals
    clear x0 HD
    go_wp2_with fail
    go_ret
    exact ⟨rfl, HX.out⟩
end Tc
end Go.Proofs.Ytjmcmilbkhacdaa
