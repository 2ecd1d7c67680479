/- The walk of the law DiskTorn. -/
import Derived.Test.YtoallpinpeolfaaDkS
namespace Go.Proofs.Ytoallpinpeolfaa
open Go.RowKit
namespace Dk

theorem writeD_b (D : St) (s : Int) (l : List UInt8) : (writeD D s l).b = D.b := by
  unfold writeD; repeat' split
  all_goals rfl
theorem OwnF.grow {w0 w w' : World} {F F' : List Nat} {g : Nat} {D : St} (h : OwnF w0 F g D w) (hb : Below w.heap.size w w') (hF : ∀ x ∈ F', x ∈ F ∨ (w.heap.size ≤ x ∧ x < w'.heap.size)) : OwnF w0 F' g D w' := by
  obtain ⟨M, E, h1, h2, h3, h4⟩ := h
  refine ⟨M, E, h1.below hb, h2, h3.trans (hb.mono h3.size), fun x hx => ?_⟩
  rcases hF x hx with hx | hx
  · exact ⟨(h4 x hx).1, (h4 x hx).2.1, Nat.lt_of_lt_of_le (h4 x hx).2.2 hb.size⟩
  · exact ⟨fun hm => by have := h1.ml x hm; omega, fun hm => by have := h1.el x hm; omega, hx.2⟩

theorem ne_of_new {N6 N : List Nat} {a b nb : Nat} (h : ∀ x ∈ N6, x ∈ N ∨ a ≤ x) (hN : ∀ x ∈ N, x < b) (hb : b ≤ nb) (ha : nb < a) : ∀ x ∈ N6, x ≠ nb := by
  intro x hx
  rcases h x hx with h1 | h1
  · have := hN x h1; omega
  · omega
/-- the disk and the reference's, that lies in block R -/
def TorR (w : World) (g R : Nat) (D : St) (wr : World) : Prop :=
  ∃ N A ca X cx P, OwnF w (R :: N) g D wr ∧ wr.heap[R]? = some (.cells #[.slice A (64 * D.n) ca, .slice X P.length cx, .bool D.x, .int .i64 D.f] 33 (0, 0)) ∧ IsK' wr N D A ca X cx P ∧ R ∉ N ∧ w.heap.size ≤ R

set_option maxRecDepth 100000 in
set_option maxHeartbeats 10000000 in
theorem torn_law (w : World) (A0 : Option Addr) (n ca0 : Nat) (ms : List Cm) (hn : ms.length = n) (hr : RdM w A0 ms) (hnm : n ≤ 9223372036854775807)
    (Z : Option Addr) (zn zc : Nat) (sv : List Int) (hz : sv.length = zn) (hrz : Rd w Z (sv.map (Value.int .i64))) (hzm : zn ≤ 9223372036854775807) :
    Calls Try.prog 3 #[.slice A0 n ca0, .slice Z zn zc] w (Yes w) := by
  have HN := Lib.hid hn
  have HR := Lib.hid hr
  have HZ := Lib.hid hz
  have HRZ := Lib.hid hrz
  clear hn hr hz hrz
  go_enter Try.func3, Try.ntmps3
  go_wp2_with fail
  refine (awake_calls w).mono ?_
  rintro e w1 ⟨rfl, hb1⟩
  have HB1 := Lib.hid hb1
  clear hb1
  go_wp2_with fail
  refine (few_calls A0 n ca0 12 ms w1 HN.out (HR.out.below HB1.out) hnm).mono ?_
  rintro e w2 ⟨rfl, rfl⟩
  cases hf : fewB ms 12 with
  | false =>
    go_wp2_with fail
    go_ret
    exact ⟨rfl, HB1.out⟩
  | true =>
    obtain ⟨_, hn16⟩ := fewB_of hf
    rw [HN.out] at hn16
    clear hf
    by_cases hz20 : zn ≤ 20
    · have dz : decide ((20 : Int) < (zn : Int)) = false := by simp; omega
      go_wp2_with fail
      refine (own_new 6 (by omega) (by omega) HB1.out).mono ?_
      rintro e w2 ⟨g, rfl, h2⟩
      have H2 := Lib.hid h2
      clear h2 HB1
      go_wp2_with fail
      refine (rnew_calls 6 w2 (by omega) (by omega)).mono ?_
      rintro e w3 ⟨v3, N3, rfl, ⟨A3, ca3, X3, cx3, P3, rfl, h3⟩, hb3, hn3⟩
      have HP3 : Hid (P3.length = 0) := by have h := h3.pd; show _ = _; have : (newD 6).p = [] := rfl; rw [this] at h; cases P3 with
        | nil => rfl
        | cons a b => cases h
      have hR3 := below1 w3 (.cells #[.slice A3 (64 * (newD 6).n) ca3, .slice X3 P3.length cx3, .bool (newD 6).x, .int .i64 (newD 6).f] 33)
      have hk3 := heap_alloc_new w3 (.cells #[.slice A3 (64 * (newD 6).n) ca3, .slice X3 P3.length cx3, .bool (newD 6).x, .int .i64 (newD 6).f] 33)
      have HT4 : Hid (TorR w g w3.heap.size (newD 6) (w3.alloc (.cells #[.slice A3 (64 * (newD 6).n) ca3, .slice X3 P3.length cx3, .bool (newD 6).x, .int .i64 (newD 6).f] 33))) := by
        refine ⟨N3, A3, ca3, X3, cx3, P3, ?_, hk3, h3.below hR3, fun hx => by have := h3.nl _ hx; omega, Nat.le_trans H2.out.b.size hb3.size⟩
        refine (H2.out.ownF.grow (hb3.trans (hR3.mono hb3.size)) (fun x hx => ?_))
        rcases List.mem_cons.1 hx with rfl | hx
        · exact .inr ⟨hb3.size, by simp⟩
        · rcases hn3 x hx with h | h
          · cases h
          · exact .inr ⟨h, by have := h3.nl x hx; simp; omega⟩
      have e3 : (64 * (newD 6).n) = 384 := rfl
      have e4 : (newD 6).x = false := rfl
      have e5 : (newD 6).f = -1 := rfl
      rw [HP3.out, e3, e4, e5] at HT4
      unfold kval id
      rw [HP3.out, e3, e4, e5]
      clear e3 e4 e5 hR3 hk3 h3 hb3 hn3 H2
      go_wp2_with fail
      generalize w3.alloc (.cells #[.slice A3 384 ca3, .slice X3 0 cx3, .bool false, .int .i64 (-1)] 33) = w4 at *
      generalize w3.heap.size = R at *
      go_loopw [8] (fun i wr => ∃ (k : Nat) (D : St), k ≤ n ∧ i = .int .i64 k ∧ D.n = 6 ∧ D.b = (newD 6).b ∧ D.p.length ≤ k ∧ TorR w g R D wr) (fun i _ => n - (intOf i).toNat)
      case atStart => exact ⟨0, newD 6, by omega, rfl, rfl, rfl, Nat.zero_le _, HT4.out⟩
      case round =>
        obtain ⟨k, D, hk, rfl, hn6, hbz, hpl, N, A, ca, X, cx, P, t1, t2, t3, t4, t5⟩ := hrel
        have HN6 := Lib.hid hn6
        have HBZ := Lib.hid hbz
        have HO := Lib.hid t1
        have HRB := Lib.hid t2
        have HIK := Lib.hid t3
        have HRN := Lib.hid t4
        have hRl : R < wr.heap.size := (Array.getElem?_eq_some_iff.1 t2).1
        clear hn6 hbz t1 t2 t3 t4
        have j0 : (0 : Int) ≤ (k : Int) := by omega
        by_cases hlt : k < n
        · have j1 : (k : Int) < (n : Int) := by omega
          have hkl : k < ms.length := by have := HN.out; omega
          obtain ⟨b, off, rfl, hbw, x0, x1, x2, x3, x4⟩ := HR.out.cells k hkl
          have hok := HR.out.ok _ (List.getElem_mem hkl)
          obtain ⟨m, HM⟩ : ∃ x, Hid (ms[k] = x) := ⟨ms[k], rfl⟩
          rw [HM.out] at x0 x1 x2 x3 x4 hok
          have hs1 := hok.s1
          have hs2 := hok.s2
          have hat : ∀ o v (w' : World), w'.heap[b]? = w.heap[b]? → w.cell? ⟨b, o, none⟩ = some v → w'.cell? ⟨b, o, none⟩ = some v := fun o v w' h hv => (World.cell?_of_block (a := ⟨b, o, none⟩) h).trans hv
          have z0 : ∀ w' : World, w'.heap[b]? = w.heap[b]? → w'.cell? ⟨b, off + k * 5, none⟩ = some (.int .i64 m.c.kind) := fun w' h => hat _ _ w' h x0
          have z1 : ∀ w' : World, w'.heap[b]? = w.heap[b]? → w'.cell? ⟨b, off + k * 5 + 1, none⟩ = some (.int .i64 m.c.sec) := fun w' h => hat _ _ w' h x1
          have z2 : ∀ w' : World, w'.heap[b]? = w.heap[b]? → w'.cell? ⟨b, off + k * 5 + 2, none⟩ = some (.int .i64 m.c.n) := fun w' h => hat _ _ w' h x2
          have z3 : ∀ w' : World, w'.heap[b]? = w.heap[b]? → w'.cell? ⟨b, off + k * 5 + 3, none⟩ = some (vb m.c.seed) := fun w' h => hat _ _ w' h x3
          have z4 : ∀ w' : World, w'.heap[b]? = w.heap[b]? → w'.cell? ⟨b, off + k * 5 + 4, none⟩ = some (.slice m.a m.c.sv.length m.cap) := fun w' h => hat _ _ w' h x4
          have hbr : wr.heap[b]? = w.heap[b]? := HO.out.b.block b hbw
          have hbl : b < wr.heap.size := Nat.lt_of_lt_of_le hbw HO.out.b.size
          have HDA : ∀ w', Hid (Calls Try.prog 13 #[.agg #[.int .i64 m.c.kind, .int .i64 m.c.sec, .int .i64 m.c.n, vb m.c.seed, .slice m.a m.c.sv.length m.cap]] w' (NewL w' (dataB m.c))) := fun w' => data_calls m w'
          have hdl := dataB_len m.c
          have y0 := z0 wr hbr
          clear hat x0 x1 x2 x3 x4 hok
          generalize dataB m.c = dl at *
          generalize m.c.kind = kd at *
          generalize m.c.sec = sc at *
          generalize m.c.n = mn at *
          generalize vb m.c.seed = sd at *
          generalize m.c.sv.length = sl at *
          by_cases hk0 : kd = 0
          · have q0 : (kd == 0) = true := by simpa using hk0
            have HRW : ∀ wx (X7 : Option Addr) (c7 : Nat), Below wr.heap.size wr wx → RB wx X7 dl → Hid (Calls Try.prog 12 #[.agg #[.slice A (64 * D.n) ca, .slice X P.length cx, .bool D.x, .int .i64 D.f], .int .i64 sc, .slice X7 dl.length c7] wx fun e w' =>
                ∃ N6 A6 ca6 X6 cx6 P6, e = .returned (.tuple #[.agg #[.slice A6 (64 * (writeD D sc dl).n) ca6, .slice X6 P6.length cx6, .bool (writeD D sc dl).x, .int .i64 (writeD D sc dl).f], .int .i64 (writeE D sc dl)]) ∧ IsK' w' N6 (writeD D sc dl) A6 ca6 X6 cx6 P6 ∧ (∀ x ∈ N6, x ∈ N ∨ wx.heap.size ≤ x) ∧ Below wx.heap.size wx w' ∧ Below wr.heap.size wr w') := by
              intro wx X7 c7 h1 h2
              refine (rwrite_calls (kval D A ca X cx P) N D sc X7 dl.length c7 dl wx ⟨A, ca, X, cx, P, rfl, HIK.out.below h1⟩ rfl h2 (by omega) hs1 hs2 (by omega)).mono ?_
              rintro e w' ⟨v', N6, rfl, ⟨A6, ca6, X6, cx6, P6, rfl, h6⟩, hb, hn6⟩
              exact ⟨N6, A6, ca6, X6, cx6, P6, rfl, h6, hn6, hb, h1.trans (hb.mono h1.size)⟩
            have HDX : ∀ wx, Below wr.heap.size wr wx → Hid (Calls Try.prog 13 #[.agg #[.int .i64 kd, .int .i64 sc, .int .i64 mn, sd, .slice m.a sl m.cap]] wx (fun e w' => NewL wx dl e w' ∧ Below wr.heap.size wr w')) := by
              intro wx h1
              refine (HDA wx).out.mono fun e w' h => ⟨h, ?_⟩
              obtain ⟨_, _, _, _, hb⟩ := h
              exact h1.trans (hb.mono h1.size)
            have HWF : Hid ((writeD D sc dl).n = 6 ∧ (writeD D sc dl).b = (newD 6).b ∧ (writeD D sc dl).p.length ≤ k + 1) := ⟨by rw [writeD_n]; exact HN6.out, by rw [writeD_b]; exact HBZ.out, by have := writeD_p D sc dl; omega⟩
            have HWP := fun w' F (h : OwnF w F g D w') X7 c7 (hr : RB w' X7 dl) => Lib.hid (ownF_write h sc X7 dl.length c7 dl rfl hr (by omega) hs1 hs2 (by omega))
            generalize writeD D sc dl = D6 at *
            generalize writeE D sc dl = er at *
            have hRc : ∀ w', Below wr.heap.size wr w' → w'.heap[R]? = some (.cells #[.slice A (64 * D.n) ca, .slice X P.length cx, .bool D.x, .int .i64 D.f] 33 (0, 0)) := fun w' h => (h.block R hRl).trans HRB.out
            have r0 : ∀ w', Below wr.heap.size wr w' → w'.cell? ⟨R, 0, none⟩ = some (.slice A (64 * D.n) ca) := fun w' h => (cell_of_row _ _ 0 _ _ _ (hRc w' h)).trans rfl
            have r1 : ∀ w', Below wr.heap.size wr w' → w'.cell? ⟨R, 1, none⟩ = some (.slice X P.length cx) := fun w' h => (cell_of_row _ _ 1 _ _ _ (hRc w' h)).trans rfl
            have r2 : ∀ w', Below wr.heap.size wr w' → w'.cell? ⟨R, 2, none⟩ = some (.bool D.x) := fun w' h => (cell_of_row _ _ 2 _ _ _ (hRc w' h)).trans rfl
            have r3 : ∀ w', Below wr.heap.size wr w' → w'.cell? ⟨R, 3, none⟩ = some (.int .i64 D.f) := fun w' h => (cell_of_row _ _ 3 _ _ _ (hRc w' h)).trans rfl
            have y0' : ∀ w', Below wr.heap.size wr w' → w'.cell? ⟨b, off + k * 5, none⟩ = some (.int .i64 kd) := fun w' h => z0 w' ((h.block b hbl).trans hbr)
            have y1' : ∀ w', Below wr.heap.size wr w' → w'.cell? ⟨b, off + k * 5 + 1, none⟩ = some (.int .i64 sc) := fun w' h => z1 w' ((h.block b hbl).trans hbr)
            have y2' : ∀ w', Below wr.heap.size wr w' → w'.cell? ⟨b, off + k * 5 + 2, none⟩ = some (.int .i64 mn) := fun w' h => z2 w' ((h.block b hbl).trans hbr)
            have y3' : ∀ w', Below wr.heap.size wr w' → w'.cell? ⟨b, off + k * 5 + 3, none⟩ = some sd := fun w' h => z3 w' ((h.block b hbl).trans hbr)
            have y4' : ∀ w', Below wr.heap.size wr w' → w'.cell? ⟨b, off + k * 5 + 4, none⟩ = some (.slice m.a sl m.cap) := fun w' h => z4 w' ((h.block b hbl).trans hbr)
            clear hRc hk0
            go_wp2_with fail
            go_region_held3 (fun w' => Below wr.heap.size wr w') (first | exact below_drew _ | assumption | exact (below1 wr _).trans ((below_drew _).mono (by simp)) | exact Below.alloc hs5 hs5.size _ | exact Below.alloc hs6 hs6.size _ | exact (((Below.setCell (p := ⟨_, 0, none⟩) hs6 hnbl _).setCell (p := ⟨_, 1, none⟩) hnbl _).setCell (p := ⟨_, 2, none⟩) hnbl _).setCell (p := ⟨_, 3, none⟩) hnbl _) (first | (go_at_call 13; refine (HDX wr.drew (below_drew _)).out.mono ?_; rintro e w5 ⟨⟨X5, c5, rfl, o5, hb5⟩, hs5⟩; have HR5 := Lib.hid (RB.of_own o5); clear o5) | (go_at_call 13; refine (HDX (wr.alloc (.cells #[.slice none 0 0, .slice none 0 0, .bool false, .int .i64 0] 33)).drew ((below1 wr _).trans ((below_drew _).mono (by simp)))).out.mono ?_; rintro e w5 ⟨⟨X5, c5, rfl, o5, hb5⟩, hs5⟩; have HR5 := Lib.hid (RB.of_own o5); have hz5 : w5.heap[wr.heap.size]? = some (.cells #[.slice none 0 0, .slice none 0 0, .bool false, .int .i64 0] 33 (0, 0)) := (hb5.block _ (by simp)).trans (heap_alloc_new wr (.cells #[.slice none 0 0, .slice none 0 0, .bool false, .int .i64 0] 33)); have HZ5 := Lib.hid hz5; clear o5) | (go_at_call 12; have _h := HZ5; refine (HRW w5 X5 c5 hs5 HR5.out).out.mono ?_; rintro e w6 ⟨N6, A6, ca6, X6, cx6, P6, rfl, hi6, hn6, hb6, hs6⟩; have HI6 := Lib.hid hi6; have HN6' := Lib.hid hn6; have hnbl : wr.heap.size ≤ wr.heap.size := Nat.le_refl _; have HZ6 := Lib.hid ((hb6.block _ (Array.getElem?_eq_some_iff.1 HZ5.out).1).trans HZ5.out); have nc0 : w6.cell? ⟨wr.heap.size, 0, none⟩ = some _ := (cell_of_row _ _ 0 _ _ _ HZ6.out).trans rfl; have nf0 : w6.frozen? ⟨wr.heap.size, 0, none⟩ = false := frozen_of_row _ _ _ _ _ HZ6.out; have nc1 : w6.cell? ⟨wr.heap.size, 1, none⟩ = some _ := (cell_of_row _ _ 1 _ _ _ HZ6.out).trans rfl; have nf1 : w6.frozen? ⟨wr.heap.size, 1, none⟩ = false := frozen_of_row _ _ _ _ _ HZ6.out; have nc2 : w6.cell? ⟨wr.heap.size, 2, none⟩ = some _ := (cell_of_row _ _ 2 _ _ _ HZ6.out).trans rfl; have nf2 : w6.frozen? ⟨wr.heap.size, 2, none⟩ = false := frozen_of_row _ _ _ _ _ HZ6.out; have nc3 : w6.cell? ⟨wr.heap.size, 3, none⟩ = some _ := (cell_of_row _ _ 3 _ _ _ HZ6.out).trans rfl; have nf3 : w6.frozen? ⟨wr.heap.size, 3, none⟩ = false := frozen_of_row _ _ _ _ _ HZ6.out; clear hi6 hn6) | (go_at_call 12; refine (HRW (w5.alloc (.cells #[.slice none 0 0, .slice none 0 0, .bool false, .int .i64 0] 33)) X5 c5 (hs5.alloc hs5.size _) (RB.alloc HR5.out _)).out.mono ?_; rintro e w6 ⟨N6, A6, ca6, X6, cx6, P6, rfl, hi6, hn6, hb6, hs6⟩; have HI6 := Lib.hid hi6; have HN6' := Lib.hid hn6; have hnbl : wr.heap.size ≤ w5.heap.size := hs5.size; have HZ6 := Lib.hid ((hb6.block _ (by simp)).trans (heap_alloc_new w5 (.cells #[.slice none 0 0, .slice none 0 0, .bool false, .int .i64 0] 33))); have nc0 : w6.cell? ⟨w5.heap.size, 0, none⟩ = some _ := (cell_of_row _ _ 0 _ _ _ HZ6.out).trans rfl; have nf0 : w6.frozen? ⟨w5.heap.size, 0, none⟩ = false := frozen_of_row _ _ _ _ _ HZ6.out; have nc1 : w6.cell? ⟨w5.heap.size, 1, none⟩ = some _ := (cell_of_row _ _ 1 _ _ _ HZ6.out).trans rfl; have nf1 : w6.frozen? ⟨w5.heap.size, 1, none⟩ = false := frozen_of_row _ _ _ _ _ HZ6.out; have nc2 : w6.cell? ⟨w5.heap.size, 2, none⟩ = some _ := (cell_of_row _ _ 2 _ _ _ HZ6.out).trans rfl; have nf2 : w6.frozen? ⟨w5.heap.size, 2, none⟩ = false := frozen_of_row _ _ _ _ _ HZ6.out; have nc3 : w6.cell? ⟨w5.heap.size, 3, none⟩ = some _ := (cell_of_row _ _ 3 _ _ _ HZ6.out).trans rfl; have nf3 : w6.frozen? ⟨w5.heap.size, 3, none⟩ = false := frozen_of_row _ _ _ _ _ HZ6.out; clear hi6 hn6) | (go_at_call 12; refine (HRW w5 X5 c5 hs5 HR5.out).out.mono ?_; rintro e w6 ⟨N6, A6, ca6, X6, cx6, P6, rfl, hi6, hn6, hb6, hs6⟩; have HI6 := Lib.hid hi6; have HN6' := Lib.hid hn6; clear hi6 hn6))
            all_goals (first | (have hnb := heap_set4 HZ6.out (.slice A6 (64 * D6.n) ca6) (.slice X6 P6.length cx6) (.bool D6.x) (.int .i64 D6.f); have hcn := chg_set4 w6 (w5.heap.size) (.slice A6 (64 * D6.n) ca6) (.slice X6 P6.length cx6) (.bool D6.x) (.int .i64 D6.f); have hbn : Below wr.heap.size wr _ := hs6.trans (hcn.below hs6.size (fun x hx => by simp only [List.mem_singleton] at hx; subst hx; exact hnbl)); have hnn : ∀ x ∈ N6, x ≠ w5.heap.size := ne_of_new HN6'.out HIK.out.nl hnbl (by simp); have HIn := Lib.hid (HI6.out.kept (fun x hx => hcn.block x (HI6.out.nl x hx) (by simp; exact hnn x hx)) hcn.size); have HNW : Hid (∀ x ∈ N6, x ∈ N ∨ wr.heap.size ≤ x) := (fun x hx => (HN6'.out x hx).imp id fun h => Nat.le_trans (Nat.le_trans hs5.size (by simp)) h); clear nc0 nc1 nc2 nc3 nf0 nf1 nf2 nf3 hcn hnn; generalize (((w6.setCell ⟨w5.heap.size, 0, none⟩ (.slice A6 (64 * D6.n) ca6)).setCell ⟨w5.heap.size, 1, none⟩ (.slice X6 P6.length cx6)).setCell ⟨w5.heap.size, 2, none⟩ (.bool D6.x)).setCell ⟨w5.heap.size, 3, none⟩ (.int .i64 D6.f) = wn at *; have na0 : wn.cell? ⟨w5.heap.size, 0, none⟩ = some _ := (cell_of_row _ _ 0 _ _ _ hnb).trans rfl; have na1 : wn.cell? ⟨w5.heap.size, 1, none⟩ = some _ := (cell_of_row _ _ 1 _ _ _ hnb).trans rfl; have na2 : wn.cell? ⟨w5.heap.size, 2, none⟩ = some _ := (cell_of_row _ _ 2 _ _ _ hnb).trans rfl; have na3 : wn.cell? ⟨w5.heap.size, 3, none⟩ = some _ := (cell_of_row _ _ 3 _ _ _ hnb).trans rfl) | ((fail_if_success (have _h := nc0)); have hnb := heap_alloc_new w6 (.cells #[.slice A6 (64 * D6.n) ca6, .slice X6 P6.length cx6, .bool D6.x, .int .i64 D6.f] 33); have hbn : Below wr.heap.size wr (w6.alloc (.cells #[.slice A6 (64 * D6.n) ca6, .slice X6 P6.length cx6, .bool D6.x, .int .i64 D6.f] 33)) := hs6.alloc hs6.size _; have HIn := Lib.hid (HI6.out.below (below1 w6 (.cells #[.slice A6 (64 * D6.n) ca6, .slice X6 P6.length cx6, .bool D6.x, .int .i64 D6.f] 33))); have HNW : Hid (∀ x ∈ N6, x ∈ N ∨ wr.heap.size ≤ x) := (fun x hx => (HN6'.out x hx).imp id fun h => Nat.le_trans hs5.size h); generalize w6.alloc (.cells #[.slice A6 (64 * D6.n) ca6, .slice X6 P6.length cx6, .bool D6.x, .int .i64 D6.f] 33) = wn at *; have na0 : wn.cell? ⟨w6.heap.size, 0, none⟩ = some _ := (cell_of_row _ _ 0 _ _ _ hnb).trans rfl; have na1 : wn.cell? ⟨w6.heap.size, 1, none⟩ = some _ := (cell_of_row _ _ 1 _ _ _ hnb).trans rfl; have na2 : wn.cell? ⟨w6.heap.size, 2, none⟩ = some _ := (cell_of_row _ _ 2 _ _ _ hnb).trans rfl; have na3 : wn.cell? ⟨w6.heap.size, 3, none⟩ = some _ := (cell_of_row _ _ 3 _ _ _ hnb).trans rfl) | (have hnb := heap_set4 HZ6.out (.slice A6 (64 * D6.n) ca6) (.slice X6 P6.length cx6) (.bool D6.x) (.int .i64 D6.f); have hcn := chg_set4 w6 (wr.heap.size) (.slice A6 (64 * D6.n) ca6) (.slice X6 P6.length cx6) (.bool D6.x) (.int .i64 D6.f); have hbn : Below wr.heap.size wr _ := hs6.trans (hcn.below hs6.size (fun x hx => by simp only [List.mem_singleton] at hx; subst hx; exact hnbl)); have hnn : ∀ x ∈ N6, x ≠ wr.heap.size := ne_of_new HN6'.out HIK.out.nl hnbl ((Array.getElem?_eq_some_iff.1 HZ5.out).1); have HIn := Lib.hid (HI6.out.kept (fun x hx => hcn.block x (HI6.out.nl x hx) (by simp; exact hnn x hx)) hcn.size); have HNW : Hid (∀ x ∈ N6, x ∈ N ∨ wr.heap.size ≤ x) := (fun x hx => (HN6'.out x hx).imp id fun h => Nat.le_trans (hs5.size) h); clear nc0 nc1 nc2 nc3 nf0 nf1 nf2 nf3 hcn hnn; generalize (((w6.setCell ⟨wr.heap.size, 0, none⟩ (.slice A6 (64 * D6.n) ca6)).setCell ⟨wr.heap.size, 1, none⟩ (.slice X6 P6.length cx6)).setCell ⟨wr.heap.size, 2, none⟩ (.bool D6.x)).setCell ⟨wr.heap.size, 3, none⟩ (.int .i64 D6.f) = wn at *; have na0 : wn.cell? ⟨wr.heap.size, 0, none⟩ = some _ := (cell_of_row _ _ 0 _ _ _ hnb).trans rfl; have na1 : wn.cell? ⟨wr.heap.size, 1, none⟩ = some _ := (cell_of_row _ _ 1 _ _ _ hnb).trans rfl; have na2 : wn.cell? ⟨wr.heap.size, 2, none⟩ = some _ := (cell_of_row _ _ 2 _ _ _ hnb).trans rfl; have na3 : wn.cell? ⟨wr.heap.size, 3, none⟩ = some _ := (cell_of_row _ _ 3 _ _ _ hnb).trans rfl))
            all_goals
              have HBN := Lib.hid hbn
              clear hnb hbn r0 r1 r2 r3 y0 y0' y1' y2' y3' y4' hs5 hs6 HRW HDX
              have hRn : wn.heap[R]? = some (.cells #[.slice A (64 * D.n) ca, .slice X P.length cx, .bool D.x, .int .i64 D.f] 33 (0, 0)) := (HBN.out.block R hRl).trans HRB.out
              have HRNN := Lib.hid hRn
              have ra0 : wn.cell? ⟨R, 0, none⟩ = some _ := (cell_of_row _ _ 0 _ _ _ hRn).trans rfl; have rb0 : wn.frozen? ⟨R, 0, none⟩ = false := frozen_of_row _ _ _ _ _ hRn; have ra1 : wn.cell? ⟨R, 1, none⟩ = some _ := (cell_of_row _ _ 1 _ _ _ hRn).trans rfl; have rb1 : wn.frozen? ⟨R, 1, none⟩ = false := frozen_of_row _ _ _ _ _ hRn; have ra2 : wn.cell? ⟨R, 2, none⟩ = some _ := (cell_of_row _ _ 2 _ _ _ hRn).trans rfl; have rb2 : wn.frozen? ⟨R, 2, none⟩ = false := frozen_of_row _ _ _ _ _ hRn; have ra3 : wn.cell? ⟨R, 3, none⟩ = some _ := (cell_of_row _ _ 3 _ _ _ hRn).trans rfl; have rb3 : wn.frozen? ⟨R, 3, none⟩ = false := frozen_of_row _ _ _ _ _ hRn
              have hRN6 : ∀ x ∈ N6, x ≠ R := fun x hx => by
                rcases HNW.out x hx with h | h
                · rintro rfl; exact HRN.out h
                · omega
              have hzz := heap_set4 hRn (.slice A6 (64 * D6.n) ca6) (.slice X6 P6.length cx6) (.bool D6.x) (.int .i64 D6.f)
              have hcz := chg_set4 wn R (.slice A6 (64 * D6.n) ca6) (.slice X6 P6.length cx6) (.bool D6.x) (.int .i64 D6.f)
              have HIZ := Lib.hid (HIn.out.kept (fun x hx => hcz.block x (HIn.out.nl x hx) (by simp; exact hRN6 x hx)) hcz.size)
              have HOZ : Hid (OwnF w (R :: N6) g D _) := (HO.out.grow (F' := R :: N6) HBN.out (fun x hx => by
                rcases List.mem_cons.1 hx with rfl | hx
                · exact .inl (by simp)
                · rcases HNW.out x hx with h | h
                  · exact .inl (by simp [h])
                  · exact .inr ⟨h, HIn.out.nl x hx⟩)).wr hcz (by simp; exact t5)
              have HZZ := Lib.hid hzz
              have HR6N : Hid (R ∉ N6) := fun hx => hRN6 R hx rfl
              clear hRn hRN6 hzz hcz
              go_upto_region 15 with (fail)
              clear na0 na1 na2 na3 ra0 ra1 ra2 ra3 rb0 rb1 rb2 rb3
              generalize (((wn.setCell ⟨R, 0, none⟩ (.slice A6 (64 * D6.n) ca6)).setCell ⟨R, 1, none⟩ (.slice X6 P6.length cx6)).setCell ⟨R, 2, none⟩ (.bool D6.x)).setCell ⟨R, 3, none⟩ (.int .i64 D6.f) = wz at *
              have hbz : wz.drew.heap[b]? = w.heap[b]? := HOZ.out.b.block b hbw
              go_region_held3 (fun w' => w'.heap[b]? = w.heap[b]?) (first | exact hbz | assumption) (first | (go_at_call 13; refine (HDA wz.drew).out.mono ?_; rintro e w7 ⟨X7, c7, rfl, o7, hb7⟩; have HR7 := Lib.hid (RB.of_own o7); have HO7 := Lib.hid ((HOZ.out.below (below_drew _)).below hb7); have HB7 := Lib.hid ((below_drew wz).trans hb7); have hs7 : w7.heap[b]? = w.heap[b]? := HO7.out.b.block b hbw; clear o7 hb7) | (go_at_call 14; refine (HWP w7 _ HO7.out X7 c7 HR7.out).out.mono ?_; rintro e w8 ⟨rfl, h8, k8⟩; have HO8 := Lib.hid h8; have HK8 := Lib.hid k8; have hs8 : w8.heap[b]? = w.heap[b]? := h8.b.block b hbw; clear h8 k8))
              have HT8 : Hid (TorR w g R D6 w8) := by
                have hz7 : w7.heap[R]? = _ := (HB7.out.block R (Array.getElem?_eq_some_iff.1 HZZ.out).1).trans HZZ.out
                have hi7 := HIZ.out.below HB7.out
                exact ⟨N6, A6, ca6, X6, cx6, P6, HO8.out, (HK8.out R (by simp)).trans hz7, hi7.kept' (fun x hx => HK8.out x (by simp [hx])), HR6N.out, t5⟩
              have der : (er != er) = false := by simp
              clear hs7 hs8 hbz
              go_wp2_with fail
              go_roundw
              case rel => exact ⟨k + 1, D6, by omega, by go_num, HWF.out.1, HWF.out.2.1, HWF.out.2.2, HT8.out⟩
              case measure => simp [intOf]; omega
          · have q0 : (kd == 0) = false := by simpa using hk0
            go_wp2_with fail
            go_roundw
            case rel => exact ⟨k + 1, D, by omega, by go_num, HN6.out, HBZ.out, by omega, N, A, ca, X, cx, P, HO.out, HRB.out, HIK.out, HRN.out, t5⟩
            case measure => simp [intOf]; omega
        · have HTL : Hid (∀ k, k < 6 → ∀ i (hi : i < D.p.length), covB D.p[i] k = true → (hsv : i < sv.length) → (D.p[i].k : Int) ≤ sv[i] → lastB D.p i k = true → sec (crashD D sv).all k = sec D.p[i].d (k - D.p[i].s)) :=
            fun k _ i hi h1 h2 h3 h4 => torn_last D sv HO.out.ok i k hi h1 h2 h3 h4
          have HTF : Hid (∀ k, k < 6 → fdB (sec (crashD D sv).all k) D.p k D.p.length = true) := by
            intro k hk
            refine torn_found D sv HO.out.ok k ?_
            rw [HBZ.out]
            have h1 : sec (newD 6).b k = sec (newD 6).b k := rfl
            apply List.ext_getElem?
            intro j
            by_cases hj : j < 64
            · rw [sec_get _ _ _ hj]
              show (List.replicate (64 * 6) (0 : UInt8))[64 * k + j]? = _
              rw [List.getElem?_replicate, List.getElem?_replicate, if_pos (by omega), if_pos hj]
            · rw [List.getElem?_eq_none (by rw [sec_len _ 6 _ (by rfl) hk]; omega), List.getElem?_eq_none (by simp; omega)]
          have HPD : Hid (D.p = P.map (·.q)) := HIK.out.pd
          have HPO : Hid (∀ q ∈ D.p, q.ok 6) := by intro q hq; have := HO.out.ok.p q hq; rw [HN6.out] at this; exact this
          go_wp2_with fail
          refine (ownF_crash HO.out Z zn zc sv HZ.out HRZ.out).mono ?_
          rintro e w6 ⟨rfl, h6, k6⟩
          have HO6 := Lib.hid h6
          have HRB6 := Lib.hid ((k6 R (by simp)).trans HRB.out)
          have HIK6 := Lib.hid (HIK.out.kept' (fun x hx => k6 x (by simp [hx])))
          have HCD : Hid ((crashD D sv).n = 6 ∧ (crashD D sv).x = false) := ⟨HN6.out, rfl⟩
          have hR6 : R < w6.heap.size := (Array.getElem?_eq_some_iff.1 HRB6.out).1
          clear h6 k6 HO HRB HIK
          generalize crashD D sv = D3 at *
          go_wp2_with fail
          refine (ownF_read HO6.out 0 6 (by omega) (by omega)).mono ?_
          rintro e w7 ⟨X7, n7, c7, rfl, hn7, o7, hb7, h7⟩
          have hok3 := HO6.out.ok
          rw [readL_full D3 hok3 HCD.out.1 HCD.out.2] at hn7 o7
          rw [readE_full D3 HCD.out.1, HCD.out.2]
          simp only [Bool.false_eq_true, if_false]
          have HAL : Hid (D3.all.length = 384) := by show _ = _; rw [hok3.all, HCD.out.1]
          rw [HAL.out] at hn7
          subst hn7
          have HR7 := Lib.hid (RB.of_own o7)
          have HB7 := Lib.hid h7.b
          have HRB7 := Lib.hid ((hb7.block R hR6).trans HRB6.out)
          have HIK7 := Lib.hid (HIK6.out.below hb7)
          obtain ⟨_, _, e7, hc7, hc7m, _, _⟩ := own_form o7
          cases e7
          unfold maxLen at hc7m
          have hR7 : R < w7.heap.size := (Array.getElem?_eq_some_iff.1 HRB7.out).1
          clear o7 hb7 h7 hok3 HRB6 HIK6 HO6
          obtain ⟨AL, HALE⟩ : ∃ x, Hid (D3.all = x) := ⟨_, rfl⟩
          rw [HALE.out] at HTL HTF HAL HR7
          obtain ⟨pl, HPL⟩ : ∃ x, Hid (P.length = x) := ⟨_, rfl⟩
          have hpl12 : pl ≤ 12 := by have h1 := HPD.out; have h2 := HPL.out; have : D.p.length = P.length := by rw [h1]; simp
                                     omega
          rw [HPL.out] at HRB7
          have hcx := HIK7.out.c4
          have hcx3 := HIK7.out.c3
          rw [HPL.out] at hcx3
          unfold maxLen at hcx
          go_wp2_with fail
          go_loopw [13] (fun i wr => ∃ k : Nat, k ≤ 6 ∧ i = .int .i64 k ∧ Below w7.heap.size w7 wr) (fun i _ => 6 - (intOf i).toNat)
          case atStart => exact ⟨0, by omega, rfl, Below.refl _ _⟩
          case round =>
            obtain ⟨k, hk6, rfl, hbk⟩ := hrel
            have HBK := Lib.hid hbk
            clear hbk
            have u0 : (0 : Int) ≤ (k : Int) := by omega
            by_cases hk : k < 6
            · have u1 : (k : Int) < 6 := by omega
              obtain ⟨lo, hlo⟩ : ∃ lo : Nat, lo = 64 * k := ⟨_, rfl⟩
              obtain ⟨hi, hhi⟩ : ∃ hi : Nat, hi = 64 * k + 64 := ⟨_, rfl⟩
              have v1 : 64 * (k : Int) = (lo : Int) := by omega
              have v2 : (lo : Int) + 64 = (hi : Int) := by omega
              have hcut : ∀ w', (Instr.slice 30 (.slice X7 384 c7) (some (.int .i64 (lo : Int))) (some (.int .i64 (hi : Int))) none).run Try.prog w' = .ok (.slice (cutA X7 lo c7) (hi - lo) (c7 - lo)) w' := fun w' => run_cut_lh Try.underlying30 (by kernel_rfl) size_u8 X7 384 c7 lo hi (by omega) (by omega) w'
              have h64 : hi - lo = 64 := by omega
              rw [h64] at hcut
              have HGR : ∀ w', Below w7.heap.size w7 w' → Hid (RB w' (cutA X7 lo c7) (sec AL k)) := by
                intro w' hb
                show RB _ _ ((AL.drop (64 * k)).take 64)
                rw [← hlo]; exact RB.take (RB.cut (RB.below HR7.out hb) lo c7 (by rw [HAL.out]; exact hc7)) 64
              have hgl : (sec AL k).length = 64 := sec_len AL 6 k HAL.out hk
              have HGL := Lib.hid hgl
              have HTLk := Lib.hid (HTL.out k hk)
              have HTFk := Lib.hid (HTF.out k hk)
              clear hlo hhi h64 hgl
              generalize cutA X7 lo c7 = Xg at *
              generalize c7 - lo = cg at *
              go_wp2_with fail
              refine (bytes_calls 0 64 wr (by omega)).mono ?_
              rintro e w8 ⟨X8, c8, rfl, o8, hb8⟩
              have HB8 := Lib.hid (HBK.out.trans (hb8.mono HBK.out.size))
              have HSM := Lib.hid (same_calls Xg X8 64 64 cg c8 _ _ w8 HGL.out (by simp) (HGR w8 HB8.out).out (RB.of_own o8))
              rw [show (List.replicate (64 : Int).toNat (0 : UInt8)) = List.replicate 64 0 from rfl] at HSM
              rw [show (List.replicate (64 : Int).toNat (0 : UInt8)).length = 64 from rfl]
              clear o8 hb8 v1 v2
              go_wp2_with fail
              refine HSM.out.mono ?_
              rintro e w9 ⟨rfl, rfl⟩
              have HFD0 : Hid (fdB (sec AL k) D.p k 0 = sameB (sec AL k) (List.replicate 64 0)) := rfl
              rw [← HFD0.out]
              go_wp2_with fail
              go_loopw [15, 16] (fun f i wr => ∃ t : Nat, t ≤ pl ∧ i = .int .i64 t ∧ f = .bool (fdB (sec AL k) D.p k t) ∧ Below w7.heap.size w7 wr) (fun _ i _ => pl - (intOf i).toNat)
              case atStart => exact ⟨0, by omega, rfl, rfl, HB8.out⟩
              case round =>
                obtain ⟨t, ht, rfl, rfl, hbt⟩ := hrel
                have HBT := Lib.hid hbt
                have hRt : wr.heap[R]? = _ := (hbt.block R hR7).trans HRB7.out
                have rr1 : wr.cell? ⟨R, 1, none⟩ = some (.slice X pl cx) := (cell_of_row _ _ 1 _ _ _ hRt).trans rfl
                have HPE := Lib.hid (Rd.below HIK7.out.pe hbt)
                clear hbt hRt
                have t0 : (0 : Int) ≤ (t : Int) := by omega
                by_cases htl : t < pl
                · have t1 : (t : Int) < (pl : Int) := by omega
                  have htP : t < P.length := by have := HPL.out; omega
                  have htD : t < D.p.length := by have h1 := HPD.out; rw [h1]; simpa using htP
                  obtain ⟨b2, off2, rfl, x0⟩ := HPE.out (t * 2) _ (pcells_get P t 0 htP (by omega))
                  obtain ⟨b2', off2', e', x1⟩ := HPE.out (t * 2 + 1) _ (pcells_get P t 1 htP (by omega))
                  cases e'
                  rw [← Nat.add_assoc] at x1
                  have HDP : Hid (D.p[t] = P[t].q) := by
                    show _ = _
                    have h1 := HPD.out
                    simp only [h1, List.getElem_map]
                  obtain ⟨hm1, hm2, hm3⟩ := HIK7.out.pr P[t] (List.getElem_mem htP)
                  have HST := Lib.hid (fdB_step (sec AL k) D.p k t htD)
                  have HTL2 := Lib.hid (fun h1 h2 h3 h4 => HTLk.out t htD h1 h2 h3 h4)
                  have hqo := HPO.out D.p[t] (List.getElem_mem htD)
                  rw [HDP.out] at HST HTL2 hqo
                  obtain ⟨m, HM⟩ : ∃ x, Hid (P[t] = x) := ⟨P[t], rfl⟩
                  rw [HM.out] at x0 x1 hm1 hm2 hm3 HST HTL2 hqo
                  obtain ⟨ho1, ho2⟩ := hqo
                  unfold maxLen at hm3
                  have HMR := Lib.hid hm1
                  have HCV : Hid (covB m.q k = true ↔ m.q.s ≤ k ∧ k < m.q.s + m.q.k) := covB_iff m.q k
                  have he64 : (m.q.d.length : Int) / 64 = (m.q.k : Int) := by omega
                  have hdlm : m.q.d.length = 64 * m.q.k := ho1
                  have hmcl : m.q.d.length ≤ m.c := hm2
                  have HDLM := Lib.hid hdlm
                  have HMCL := Lib.hid hmcl
                  clear hdlm hmcl
                  have hdl9 : m.q.d.length ≤ 4194304 := by omega
                  have hqs : m.q.s ≤ 6 := by omega
                  have hqk : m.q.k ≤ 6 := by omega
                  have HLA := fun w' (hb : Below w7.heap.size w7 w') => Lib.hid (last_calls (some ⟨b2, off2, none⟩) cx P t k w' (Rd.below HIK7.out.pe hb) (by have := HPL.out; omega) (by omega) (by omega) (fun m hm => by
                    have h := HPO.out m.q (by rw [HPD.out]; exact List.mem_map.2 ⟨m, hm, rfl⟩)
                    exact ⟨h.1, by have := h.2; omega⟩))
                  rw [← HPD.out, HPL.out] at HLA
                  have HCN2 : Hid (∀ w', Below w7.heap.size w7 w' → RB w' m.a m.q.d) := fun w' hb => RB.below HMR.out hb
                  clear hm1 ho1 HTLk
                  obtain ⟨f1, HF1E⟩ : ∃ x, Hid (fdB (sec AL k) D.p k (t + 1) = x) := ⟨_, rfl⟩
                  rw [HF1E.out] at HST
                  generalize fdB (sec AL k) D.p k t = f0 at *
                  obtain ⟨dl, HDLE⟩ : ∃ x, Hid (m.q.d.length = x) := ⟨_, rfl⟩
                  rw [HDLE.out] at x1 he64 hm2 hdl9
                  generalize hsd : sec m.q.d (k - m.q.s) = sd at *
                  have HSD := Lib.hid hsd
                  clear hsd
                  by_cases hs0 : m.q.s ≤ k
                  · have d1 : decide ((k : Int) < (m.q.s : Int)) = false := by simp; omega
                    have d1' : decide (k < m.q.s) = false := by simp; omega
                    by_cases hs1 : k < m.q.s + m.q.k
                    · have d2 : decide ((m.q.s : Int) + (m.q.k : Int) ≤ (k : Int)) = false := by simp; omega
                      have hcv : covB m.q k = true := HCV.out.2 ⟨hs0, hs1⟩
                      rw [hcv] at HST HTL2
                      obtain ⟨lo2, hlo2⟩ : ∃ x : Nat, x = 64 * (k - m.q.s) := ⟨_, rfl⟩
                      obtain ⟨hi2, hhi2⟩ : ∃ x : Nat, x = 64 * (k - m.q.s) + 64 := ⟨_, rfl⟩
                      have v1 : 64 * ((k : Int) - (m.q.s : Int)) = (lo2 : Int) := by omega
                      have v2 : (lo2 : Int) + 64 = (hi2 : Int) := by omega
                      have hdlv : dl = 64 * m.q.k := by rw [← HDLE.out]; exact HDLM.out
                      have hcut2 : ∀ w', (Instr.slice 30 (.slice m.a dl m.c) (some (.int .i64 (lo2 : Int))) (some (.int .i64 (hi2 : Int))) none).run Try.prog w' = .ok (.slice (cutA m.a lo2 m.c) (hi2 - lo2) (m.c - lo2)) w' := fun w' => run_cut_lh Try.underlying30 (by kernel_rfl) size_u8 m.a dl m.c lo2 hi2 (by omega) (by omega) w'
                      have h642 : hi2 - lo2 = 64 := by omega
                      rw [h642] at hcut2
                      have hsl : sd.length = 64 := by rw [← HSD.out]; exact sec_len m.q.d m.q.k (k - m.q.s) HDLM.out (by omega)
                      have HSMX := fun w' (hb : Below w7.heap.size w7 w') => Lib.hid (same_calls Xg (cutA m.a lo2 m.c) 64 64 cg (m.c - lo2) (sec AL k) sd w' HGL.out hsl (HGR w' hb).out (by
                        rw [← HSD.out]
                        show RB _ _ ((m.q.d.drop (64 * (k - m.q.s))).take 64)
                        rw [← hlo2]; exact RB.take (RB.cut (HCN2.out w' hb) lo2 m.c HMCL.out) 64))
                      clear hlo2 hhi2 h642 hdlv hsl
                      generalize cutA m.a lo2 m.c = Xd at *
                      generalize m.c - lo2 = cd at *
                      generalize hsm : sameB (sec AL k) sd = sm at *
                      have HSMV := Lib.hid hsm
                      have HF1 : Hid ((f0 || sm) = f1) := by show _ = _; rw [HST.out]; simp
                      have HTL3 : Hid ((hsv : t < sv.length) → (m.q.k : Int) ≤ sv[t] → lastB D.p t k = true → sm = true) := by
                        intro h1 h2 h3
                        have h4 := HTL2.out rfl h1 h2 h3
                        rw [← HSMV.out, h4]; simp [sameB]
                      clear HST HTL2 HCN2 hcv hsm
                      generalize m.q.k = kk at *
                      generalize m.q.s = ss at *
                      generalize m.a = ma at *
                      generalize m.c = mc at *
                      go_upto_region 32 with (fail)
                      have HBX := Lib.hid (HBT.out.trans ((below1 wr (.cells #[.int .i64 (ss : Int), .slice ma dl mc] 47)).mono HBT.out.size))
                      have hxk := heap_alloc_new wr (.cells #[.int .i64 (ss : Int), .slice ma dl mc] 47)
                      generalize wr.alloc (.cells #[.int .i64 (ss : Int), .slice ma dl mc] 47) = wx at *
                      have p0 : wx.cell? ⟨wr.heap.size, 0, none⟩ = some (.int .i64 (ss : Int)) := (cell_of_row _ _ 0 _ _ _ hxk).trans rfl
                      have p1 : wx.cell? ⟨wr.heap.size, 1, none⟩ = some (.slice ma dl mc) := (cell_of_row _ _ 1 _ _ _ hxk).trans rfl
                      have rx1 : wx.cell? ⟨R, 1, none⟩ = some (.slice (some ⟨b2, off2, none⟩) pl cx) := (cell_of_row _ _ 1 _ _ _ ((HBX.out.block R hR7).trans HRB7.out)).trans rfl
                      have HSX := HSMX wx HBX.out
                      have HLX := HLA wx HBX.out
                      clear HSMX HLA hxk
                      go_upto_region 33 with (go_at_call 17; refine HSX.out.mono ?_; rintro e w' ⟨rfl, rfl⟩)
                      clear hcut2 v1 v2
                      obtain ⟨la, HLAE⟩ : ∃ x, Hid (lastB D.p t k = x) := ⟨_, rfl⟩
                      rw [HLAE.out] at HLX HTL3
                      by_cases hz1 : t < zn
                      · have hzl : t < sv.length := by have := HZ.out; omega
                        have dz1 : decide (t < zn) = true := by simpa using hz1
                        obtain ⟨bz, oz, rfl, hbz, hcz⟩ := Rd.cells HRZ.out (by rw [List.length_map]; omega)
                        have xz := (HB7.out.trans (HBX.out.mono HB7.out.size)).cell (p := ⟨bz, oz + t, none⟩) hbz |>.trans (hcz t (.int .i64 sv[t]) (by simp [List.getElem?_eq_getElem hzl]))
                        have HTL4 := Lib.hid (HTL3.out hzl)
                        have z1' : (t : Int) < (zn : Int) := by omega
                        clear hcz HTL3
                        generalize sv[t] = zv at *
                        by_cases hzv : (kk : Int) ≤ zv
                        · have dz2 : decide ((kk : Int) ≤ zv) = true := by simpa using hzv
                          cases la with
                          | true =>
                            have hsm1 := HTL4.out hzv rfl
                            subst hsm1
                            cases f0
                            all_goals
                              go_wp2_with fail
                              refine HLX.out.mono ?_
                              rintro e wy ⟨rfl, hby⟩
                              have HBY := Lib.hid (HBX.out.trans (hby.mono HBX.out.size))
                              clear hby
                              go_wp2_with fail
                              go_roundw
                              case rel => exact ⟨t + 1, by omega, by go_num, by rw [HF1E.out, ← HF1.out]; rfl, HBY.out⟩
                              case measure => simp [intOf]; omega
                          | false =>
                            cases f0
                            all_goals cases sm
                            all_goals
                              go_wp2_with fail
                              refine HLX.out.mono ?_
                              rintro e wy ⟨rfl, hby⟩
                              have HBY := Lib.hid (HBX.out.trans (hby.mono HBX.out.size))
                              clear hby
                              go_wp2_with fail
                              go_roundw
                              case rel => exact ⟨t + 1, by omega, by go_num, by rw [HF1E.out, ← HF1.out]; rfl, HBY.out⟩
                              case measure => simp [intOf]; omega
                        · have dz2 : decide ((kk : Int) ≤ zv) = false := by simpa using hzv
                          cases f0
                          all_goals cases sm
                          all_goals
                            go_wp2_with fail
                            go_roundw
                            case rel => exact ⟨t + 1, by omega, by go_num, by rw [HF1E.out, ← HF1.out]; rfl, HBX.out⟩
                            case measure => simp [intOf]; omega
                      · have dz1 : decide (t < zn) = false := by simpa using hz1
                        cases f0
                        all_goals cases sm
                        all_goals
                          go_wp2_with fail
                          go_roundw
                          case rel => exact ⟨t + 1, by omega, by go_num, by rw [HF1E.out, ← HF1.out]; rfl, HBX.out⟩
                          case measure => simp [intOf]; omega
                    · have d2 : decide ((m.q.s : Int) + (m.q.k : Int) ≤ (k : Int)) = true := by simp; omega
                      have hcv : covB m.q k = false := by
                        cases hc : covB m.q k
                        · rfl
                        · exact absurd (HCV.out.1 hc).2 hs1
                      have HF1 : Hid (f0 = f1) := by show _ = _; rw [HST.out, hcv]; simp
                      clear HST HTL2 HLA HCN2 hcv
                      generalize m.q.k = kk at *
                      generalize m.q.s = ss at *
                      generalize m.a = ma at *
                      generalize m.c = mc at *
                      go_wp2_with fail
                      have HBX := Lib.hid (HBT.out.trans ((below1 wr (.cells #[.int .i64 (ss : Int), .slice ma dl mc] 47)).mono HBT.out.size))
                      go_roundw
                      case rel => exact ⟨t + 1, by omega, by go_num, by rw [HF1E.out, HF1.out], HBX.out⟩
                      case measure => simp [intOf]; omega
                  · have d1 : decide ((k : Int) < (m.q.s : Int)) = true := by simp; omega
                    have d1' : decide (k < m.q.s) = true := by simp; omega
                    have hcv : covB m.q k = false := by
                      cases hc : covB m.q k
                      · rfl
                      · exact absurd (HCV.out.1 hc).1 hs0
                    have HF1 : Hid (f0 = f1) := by show _ = _; rw [HST.out, hcv]; simp
                    clear HST HTL2 HLA HCN2 hcv
                    generalize m.q.k = kk at *
                    generalize m.q.s = ss at *
                    generalize m.a = ma at *
                    generalize m.c = mc at *
                    go_wp2_with fail
                    have HBX := Lib.hid (HBT.out.trans ((below1 wr (.cells #[.int .i64 (ss : Int), .slice ma dl mc] 47)).mono HBT.out.size))
                    go_roundw
                    case rel => exact ⟨t + 1, by omega, by go_num, by rw [HF1E.out, HF1.out], HBX.out⟩
                    case measure => simp [intOf]; omega
                · have HTP : Hid (t = D.p.length) := by show _ = _; have h1 := HPD.out; have h2 := HPL.out; rw [h1]; simp; omega
                  have hff : fdB (sec AL k) D.p k t = true := by rw [HTP.out]; exact HTFk.out
                  rw [hff]
                  clear hff
                  go_wp2_with fail
                  go_roundw
                  case rel => exact ⟨k + 1, by omega, by go_num, HBT.out⟩
                  case measure => simp [intOf]; omega
            · go_wp2_with fail
              go_ret
              exact ⟨rfl, HB7.out.trans (HBK.out.mono HB7.out.size)⟩
    · have dz : decide ((20 : Int) < (zn : Int)) = true := by simp; omega
      go_wp2_with fail
      go_ret
      exact ⟨rfl, HB1.out⟩
end Dk
end Go.Proofs.Ytoallpinpeolfaa
