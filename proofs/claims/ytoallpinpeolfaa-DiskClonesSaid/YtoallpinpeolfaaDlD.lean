/- The walk of refmeshlaw19.run. -/
import Derived.Test.YtoallpinpeolfaaDlC
import Derived.Test.YtoallpinpeolfaaDkK
namespace Go.Proofs.Ytoallpinpeolfaa
open Go.RowKit
namespace Dk
theorem ownD_step {w0 w : World} {F M E : List Nat} {g : Nat} {D : St} (h1 : IsD w g M E D) (h2 : ∀ x ∈ M, w0.heap.size ≤ x) (h3 : Below w0.heap.size w0 w) (h4 : ∀ x ∈ F, x ∉ M ∧ x ∉ E ∧ x < w.heap.size) (m : Cm) (hm : m.ok w0) (hp : D.p.length ≤ 1000) :
    Calls Try.prog 20 #[.pointer (some ⟨g, 0, none⟩), m.val] w fun e w' =>
      ∃ X n cx, e = .returned (.tuple #[.slice X n cx, .int .i64 (stE D m.c)]) ∧ n = (stL D m.c).length ∧ RB w' X (stL D m.c) ∧ n ≤ cx ∧ OwnF w0 F g (stD D m.c) w' ∧ Kept F w w' ∧ Chg M w w' := by
  refine (step_calls g M E D m w h1 (hm.below h3) hp (fun hsv b off e hb => ?_)).mono ?_
  · obtain ⟨b', off', e', hb', _⟩ := Rd.cells hm.rd (by rw [List.length_map]; exact List.length_pos_iff.2 hsv)
    rw [e] at e'; cases e'
    have := h2 b hb
    omega
  · rintro e w' ⟨X, n, cx, rfl, a1, a2, a3, hd⟩
    have := OwnF.dk h2 h3 h4 hd
    exact ⟨X, n, cx, rfl, a1, a2, a3, this.1, this.2, hd.choose_spec.choose_spec.2.1⟩
theorem ownF_even {w0 w : World} {F N : List Nat} {g : Nat} {D : St} {v : Value} (h : OwnF w0 F g D w) (hk : IsK w N v D) :
    Calls Try.prog 28 #[.pointer (some ⟨g, 0, none⟩), v] w fun e w' => e = .returned (.bool true) ∧ Below w.heap.size w w' := by
  obtain ⟨M, E, h1, _⟩ := h
  exact even_calls g M E N D v w h1 hk
/-- the disk and the reference's, that lies in block R -/
def TwoR (w : World) (g R S : Nat) (D : St) (wr : World) : Prop :=
  ∃ N A ca X cx P, OwnF w (R :: S :: N) g D wr ∧ wr.heap[R]? = some (.cells #[.slice A (64 * D.n) ca, .slice X P.length cx, .bool D.x, .int .i64 D.f] 33 (0, 0)) ∧ wr.heap[S]? = some (.cells #[.slice none 0 0, .slice none 0 0, .bool false, .int .i64 0] 33 (0, 0)) ∧
    IsK' wr N D A ca X cx P ∧ R ∉ N ∧ S ∉ N ∧ (∀ x ∈ N, w.heap.size ≤ x) ∧ w.heap.size ≤ R ∧ w.heap.size ≤ S ∧ R ≠ S
/-- what run leaves -/
def RunP (w : World) (most : Nat) (e : Ending) (w' : World) : Prop :=
  ∃ g N v D, e = .returned (.tuple #[.pointer (some ⟨g, 0, none⟩), v, .bool true]) ∧ OwnF w N g D w' ∧ IsK w' N v D ∧ (∀ x ∈ N, w.heap.size ≤ x) ∧ D.n = 6 ∧ D.p.length ≤ most
set_option maxRecDepth 100000 in
set_option maxHeartbeats 10000000 in
theorem run_calls (w : World) (A0 : Option Addr) (n ca0 : Nat) (ms : List Cm) (hn : ms.length = n) (hr : RdM w A0 ms) (hnm : n ≤ 900) :
    Calls Try.prog 26 #[.int .i64 6, .slice A0 n ca0] w (RunP w n) := by
  have HN := Lib.hid hn
  have HR := Lib.hid hr
  clear hn hr
  have hb1 := below1 w (.cells #[.slice none 0 0, .slice none 0 0, .bool false, .int .i64 0] 33)
  have hk1 := heap_alloc_new w (.cells #[.slice none 0 0, .slice none 0 0, .bool false, .int .i64 0] 33)
  go_enter Try.func26, Try.ntmps26
  go_wp2_with fail
  generalize w.alloc (.cells #[.slice none 0 0, .slice none 0 0, .bool false, .int .i64 0] 33) = w1 at *
  have HB1 := Lib.hid hb1
  have HK1 := Lib.hid hk1
  have hs1 : w.heap.size < w1.heap.size := (Array.getElem?_eq_some_iff.1 hk1).1
  clear hb1 hk1
  refine (new_calls 6 w1).mono ?_
  rintro e w2 (⟨h1, _⟩ | ⟨_, _, g, M2, rfl, h1, h2, h3⟩)
  · omega
  have H2 : Hid (Own w g (newD 6) w2) := ⟨M2, [], h1, fun x hx => Nat.le_trans HB1.out.size (h2 x hx), HB1.out.trans (h3.mono HB1.out.size)⟩
  have HK2 : Hid (OwnF w [w.heap.size] g (newD 6) w2 ∧ w2.heap[w.heap.size]? = some (.cells #[.slice none 0 0, .slice none 0 0, .bool false, .int .i64 0] 33 (0, 0))) :=
    ⟨⟨M2, [], h1, fun x hx => Nat.le_trans HB1.out.size (h2 x hx), HB1.out.trans (h3.mono HB1.out.size), fun x hx => by
      simp only [List.mem_singleton] at hx
      subst hx
      exact ⟨fun hm => by have := h2 _ hm; omega, by simp, Nat.lt_of_lt_of_le hs1 h3.size⟩⟩, (h3.block _ hs1).trans HK1.out⟩
  clear h1 h2 h3 HB1
  go_wp2_with fail
  refine (rnew_calls 6 w2 (by omega) (by omega)).mono ?_
  rintro e w3 ⟨v3, N3, rfl, ⟨A3, ca3, X3, cx3, P3, rfl, h3⟩, hb3, hn3⟩
  have HP3 : Hid (P3.length = 0) := by have h := h3.pd; show _ = _; have : (newD 6).p = [] := rfl; rw [this] at h; cases P3 with
    | nil => rfl
    | cons a b => cases h
  have hR3 := below1 w3 (.cells #[.slice A3 (64 * (newD 6).n) ca3, .slice X3 P3.length cx3, .bool (newD 6).x, .int .i64 (newD 6).f] 33)
  have hk3 := heap_alloc_new w3 (.cells #[.slice A3 (64 * (newD 6).n) ca3, .slice X3 P3.length cx3, .bool (newD 6).x, .int .i64 (newD 6).f] 33)
  have HT4 : Hid (TwoR w g w3.heap.size w.heap.size (newD 6) (w3.alloc (.cells #[.slice A3 (64 * (newD 6).n) ca3, .slice X3 P3.length cx3, .bool (newD 6).x, .int .i64 (newD 6).f] 33))) := by
    have hsz := H2.out.b.size
    have hs2 : w.heap.size < w2.heap.size := (Array.getElem?_eq_some_iff.1 HK2.out.2).1
    have hs3 := hb3.size
    have hN3 : ∀ x ∈ N3, w2.heap.size ≤ x := fun x hx => by
      rcases hn3 x hx with h | h
      · cases h
      · exact h
    have hb4 := hb3.trans (hR3.mono hb3.size)
    refine ⟨N3, A3, ca3, X3, cx3, P3, ?_, hk3, (hb4.block _ hs2).trans HK2.out.2, h3.below hR3, fun hx => by have := h3.nl _ hx; omega, fun hx => by have := hN3 _ hx; omega, fun x hx => by have := hN3 _ hx; omega, by omega, Nat.le_refl _, by omega⟩
    refine (HK2.out.1.grow hb4 (fun x hx => ?_))
    rcases List.mem_cons.1 hx with rfl | hx
    · exact .inr ⟨hb3.size, by simp⟩
    · rcases List.mem_cons.1 hx with rfl | hx
      · exact .inl (by simp)
      · exact .inr ⟨hN3 x hx, by have := h3.nl x hx; simp; omega⟩
  have e3 : (64 * (newD 6).n) = 384 := rfl
  have e4 : (newD 6).x = false := rfl
  have e5 : (newD 6).f = -1 := rfl
  rw [HP3.out, e3, e4, e5] at HT4
  unfold kval id
  rw [HP3.out, e3, e4, e5]
  clear e3 e4 e5 hR3 hk3 h3 hb3 hn3 H2 HK2
  go_wp2_with fail
  generalize w3.alloc (.cells #[.slice A3 384 ca3, .slice X3 0 cx3, .bool false, .int .i64 (-1)] 33) = w4 at *
  generalize w3.heap.size = R at *
  go_loopw [10] (fun i wr => ∃ (k : Nat) (D : St), k ≤ n ∧ i = .int .i64 k ∧ D.n = 6 ∧ D.p.length ≤ k ∧ TwoR w g R w.heap.size D wr) (fun i _ => n - (intOf i).toNat)
  case atStart => exact ⟨0, newD 6, by omega, rfl, rfl, Nat.zero_le _, HT4.out⟩
  case round =>
    obtain ⟨k, D, hk, rfl, hn6, hpl, N, A, ca, X, cx, P, t1, t2, u2, t3, t4, u4, v4, t5, _, t6⟩ := hrel
    have HN6 := Lib.hid hn6
    have HO := Lib.hid t1
    have HRB := Lib.hid t2
    have HSB := Lib.hid u2
    have HIK := Lib.hid t3
    have HRN := Lib.hid t4
    have HSN := Lib.hid u4
    have HVN := Lib.hid v4
    have hRl : R < wr.heap.size := (Array.getElem?_eq_some_iff.1 t2).1
    clear hn6 t1 t2 t3 t4 u2 u4 v4
    have j0 : (0 : Int) ≤ (k : Int) := by omega
    by_cases hlt : k < n
    · have j1 : (k : Int) < (n : Int) := by omega
      have hkl : k < ms.length := by have := HN.out; omega
      obtain ⟨b, off, rfl, hbw, x0, x1, x2, x3, x4⟩ := HR.out.cells k hkl
      have hok := HR.out.ok _ (List.getElem_mem hkl)
      obtain ⟨m, HM⟩ : ∃ x, Hid (ms[k] = x) := ⟨ms[k], rfl⟩
      rw [HM.out] at x0 x1 x2 x3 x4 hok
      have HOK := Lib.hid hok
      have hat : ∀ o v (w' : World), w'.heap[b]? = w.heap[b]? → w.cell? ⟨b, o, none⟩ = some v → w'.cell? ⟨b, o, none⟩ = some v := fun o v w' h hv => (World.cell?_of_block (a := ⟨b, o, none⟩) h).trans hv
      have hbr : wr.heap[b]? = w.heap[b]? := HO.out.b.block b hbw
      have hbl : b < wr.heap.size := Nat.lt_of_lt_of_le hbw HO.out.b.size
      have z0 : ∀ w' : World, Below wr.heap.size wr w' → w'.cell? ⟨b, off + k * 5, none⟩ = some (.int .i64 m.c.kind) := fun w' h => hat _ _ w' ((h.block b hbl).trans hbr) x0
      have z1 : ∀ w' : World, Below wr.heap.size wr w' → w'.cell? ⟨b, off + k * 5 + 1, none⟩ = some (.int .i64 m.c.sec) := fun w' h => hat _ _ w' ((h.block b hbl).trans hbr) x1
      have z2 : ∀ w' : World, Below wr.heap.size wr w' → w'.cell? ⟨b, off + k * 5 + 2, none⟩ = some (.int .i64 m.c.n) := fun w' h => hat _ _ w' ((h.block b hbl).trans hbr) x2
      have z3 : ∀ w' : World, Below wr.heap.size wr w' → w'.cell? ⟨b, off + k * 5 + 3, none⟩ = some (vb m.c.seed) := fun w' h => hat _ _ w' ((h.block b hbl).trans hbr) x3
      have z4 : ∀ w' : World, Below wr.heap.size wr w' → w'.cell? ⟨b, off + k * 5 + 4, none⟩ = some (.slice m.a m.c.sv.length m.cap) := fun w' h => hat _ _ w' ((h.block b hbl).trans hbr) x4
      have hRc : ∀ w', Below wr.heap.size wr w' → w'.heap[R]? = some (.cells #[.slice A (64 * D.n) ca, .slice X P.length cx, .bool D.x, .int .i64 D.f] 33 (0, 0)) := fun w' h => (h.block R hRl).trans HRB.out
      have r0 : ∀ w', Below wr.heap.size wr w' → w'.cell? ⟨R, 0, none⟩ = some (.slice A (64 * D.n) ca) := fun w' h => (cell_of_row _ _ 0 _ _ _ (hRc w' h)).trans rfl
      have r1 : ∀ w', Below wr.heap.size wr w' → w'.cell? ⟨R, 1, none⟩ = some (.slice X P.length cx) := fun w' h => (cell_of_row _ _ 1 _ _ _ (hRc w' h)).trans rfl
      have r2 : ∀ w', Below wr.heap.size wr w' → w'.cell? ⟨R, 2, none⟩ = some (.bool D.x) := fun w' h => (cell_of_row _ _ 2 _ _ _ (hRc w' h)).trans rfl
      have r3 : ∀ w', Below wr.heap.size wr w' → w'.cell? ⟨R, 3, none⟩ = some (.int .i64 D.f) := fun w' h => (cell_of_row _ _ 3 _ _ _ (hRc w' h)).trans rfl
      have HRW : ∀ wx, Below wr.heap.size wr wx → Hid (Calls Try.prog 29 #[.agg #[.slice A (64 * D.n) ca, .slice X P.length cx, .bool D.x, .int .i64 D.f], .agg #[.int .i64 m.c.kind, .int .i64 m.c.sec, .int .i64 m.c.n, vb m.c.seed, .slice m.a m.c.sv.length m.cap]] wx fun e w' =>
          ∃ N6 A6 ca6 X6 cx6 P6 Xw nw cw, e = .returned (.tuple #[.agg #[.slice A6 (64 * (stD D m.c).n) ca6, .slice X6 P6.length cx6, .bool (stD D m.c).x, .int .i64 (stD D m.c).f], .slice Xw nw cw, .int .i64 (stE D m.c)]) ∧ IsK' w' N6 (stD D m.c) A6 ca6 X6 cx6 P6 ∧ (∀ x ∈ N6, x ∈ N ∨ wx.heap.size ≤ x) ∧ nw = (stL D m.c).length ∧ (∀ (S : List Nat) (w'' : World), (∀ x ∈ S, x ∉ N ∧ x < wx.heap.size) → Chg S w' w'' → RB w'' Xw (stL D m.c)) ∧ Below wx.heap.size wx w' ∧ Below wr.heap.size wr w') := by
        intro wx h1
        refine (rstep_calls (kval D A ca X cx P) N D m wx ⟨A, ca, X, cx, P, rfl, HIK.out.below h1⟩ ((HOK.out.below HO.out.b).below h1) (by omega)).mono ?_
        rintro e w' ⟨v', N6, Xw, nw, cw, rfl, q1, q2, q3, q4, ⟨A6, ca6, X6, cx6, P6, rfl, h6⟩, hb, hn6, hfr⟩
        exact ⟨N6, A6, ca6, X6, cx6, P6, Xw, nw, cw, rfl, h6, hn6, q1, hfr, hb, h1.trans (hb.mono h1.size)⟩
      obtain ⟨M, E, o1, o2, o3, o4⟩ := HO.out
      have HO1 := Lib.hid o1
      have HO2 := Lib.hid o2
      have HO4 := Lib.hid o4
      have HMR : Hid (∀ x ∈ M, x ∉ N ∧ x < wr.heap.size) := fun x hx => ⟨fun hn => (o4 x (by simp [hn])).1 hx, o1.ml x hx⟩
      have HDF : Hid ((stD D m.c).n = 6 ∧ (stD D m.c).p.length ≤ k + 1) := ⟨by rw [stD_n]; exact HN6.out, by have := stD_p D m.c; omega⟩
      have HSTEP : Hid (∀ w' F, Below wr.heap.size wr w' → (∀ x ∈ F, x ∉ M ∧ x ∉ E ∧ x < w'.heap.size) → Calls Try.prog 20 #[.pointer (some ⟨g, 0, none⟩), .agg #[.int .i64 m.c.kind, .int .i64 m.c.sec, .int .i64 m.c.n, vb m.c.seed, .slice m.a m.c.sv.length m.cap]] w' fun e w'' =>
          ∃ X n cx, e = .returned (.tuple #[.slice X n cx, .int .i64 (stE D m.c)]) ∧ n = (stL D m.c).length ∧ RB w'' X (stL D m.c) ∧ n ≤ cx ∧ OwnF w F g (stD D m.c) w'' ∧ Kept F w' w'' ∧ Chg M w' w'') :=
        fun w' F hb hF => ownD_step (HO1.out.below hb) HO2.out (HO.out.b.trans (hb.mono HO.out.b.size)) hF m HOK.out (by omega)
      clear o1 o2 o3 o4 hat x0 x1 x2 x3 x4 hok hRc
      generalize stD D m.c = D6 at *
      generalize stE D m.c = er at *
      generalize stL D m.c = l at *
      generalize m.c.kind = kd at *
      generalize m.c.sec = sc at *
      generalize m.c.n = mn at *
      generalize vb m.c.seed = sd at *
      generalize m.c.sv.length = sl at *
      go_wp2_with fail
      go_region_held3 (fun w' => Below wr.heap.size wr w') (first | exact below_drew _ | assumption | exact (below1 wr _).trans ((below_drew _).mono (by simp)) | exact Below.alloc hs6 hs6.size _ | exact (((Below.setCell (p := ⟨_, 0, none⟩) hs6 hnbl _).setCell (p := ⟨_, 1, none⟩) hnbl _).setCell (p := ⟨_, 2, none⟩) hnbl _).setCell (p := ⟨_, 3, none⟩) hnbl _) (first | (go_at_call 29; refine (HRW wr.drew (below_drew _)).out.mono ?_; rintro e w6 ⟨N6, A6, ca6, X6, cx6, P6, Xw, nw, cw, rfl, hi6, hn6, hq6, hf6, hb6, hs6⟩; have HI6 := Lib.hid hi6; have HN6' := Lib.hid hn6; have HQ6 := Lib.hid hq6; have HF6 := Lib.hid hf6; clear hi6 hn6 hq6 hf6) | (go_at_call 29; refine (HRW (wr.alloc (.cells #[.slice none 0 0, .slice none 0 0, .bool false, .int .i64 0] 33)).drew ((below1 wr _).trans ((below_drew _).mono (by simp)))).out.mono ?_; rintro e w6 ⟨N6, A6, ca6, X6, cx6, P6, Xw, nw, cw, rfl, hi6, hn6, hq6, hf6, hb6, hs6⟩; have HI6 := Lib.hid hi6; have HN6' := Lib.hid hn6; have HQ6 := Lib.hid hq6; have HF6 := Lib.hid hf6; have hnbl : wr.heap.size ≤ wr.heap.size := Nat.le_refl _; have HZ6 := Lib.hid ((hb6.block _ (by simp)).trans (heap_alloc_new wr (.cells #[.slice none 0 0, .slice none 0 0, .bool false, .int .i64 0] 33))); have nc0 : w6.cell? ⟨wr.heap.size, 0, none⟩ = some _ := (cell_of_row _ _ 0 _ _ _ HZ6.out).trans rfl; have nf0 : w6.frozen? ⟨wr.heap.size, 0, none⟩ = false := frozen_of_row _ _ _ _ _ HZ6.out; have nc1 : w6.cell? ⟨wr.heap.size, 1, none⟩ = some _ := (cell_of_row _ _ 1 _ _ _ HZ6.out).trans rfl; have nf1 : w6.frozen? ⟨wr.heap.size, 1, none⟩ = false := frozen_of_row _ _ _ _ _ HZ6.out; have nc2 : w6.cell? ⟨wr.heap.size, 2, none⟩ = some _ := (cell_of_row _ _ 2 _ _ _ HZ6.out).trans rfl; have nf2 : w6.frozen? ⟨wr.heap.size, 2, none⟩ = false := frozen_of_row _ _ _ _ _ HZ6.out; have nc3 : w6.cell? ⟨wr.heap.size, 3, none⟩ = some _ := (cell_of_row _ _ 3 _ _ _ HZ6.out).trans rfl; have nf3 : w6.frozen? ⟨wr.heap.size, 3, none⟩ = false := frozen_of_row _ _ _ _ _ HZ6.out; clear hi6 hn6 hq6 hf6))
      all_goals (first | ((fail_if_success (have _h := nc0)); have hnb := heap_alloc_new w6 (.cells #[.slice A6 (64 * D6.n) ca6, .slice X6 P6.length cx6, .bool D6.x, .int .i64 D6.f] 33); have hbn : Below wr.heap.size wr (w6.alloc (.cells #[.slice A6 (64 * D6.n) ca6, .slice X6 P6.length cx6, .bool D6.x, .int .i64 D6.f] 33)) := hs6.alloc hs6.size _; have HIn := Lib.hid (HI6.out.below (below1 w6 (.cells #[.slice A6 (64 * D6.n) ca6, .slice X6 P6.length cx6, .bool D6.x, .int .i64 D6.f] 33))); have HNW : Hid (∀ x ∈ N6, x ∈ N ∨ wr.heap.size ≤ x) := (fun x hx => HN6'.out x hx); have HFR : Hid (∀ (S : List Nat) (w'' : World), (∀ x ∈ S, x ∉ N ∧ x < wr.heap.size) → Chg S (w6.alloc (.cells #[.slice A6 (64 * D6.n) ca6, .slice X6 P6.length cx6, .bool D6.x, .int .i64 D6.f] 33)) w'' → RB w'' Xw l) := (fun S w'' hS hc => HF6.out S w'' hS ((Chg.of_below (below1 w6 (.cells #[.slice A6 (64 * D6.n) ca6, .slice X6 P6.length cx6, .bool D6.x, .int .i64 D6.f] 33)) S).trans' hc)); have hnbn : wr.heap.size ≤ w6.heap.size := hs6.size; generalize w6.alloc (.cells #[.slice A6 (64 * D6.n) ca6, .slice X6 P6.length cx6, .bool D6.x, .int .i64 D6.f] 33) = wn at *; have na0 : wn.cell? ⟨w6.heap.size, 0, none⟩ = some _ := (cell_of_row _ _ 0 _ _ _ hnb).trans rfl; have na1 : wn.cell? ⟨w6.heap.size, 1, none⟩ = some _ := (cell_of_row _ _ 1 _ _ _ hnb).trans rfl; have na2 : wn.cell? ⟨w6.heap.size, 2, none⟩ = some _ := (cell_of_row _ _ 2 _ _ _ hnb).trans rfl; have na3 : wn.cell? ⟨w6.heap.size, 3, none⟩ = some _ := (cell_of_row _ _ 3 _ _ _ hnb).trans rfl; generalize w6.heap.size = nb at *) | (have HNW : Hid (∀ x ∈ N6, x ∈ N ∨ wr.heap.size ≤ x) := (fun x hx => (HN6'.out x hx).imp id fun h => Nat.le_trans (by simp) h); have hnb := heap_set4 HZ6.out (.slice A6 (64 * D6.n) ca6) (.slice X6 P6.length cx6) (.bool D6.x) (.int .i64 D6.f); have hcn := chg_set4 w6 (wr.heap.size) (.slice A6 (64 * D6.n) ca6) (.slice X6 P6.length cx6) (.bool D6.x) (.int .i64 D6.f); have hbn : Below wr.heap.size wr _ := hs6.trans (hcn.below hs6.size (fun x hx => by simp only [List.mem_singleton] at hx; subst hx; exact hnbl)); have hnn : ∀ x ∈ N6, x ≠ wr.heap.size := ne_of_new HN6'.out HIK.out.nl hnbl (by simp); have HIn := Lib.hid (HI6.out.kept (fun x hx => hcn.block x (HI6.out.nl x hx) (by simp; exact hnn x hx)) hcn.size);  clear nc0 nc1 nc2 nc3 nf0 nf1 nf2 nf3 hnn; have HFR : Hid (∀ (S : List Nat) (w'' : World), (∀ x ∈ S, x ∉ N ∧ x < wr.heap.size) → Chg S _ w'' → RB w'' Xw l) := (fun S w'' hS hc => HF6.out ((wr.heap.size) :: S) w'' (fun x hx => by rcases List.mem_cons.1 hx with rfl | hx; exact ⟨fun h => (by have := HIK.out.nl _ h; omega), (by simp)⟩; exact ⟨(hS x hx).1, Nat.lt_of_lt_of_le (hS x hx).2 (by simp)⟩) ((hcn.mono (by simp)).trans' (hc.mono fun x hx => List.mem_cons_of_mem _ hx))); clear hcn; generalize (((w6.setCell ⟨wr.heap.size, 0, none⟩ (.slice A6 (64 * D6.n) ca6)).setCell ⟨wr.heap.size, 1, none⟩ (.slice X6 P6.length cx6)).setCell ⟨wr.heap.size, 2, none⟩ (.bool D6.x)).setCell ⟨wr.heap.size, 3, none⟩ (.int .i64 D6.f) = wn at *; have na0 : wn.cell? ⟨wr.heap.size, 0, none⟩ = some _ := (cell_of_row _ _ 0 _ _ _ hnb).trans rfl; have na1 : wn.cell? ⟨wr.heap.size, 1, none⟩ = some _ := (cell_of_row _ _ 1 _ _ _ hnb).trans rfl; have na2 : wn.cell? ⟨wr.heap.size, 2, none⟩ = some _ := (cell_of_row _ _ 2 _ _ _ hnb).trans rfl; have na3 : wn.cell? ⟨wr.heap.size, 3, none⟩ = some _ := (cell_of_row _ _ 3 _ _ _ hnb).trans rfl; obtain ⟨nb, HNB⟩ : ∃ x, Hid (wr.heap.size = x) := ⟨_, rfl⟩; have hnbn : wr.heap.size ≤ nb := (by have := HNB.out; omega); rw [HNB.out] at hnb na0 na1 na2 na3 ⊢))
      all_goals
        have HBN := Lib.hid hbn
        have HNB2 := Lib.hid hnb
        have hnl : nb < wn.heap.size := (Array.getElem?_eq_some_iff.1 hnb).1
        have hOF := HO.out.grow (F' := nb :: R :: w.heap.size :: (N6 ++ N)) hbn (fun x hx => by
          simp only [List.mem_cons, List.mem_append] at hx
          rcases hx with rfl | rfl | rfl | hx | hx
          · exact .inr ⟨hnbn, hnl⟩
          · exact .inl (by simp)
          · exact .inl (by simp)
          · rcases HNW.out x hx with h | h
            · exact .inl (by simp [h])
            · exact .inr ⟨h, HIn.out.nl x hx⟩
          · exact .inl (by simp [hx]))
        have hRn : ∀ x ∈ (nb :: R :: w.heap.size :: (N6 ++ N)), x ∉ M ∧ x ∉ E ∧ x < wn.heap.size := by
          intro x hx
          have hlt2 : x < wn.heap.size := hOF.lt x hx
          have hnew : wr.heap.size ≤ x → x ∉ M ∧ x ∉ E := by
            obtain ⟨_, _, _, _, _, hd⟩ := HO1.out
            exact fun h => ⟨fun hm => by have := hd.ml x hm; omega, fun hm => by have := hd.el x hm; omega⟩
          have hold : x ∈ (R :: w.heap.size :: N) → x ∉ M ∧ x ∉ E := fun h => ⟨(HO4.out x h).1, (HO4.out x h).2.1⟩
          have h2 : x ∉ M ∧ x ∉ E := by
            simp only [List.mem_cons, List.mem_append] at hx
            rcases hx with rfl | rfl | rfl | hx | hx
            · exact hnew hnbn
            · exact hold (by simp)
            · exact hold (by simp)
            · rcases HNW.out x hx with h | h
              · exact hold (by simp [h])
              · exact hnew h
            · exact hold (by simp [hx])
          exact ⟨h2.1, h2.2, hlt2⟩
        have HST := Lib.hid (HSTEP.out wn _ hbn hRn)
        have y0 := z0 wn hbn
        have y1 := z1 wn hbn
        have y2 := z2 wn hbn
        have y3 := z3 wn hbn
        have y4 := z4 wn hbn
        clear z0 z1 z2 z3 z4 r0 r1 r2 r3 HRW HSTEP hOF hRn hbn hnb na0 na1 na2 na3
        go_wp2_with fail
        refine HST.out.mono ?_
        rintro e w7 ⟨Xg, ng, cg, rfl, hng, hrg, _, ho7, hk7, hc7⟩
        have HWT := Lib.hid (HFR.out M w7 HMR.out hc7)
        have HSM := Lib.hid (same_calls Xg Xw ng nw cg cw l l w7 hng.symm HQ6.out.symm hrg HWT.out)
        rw [sameB_self] at HSM
        have HO7 := Lib.hid ho7
        have HNB7 := Lib.hid ((hk7 nb (by simp)).trans HNB2.out)
        have HR7 := Lib.hid ((hk7 R (by simp)).trans ((HBN.out.block R hRl).trans HRB.out))
        have HS7 := Lib.hid ((hk7 w.heap.size (by simp)).trans ((HBN.out.block _ (Array.getElem?_eq_some_iff.1 HSB.out).1).trans HSB.out))
        have HI7 := Lib.hid (HIn.out.kept' (fun x hx => hk7 x (by simp [hx])))
        have HEV := Lib.hid (ownF_even HO7.out ⟨A6, ca6, X6, cx6, P6, rfl, HI7.out⟩)
        unfold kval at HEV
        have der : (er != er) = false := by simp
        clear hng hrg ho7 hk7 hc7 y0 y1 y2 y3 y4
        have vc0 : w7.cell? ⟨nb, 0, none⟩ = some _ := (cell_of_row _ _ 0 _ _ _ HNB7.out).trans rfl; have vf0 : w7.frozen? ⟨nb, 0, none⟩ = false := frozen_of_row _ _ _ _ _ HNB7.out; have vc1 : w7.cell? ⟨nb, 1, none⟩ = some _ := (cell_of_row _ _ 1 _ _ _ HNB7.out).trans rfl; have vf1 : w7.frozen? ⟨nb, 1, none⟩ = false := frozen_of_row _ _ _ _ _ HNB7.out; have vc2 : w7.cell? ⟨nb, 2, none⟩ = some _ := (cell_of_row _ _ 2 _ _ _ HNB7.out).trans rfl; have vf2 : w7.frozen? ⟨nb, 2, none⟩ = false := frozen_of_row _ _ _ _ _ HNB7.out; have vc3 : w7.cell? ⟨nb, 3, none⟩ = some _ := (cell_of_row _ _ 3 _ _ _ HNB7.out).trans rfl; have vf3 : w7.frozen? ⟨nb, 3, none⟩ = false := frozen_of_row _ _ _ _ _ HNB7.out
        go_wp2_with fail
        refine HSM.out.mono ?_
        rintro e w8 ⟨rfl, rfl⟩
        go_wp2_with fail
        refine HEV.out.mono ?_
        rintro e w8 ⟨rfl, hb8⟩
        have HB8 := Lib.hid hb8
        have HNB8 := Lib.hid ((hb8.block _ (Array.getElem?_eq_some_iff.1 HNB7.out).1).trans HNB7.out)
        have HR8 := Lib.hid ((hb8.block _ (Array.getElem?_eq_some_iff.1 HR7.out).1).trans HR7.out)
        have HS8 := Lib.hid ((hb8.block _ (Array.getElem?_eq_some_iff.1 HS7.out).1).trans HS7.out)
        clear hb8
        clear vc0 vf0 vc1 vf1 vc2 vf2 vc3 vf3
        have vc0 : w8.cell? ⟨nb, 0, none⟩ = some _ := (cell_of_row _ _ 0 _ _ _ HNB8.out).trans rfl; have vf0 : w8.frozen? ⟨nb, 0, none⟩ = false := frozen_of_row _ _ _ _ _ HNB8.out; have vc1 : w8.cell? ⟨nb, 1, none⟩ = some _ := (cell_of_row _ _ 1 _ _ _ HNB8.out).trans rfl; have vf1 : w8.frozen? ⟨nb, 1, none⟩ = false := frozen_of_row _ _ _ _ _ HNB8.out; have vc2 : w8.cell? ⟨nb, 2, none⟩ = some _ := (cell_of_row _ _ 2 _ _ _ HNB8.out).trans rfl; have vf2 : w8.frozen? ⟨nb, 2, none⟩ = false := frozen_of_row _ _ _ _ _ HNB8.out; have vc3 : w8.cell? ⟨nb, 3, none⟩ = some _ := (cell_of_row _ _ 3 _ _ _ HNB8.out).trans rfl; have vf3 : w8.frozen? ⟨nb, 3, none⟩ = false := frozen_of_row _ _ _ _ _ HNB8.out
        have rc0 : w8.cell? ⟨R, 0, none⟩ = some _ := (cell_of_row _ _ 0 _ _ _ HR8.out).trans rfl; have rf0 : w8.frozen? ⟨R, 0, none⟩ = false := frozen_of_row _ _ _ _ _ HR8.out; have rc1 : w8.cell? ⟨R, 1, none⟩ = some _ := (cell_of_row _ _ 1 _ _ _ HR8.out).trans rfl; have rf1 : w8.frozen? ⟨R, 1, none⟩ = false := frozen_of_row _ _ _ _ _ HR8.out; have rc2 : w8.cell? ⟨R, 2, none⟩ = some _ := (cell_of_row _ _ 2 _ _ _ HR8.out).trans rfl; have rf2 : w8.frozen? ⟨R, 2, none⟩ = false := frozen_of_row _ _ _ _ _ HR8.out; have rc3 : w8.cell? ⟨R, 3, none⟩ = some _ := (cell_of_row _ _ 3 _ _ _ HR8.out).trans rfl; have rf3 : w8.frozen? ⟨R, 3, none⟩ = false := frozen_of_row _ _ _ _ _ HR8.out
        go_wp2_with fail
        have HTW : Hid (TwoR w g R w.heap.size D6 ((((w8.setCell ⟨R, 0, none⟩ (.slice A6 (64 * D6.n) ca6)).setCell ⟨R, 1, none⟩ (.slice X6 P6.length cx6)).setCell ⟨R, 2, none⟩ (.bool D6.x)).setCell ⟨R, 3, none⟩ (.int .i64 D6.f))) := by
          have hzz := heap_set4 HR8.out (.slice A6 (64 * D6.n) ca6) (.slice X6 P6.length cx6) (.bool D6.x) (.int .i64 D6.f)
          have hcz := chg_set4 w8 R (.slice A6 (64 * D6.n) ca6) (.slice X6 P6.length cx6) (.bool D6.x) (.int .i64 D6.f)
          have hsr := (Array.getElem?_eq_some_iff.1 HSB.out).1
          have hR6 : R ∉ N6 := fun hx => by
            rcases HNW.out R hx with h | h
            · exact HRN.out h
            · omega
          have hS6 : w.heap.size ∉ N6 := fun hx => by
            rcases HNW.out _ hx with h | h
            · exact HSN.out h
            · omega
          have hi8 := HI7.out.below HB8.out
          refine ⟨N6, A6, ca6, X6, cx6, P6, (((HO7.out.below HB8.out).sub (F' := R :: w.heap.size :: N6) (fun x hx => ?_)).wr hcz (by simp; exact t5)), hzz, hcz.blk HS8.out (by simp; exact fun h => t6 h.symm), hi8.kept (fun x hx => hcz.block x (hi8.nl x hx) (by simp; rintro rfl; exact hR6 hx)) hcz.size, hR6, hS6, fun x hx => ?_, t5, Nat.le_refl _, t6⟩
          · simp only [List.mem_cons] at hx
            rcases hx with rfl | rfl | hx
            · simp
            · simp
            · simp [hx]
          · rcases HNW.out x hx with h | h
            · exact HVN.out x h
            · have := HO.out.b.size; omega
        go_roundw
        case rel => exact ⟨k + 1, D6, by omega, by go_num, HDF.out.1, HDF.out.2, HTW.out⟩
        case measure => simp [intOf]; omega
    · have hcc := HRB
      have HKE : Hid (k ≤ n) := hk
      have rc0 : wr.cell? ⟨R, 0, none⟩ = some _ := (cell_of_row _ _ 0 _ _ _ HRB.out).trans rfl; have rf0 : wr.frozen? ⟨R, 0, none⟩ = false := frozen_of_row _ _ _ _ _ HRB.out; have rc1 : wr.cell? ⟨R, 1, none⟩ = some _ := (cell_of_row _ _ 1 _ _ _ HRB.out).trans rfl; have rf1 : wr.frozen? ⟨R, 1, none⟩ = false := frozen_of_row _ _ _ _ _ HRB.out; have rc2 : wr.cell? ⟨R, 2, none⟩ = some _ := (cell_of_row _ _ 2 _ _ _ HRB.out).trans rfl; have rf2 : wr.frozen? ⟨R, 2, none⟩ = false := frozen_of_row _ _ _ _ _ HRB.out; have rc3 : wr.cell? ⟨R, 3, none⟩ = some _ := (cell_of_row _ _ 3 _ _ _ HRB.out).trans rfl; have rf3 : wr.frozen? ⟨R, 3, none⟩ = false := frozen_of_row _ _ _ _ _ HRB.out
      have sc0 : wr.cell? ⟨w.heap.size, 0, none⟩ = some _ := (cell_of_row _ _ 0 _ _ _ HSB.out).trans rfl; have sf0 : wr.frozen? ⟨w.heap.size, 0, none⟩ = false := frozen_of_row _ _ _ _ _ HSB.out; have sc1 : wr.cell? ⟨w.heap.size, 1, none⟩ = some _ := (cell_of_row _ _ 1 _ _ _ HSB.out).trans rfl; have sf1 : wr.frozen? ⟨w.heap.size, 1, none⟩ = false := frozen_of_row _ _ _ _ _ HSB.out; have sc2 : wr.cell? ⟨w.heap.size, 2, none⟩ = some _ := (cell_of_row _ _ 2 _ _ _ HSB.out).trans rfl; have sf2 : wr.frozen? ⟨w.heap.size, 2, none⟩ = false := frozen_of_row _ _ _ _ _ HSB.out; have sc3 : wr.cell? ⟨w.heap.size, 3, none⟩ = some _ := (cell_of_row _ _ 3 _ _ _ HSB.out).trans rfl; have sf3 : wr.frozen? ⟨w.heap.size, 3, none⟩ = false := frozen_of_row _ _ _ _ _ HSB.out
      have HF : Hid (∀ w', Chg [w.heap.size] wr w' → RunP w n (.returned (.tuple #[.pointer (some ⟨g, 0, none⟩), .agg #[.slice A (64 * D.n) ca, .slice X P.length cx, .bool D.x, .int .i64 D.f], .bool true])) w') := by
        intro w' hc
        exact ⟨g, N, kval D A ca X cx P, D, rfl, (HO.out.wr hc (by simp)).sub (fun x hx => by simp [hx]), ⟨A, ca, X, cx, P, rfl, HIK.out.kept (fun x hx => hc.block x (HIK.out.nl x hx) (by simp; rintro rfl; exact HSN.out hx)) hc.size⟩, HVN.out, HN6.out, by omega⟩
      have hwd := heap_set4 (w := wr.drew) HSB.out (.slice A (64 * D.n) ca) (.slice X P.length cx) (.bool D.x) (.int .i64 D.f)
      have hcd := chg_set4 wr.drew w.heap.size (.slice A (64 * D.n) ca) (.slice X P.length cx) (.bool D.x) (.int .i64 D.f)
      have HCD := Lib.hid ((Chg.refl [w.heap.size] wr).drew.trans' hcd)
      have HWD := Lib.hid hwd
      clear hcd hwd hcc
      go_wp2_with fail
      go_region
      go_wp2_with fail
      refine bodyPost_ret (results_tmp_cell_tmp rfl _ _ w.heap.size 33 _ (0, 0) _ rfl HWD.out Try.underlying33 rfl size_dk) rfl ?_
      exact HF.out _ HCD.out
end Dk
end Go.Proofs.Ytoallpinpeolfaa
