/- The walks of refmeshref19.Step. -/
import Derived.Test.YtoallpinpeolfaaDkY
import Derived.Test.YtoallpinpeolfaaDkI
namespace Go.Proofs.Ytoallpinpeolfaa
open Go.RowKit
namespace Dk

/-- a struct result in memory, and two in slots -/
theorem results_cell_tmp2 {P : Program} {fn : Func} {p t2 t3 : Tmp} {ty : TypeId} (h : fn.results = #[.cell p ty, .tmp t2, .tmp t3]) (tmps : Array Value) (w : World) (g : Nat) (t : TypeId) (cs : Array Value) (fr : Nat × Nat) (d : TypeDesc)
    (hp : tmps.getD p undef = .pointer (some ⟨g, 0, none⟩)) (hg : w.heap[g]? = some (.cells cs t fr))
    (hu : P.underlying ty = some d) (hd : (match d with | .struct _ | .array _ _ => true | _ => false) = true) (hi : (P.info? ty).map (·.size) = some cs.size) :
    (results fn tmps).run P w = .ok (.tuple #[.agg cs, tmps.getD t2 undef, tmps.getD t3 undef]) w := by
  have hp' : tmps[p]?.getD undef = .pointer (some ⟨g, 0, none⟩) := by simpa using hp
  simp [results, h, hp', asAddr, run_loadVar_row w g t ty cs fr d hg hu hd hi]

/-- what the reference's Step leaves -/
def RStepP (w : World) (N0 : List Nat) (D : St) (c : Cl) (e : Ending) (w' : World) : Prop :=
  ∃ v' N' X n cx, e = .returned (.tuple #[v', .slice X n cx, .int .i64 (stE D c)]) ∧ n = (stL D c).length ∧ RB w' X (stL D c) ∧ n ≤ cx ∧ cx ≤ maxLen ∧ IsK w' N' v' (stD D c) ∧ Below w.heap.size w w' ∧ (∀ x ∈ N', x ∈ N0 ∨ w.heap.size ≤ x) ∧ ∀ (S : List Nat) (w'' : World), (∀ x ∈ S, x ∉ N0 ∧ x < w.heap.size) → Chg S w' w'' → RB w'' X (stL D c)


/-- the end of Step -/
theorem rstep_end {w wn w' : World} {N0 N6 : List Nat} {D D6 : St} {c : Cl} {A6 X6 X : Option Addr} {ca6 cx6 n cx : Nat} {P6 : List Pm} {er : Int} {l : List UInt8}
    (hi : IsK' wn N6 D6 A6 ca6 X6 cx6 P6) (hc : Chg [w.heap.size + 1 + 1] wn w') (hR : w.heap.size + 1 + 1 ∉ N6) (hb : Below w.heap.size w wn) (hN : ∀ x ∈ N6, x ∈ N0 ∨ w.heap.size ≤ x)
    (hD : stD D c = D6) (he : stE D c = er) (hl : stL D c = l) (hn : n = l.length) (hN0 : w.heap.size + 1 + 1 ∉ N0) (hr : ∀ (S : List Nat) (w'' : World), (∀ x ∈ S, x ∉ N0 ∧ x ≤ w.heap.size + 1 + 1) → Chg S wn w'' → RB w'' X l) (h1 : n ≤ cx) (h2 : cx ≤ maxLen) :
    RStepP w N0 D c (.returned (.tuple #[.agg #[.slice A6 (64 * D6.n) ca6, .slice X6 P6.length cx6, .bool D6.x, .int .i64 D6.f], .slice X n cx, .int .i64 er])) w' := by
  subst hD; subst he; subst hl
  exact ⟨kval _ A6 ca6 X6 cx6 P6, N6, X, n, cx, rfl, hn, hr _ w' (by simp; exact hN0) hc, h1, h2, ⟨A6, ca6, X6, cx6, P6, rfl, hi.kept (fun x hx => hc.block x (hi.nl x hx) (by simp; rintro rfl; exact hR hx)) hc.size⟩, hb.trans (hc.below hb.size (by simp; omega)), hN, fun S w'' hS hc2 => hr ((w.heap.size + 1 + 1) :: S) w'' (fun x hx => by rcases List.mem_cons.1 hx with rfl | hx; exact ⟨hN0, Nat.le_refl _⟩; exact ⟨(hS x hx).1, by have := (hS x hx).2; omega⟩) ((hc.mono (by simp)).trans' (hc2.mono fun x hx => List.mem_cons_of_mem _ hx))⟩

theorem ne_of_new {N6 N : List Nat} {a b nb : Nat} (h : ∀ x ∈ N6, x ∈ N ∨ a ≤ x) (hN : ∀ x ∈ N, x < b) (hb : b ≤ nb) (ha : nb < a) : ∀ x ∈ N6, x ≠ nb := by
  intro x hx
  rcases h x hx with h1 | h1
  · have := hN x h1; omega
  · omega
set_option maxRecDepth 100000 in
set_option maxHeartbeats 4000000 in
theorem rstep_write (v : Value) (N0 : List Nat) (D : St) (m : Cm) (w : World) (h : IsK w N0 v D) (hm : m.ok w) (hp : D.p.length ≤ 1000) (hkk : m.c.kind = 0 ∨ m.c.kind = 1) : Calls Try.prog 29 #[v, m.val] w (RStepP w N0 D m.c) := by
  obtain ⟨hrd, hs1, hs2, hn2, hsl⟩ := hm
  obtain ⟨c, a, cap⟩ := m
  obtain ⟨kd, sc, n, sd, sv⟩ := c
  unfold Cm.val
  simp only at *
  have HK := Lib.hid h
  obtain ⟨A, ca, X, cx, P, rfl, h⟩ := h
  have HI := Lib.hid h
  have HRD := Lib.hid hrd
  obtain ⟨sl, HSL⟩ : ∃ x, Hid (sv.length = x) := ⟨_, rfl⟩
  rw [HSL.out] at hsl ⊢
  unfold kval at HK ⊢
  clear h hrd
  obtain ⟨pl, HPL⟩ : ∃ x, Hid (P.length = x) := ⟨_, rfl⟩
  obtain ⟨N, HNN⟩ : ∃ x, Hid (64 * D.n = x) := ⟨_, rfl⟩
  rw [HPL.out, HNN.out] at HK ⊢
  have hk0 : (((w.alloc (.cells #[.slice A N ca, .slice X pl cx, .bool D.x, .int .i64 D.f] 33)).alloc (.cells #[.int .i64 kd, .int .i64 sc, .int .i64 n, vb sd, .slice a sl cap] 36)).alloc (.cells #[.slice none 0 0, .slice none 0 0, .bool false, .int .i64 0] 33)).heap[w.heap.size]? = some (.cells #[.slice A N ca, .slice X pl cx, .bool D.x, .int .i64 D.f] 33) := (Below.heap_alloc _ _ _ (by simp; omega)).trans ((Below.heap_alloc _ _ _ (by simp)).trans (heap_alloc_new _ _))
  have hk1 : (((w.alloc (.cells #[.slice A N ca, .slice X pl cx, .bool D.x, .int .i64 D.f] 33)).alloc (.cells #[.int .i64 kd, .int .i64 sc, .int .i64 n, vb sd, .slice a sl cap] 36)).alloc (.cells #[.slice none 0 0, .slice none 0 0, .bool false, .int .i64 0] 33)).heap[w.heap.size + 1]? = some (.cells #[.int .i64 kd, .int .i64 sc, .int .i64 n, vb sd, .slice a sl cap] 36) := (Below.heap_alloc _ _ _ (by simp)).trans (heap_alloc2_new _ _ _)
  have hk2 : (((w.alloc (.cells #[.slice A N ca, .slice X pl cx, .bool D.x, .int .i64 D.f] 33)).alloc (.cells #[.int .i64 kd, .int .i64 sc, .int .i64 n, vb sd, .slice a sl cap] 36)).alloc (.cells #[.slice none 0 0, .slice none 0 0, .bool false, .int .i64 0] 33)).heap[w.heap.size + 2]? = some (.cells #[.slice none 0 0, .slice none 0 0, .bool false, .int .i64 0] 33) := (congrArg (fun i => (((w.alloc (.cells #[.slice A N ca, .slice X pl cx, .bool D.x, .int .i64 D.f] 33)).alloc (.cells #[.int .i64 kd, .int .i64 sc, .int .i64 n, vb sd, .slice a sl cap] 36)).alloc (.cells #[.slice none 0 0, .slice none 0 0, .bool false, .int .i64 0] 33)).heap[i]?) (show w.heap.size + 2 = ((w.alloc (.cells #[.slice A N ca, .slice X pl cx, .bool D.x, .int .i64 D.f] 33)).alloc (.cells #[.int .i64 kd, .int .i64 sc, .int .i64 n, vb sd, .slice a sl cap] 36)).heap.size by simp)).trans (heap_alloc_new _ _)
  have hb3 : Below w.heap.size w (((w.alloc (.cells #[.slice A N ca, .slice X pl cx, .bool D.x, .int .i64 D.f] 33)).alloc (.cells #[.int .i64 kd, .int .i64 sc, .int .i64 n, vb sd, .slice a sl cap] 36)).alloc (.cells #[.slice none 0 0, .slice none 0 0, .bool false, .int .i64 0] 33)) := (below2 w _ _).trans ((below1 _ _).mono (by simp; omega))
  obtain ⟨w3, HW3⟩ : ∃ x, Hid ((((w.alloc (.cells #[.slice A N ca, .slice X pl cx, .bool D.x, .int .i64 D.f] 33)).alloc (.cells #[.int .i64 kd, .int .i64 sc, .int .i64 n, vb sd, .slice a sl cap] 36)).alloc (.cells #[.slice none 0 0, .slice none 0 0, .bool false, .int .i64 0] 33)) = x) := ⟨_, rfl⟩
  rw [HW3.out] at hk0 hk1 hk2 hb3
  have HK0 := Lib.hid hk0
  have HK1 := Lib.hid hk1
  have HK2 := Lib.hid hk2
  have HB3 := Lib.hid hb3
  clear hk0 hk1 hk2 hb3
  have hs3 : w.heap.size + 1 + 1 < w3.heap.size := (Array.getElem?_eq_some_iff.1 HK2.out).1
  have HNL3 : Hid (∀ x ∈ N0, x < w3.heap.size) := fun x hx => by have := HI.out.nl x hx; omega
  have r0 : ∀ w', Below w3.heap.size w3 w' → w'.cell? ⟨w.heap.size, 0, none⟩ = some (.slice A N ca) := fun w' h => (cell_of_row _ _ 0 _ _ _ ((h.block _ (by omega)).trans HK0.out)).trans rfl
  have r1 : ∀ w', Below w3.heap.size w3 w' → w'.cell? ⟨w.heap.size, 1, none⟩ = some (.slice X pl cx) := fun w' h => (cell_of_row _ _ 1 _ _ _ ((h.block _ (by omega)).trans HK0.out)).trans rfl
  have r2 : ∀ w', Below w3.heap.size w3 w' → w'.cell? ⟨w.heap.size, 2, none⟩ = some (.bool D.x) := fun w' h => (cell_of_row _ _ 2 _ _ _ ((h.block _ (by omega)).trans HK0.out)).trans rfl
  have r3 : ∀ w', Below w3.heap.size w3 w' → w'.cell? ⟨w.heap.size, 3, none⟩ = some (.int .i64 D.f) := fun w' h => (cell_of_row _ _ 3 _ _ _ ((h.block _ (by omega)).trans HK0.out)).trans rfl
  have y0 : ∀ w', Below w3.heap.size w3 w' → w'.cell? ⟨w.heap.size + 1, 0, none⟩ = some (.int .i64 kd) := fun w' h => (cell_of_row _ _ 0 _ _ _ ((h.block _ (by omega)).trans HK1.out)).trans rfl
  have y1 : ∀ w', Below w3.heap.size w3 w' → w'.cell? ⟨w.heap.size + 1, 1, none⟩ = some (.int .i64 sc) := fun w' h => (cell_of_row _ _ 1 _ _ _ ((h.block _ (by omega)).trans HK1.out)).trans rfl
  have y2 : ∀ w', Below w3.heap.size w3 w' → w'.cell? ⟨w.heap.size + 1, 2, none⟩ = some (.int .i64 n) := fun w' h => (cell_of_row _ _ 2 _ _ _ ((h.block _ (by omega)).trans HK1.out)).trans rfl
  have y3 : ∀ w', Below w3.heap.size w3 w' → w'.cell? ⟨w.heap.size + 1, 3, none⟩ = some (vb sd) := fun w' h => (cell_of_row _ _ 3 _ _ _ ((h.block _ (by omega)).trans HK1.out)).trans rfl
  have y4 : ∀ w', Below w3.heap.size w3 w' → w'.cell? ⟨w.heap.size + 1, 4, none⟩ = some (.slice a sl cap) := fun w' h => (cell_of_row _ _ 4 _ _ _ ((h.block _ (by omega)).trans HK1.out)).trans rfl
  have h01 := hkk
  clear hkk
  have HE : Hid (stD D ⟨kd, sc, n, sd, sv⟩ = writeD D sc (dataB ⟨kd, sc, n, sd, sv⟩) ∧ stE D ⟨kd, sc, n, sd, sv⟩ = writeE D sc (dataB ⟨kd, sc, n, sd, sv⟩) ∧ stL D ⟨kd, sc, n, sd, sv⟩ = []) := by
    refine ⟨?_, ?_, ?_⟩
    · unfold stD; rw [if_pos h01]
    · unfold stE; rw [if_pos h01]
    · unfold stL; rw [if_neg (show ¬ kd = 5 by omega)]
  have HDA : Hid (∀ w', Calls Try.prog 13 #[.agg #[.int .i64 kd, .int .i64 sc, .int .i64 n, vb sd, .slice a sl cap]] w' (NewL w' (dataB ⟨kd, sc, n, sd, sv⟩))) := by
    intro w'; rw [← HSL.out]; exact data_calls ⟨⟨kd, sc, n, sd, sv⟩, a, cap⟩ w'
  have hdl := dataB_len ⟨kd, sc, n, sd, sv⟩
  generalize dataB ⟨kd, sc, n, sd, sv⟩ = dl at *
  have HRW : ∀ wx (X7 : Option Addr) (c7 : Nat), Below w3.heap.size w3 wx → RB wx X7 dl → Hid (Calls Try.prog 12 #[.agg #[.slice A N ca, .slice X pl cx, .bool D.x, .int .i64 D.f], .int .i64 sc, .slice X7 dl.length c7] wx fun e w' =>
      ∃ N6 A6 ca6 X6 cx6 P6, e = .returned (.tuple #[.agg #[.slice A6 (64 * (writeD D sc dl).n) ca6, .slice X6 P6.length cx6, .bool (writeD D sc dl).x, .int .i64 (writeD D sc dl).f], .int .i64 (writeE D sc dl)]) ∧ IsK' w' N6 (writeD D sc dl) A6 ca6 X6 cx6 P6 ∧ (∀ x ∈ N6, x ∈ N0 ∨ wx.heap.size ≤ x) ∧ Below wx.heap.size wx w' ∧ Below w3.heap.size w3 w') := by
    intro wx X7 c7 h1 h2
    refine (rwrite_calls _ N0 D sc X7 dl.length c7 dl wx ((HK.out.below HB3.out).below h1) rfl h2 (by omega) hs1 hs2 (by omega)).mono ?_
    rintro e w' ⟨v', N6, rfl, ⟨A6, ca6, X6, cx6, P6, rfl, h6⟩, hb, hn6⟩
    exact ⟨N6, A6, ca6, X6, cx6, P6, rfl, h6, hn6, hb, h1.trans (hb.mono h1.size)⟩
  have HDX : ∀ wx, Below w3.heap.size w3 wx → Hid (Calls Try.prog 13 #[.agg #[.int .i64 kd, .int .i64 sc, .int .i64 n, vb sd, .slice a sl cap]] wx (fun e w' => NewL wx dl e w' ∧ Below w3.heap.size w3 w')) := by
    intro wx h1
    refine (HDA.out wx).mono fun e w' h => ⟨h, ?_⟩
    obtain ⟨_, _, _, _, hb⟩ := h
    exact h1.trans (hb.mono h1.size)
  generalize writeD D sc dl = D6 at *
  generalize writeE D sc dl = er at *
  rcases h01 with rfl | rfl
  all_goals
    have q0 : w3.cell? ⟨w.heap.size + 1, 0, none⟩ = _ := y0 w3 (Below.refl _ _)
    go_enter Try.func29, Try.ntmps29
    go_upto_region 1 with (fail)
    rw [HW3.out]
    go_upto_region 4 with (fail)
    go_region_held3 (fun w' => Below w3.heap.size w3 w') (first | exact below_drew _ | assumption | exact (below1 w3 _).trans ((below_drew _).mono (by simp)) | exact Below.alloc hs5 hs5.size _ | exact Below.alloc hs6 hs6.size _ | exact (((Below.setCell (p := ⟨_, 0, none⟩) hs6 hnbl _).setCell (p := ⟨_, 1, none⟩) hnbl _).setCell (p := ⟨_, 2, none⟩) hnbl _).setCell (p := ⟨_, 3, none⟩) hnbl _) (first | (go_at_call 13; refine (HDX w3.drew (below_drew _)).out.mono ?_; rintro e w5 ⟨⟨X5, c5, rfl, o5, hb5⟩, hs5⟩; have HR5 := Lib.hid (RB.of_own o5); clear o5) | (go_at_call 13; refine (HDX (w3.alloc (.cells #[.slice none 0 0, .slice none 0 0, .bool false, .int .i64 0] 33)).drew ((below1 w3 _).trans ((below_drew _).mono (by simp)))).out.mono ?_; rintro e w5 ⟨⟨X5, c5, rfl, o5, hb5⟩, hs5⟩; have HR5 := Lib.hid (RB.of_own o5); have hz5 : w5.heap[w3.heap.size]? = some (.cells #[.slice none 0 0, .slice none 0 0, .bool false, .int .i64 0] 33 (0, 0)) := (hb5.block _ (by simp)).trans (heap_alloc_new w3 (.cells #[.slice none 0 0, .slice none 0 0, .bool false, .int .i64 0] 33)); have HZ5 := Lib.hid hz5; clear o5) | (go_at_call 12; have _h := HZ5; refine (HRW w5 X5 c5 hs5 HR5.out).out.mono ?_; rintro e w6 ⟨N6, A6, ca6, X6, cx6, P6, rfl, hi6, hn6, hb6, hs6⟩; have HI6 := Lib.hid hi6; have HN6 := Lib.hid hn6; have hnbl : w3.heap.size ≤ w3.heap.size := Nat.le_refl _; have HZ6 := Lib.hid ((hb6.block _ (Array.getElem?_eq_some_iff.1 HZ5.out).1).trans HZ5.out); have nc0 : w6.cell? ⟨w3.heap.size, 0, none⟩ = some _ := (cell_of_row _ _ 0 _ _ _ HZ6.out).trans rfl; have nf0 : w6.frozen? ⟨w3.heap.size, 0, none⟩ = false := frozen_of_row _ _ _ _ _ HZ6.out; have nc1 : w6.cell? ⟨w3.heap.size, 1, none⟩ = some _ := (cell_of_row _ _ 1 _ _ _ HZ6.out).trans rfl; have nf1 : w6.frozen? ⟨w3.heap.size, 1, none⟩ = false := frozen_of_row _ _ _ _ _ HZ6.out; have nc2 : w6.cell? ⟨w3.heap.size, 2, none⟩ = some _ := (cell_of_row _ _ 2 _ _ _ HZ6.out).trans rfl; have nf2 : w6.frozen? ⟨w3.heap.size, 2, none⟩ = false := frozen_of_row _ _ _ _ _ HZ6.out; have nc3 : w6.cell? ⟨w3.heap.size, 3, none⟩ = some _ := (cell_of_row _ _ 3 _ _ _ HZ6.out).trans rfl; have nf3 : w6.frozen? ⟨w3.heap.size, 3, none⟩ = false := frozen_of_row _ _ _ _ _ HZ6.out; clear hi6 hn6) | (go_at_call 12; refine (HRW (w5.alloc (.cells #[.slice none 0 0, .slice none 0 0, .bool false, .int .i64 0] 33)) X5 c5 (hs5.alloc hs5.size _) (RB.alloc HR5.out _)).out.mono ?_; rintro e w6 ⟨N6, A6, ca6, X6, cx6, P6, rfl, hi6, hn6, hb6, hs6⟩; have HI6 := Lib.hid hi6; have HN6 := Lib.hid hn6; have hnbl : w3.heap.size ≤ w5.heap.size := hs5.size; have HZ6 := Lib.hid ((hb6.block _ (by simp)).trans (heap_alloc_new w5 (.cells #[.slice none 0 0, .slice none 0 0, .bool false, .int .i64 0] 33))); have nc0 : w6.cell? ⟨w5.heap.size, 0, none⟩ = some _ := (cell_of_row _ _ 0 _ _ _ HZ6.out).trans rfl; have nf0 : w6.frozen? ⟨w5.heap.size, 0, none⟩ = false := frozen_of_row _ _ _ _ _ HZ6.out; have nc1 : w6.cell? ⟨w5.heap.size, 1, none⟩ = some _ := (cell_of_row _ _ 1 _ _ _ HZ6.out).trans rfl; have nf1 : w6.frozen? ⟨w5.heap.size, 1, none⟩ = false := frozen_of_row _ _ _ _ _ HZ6.out; have nc2 : w6.cell? ⟨w5.heap.size, 2, none⟩ = some _ := (cell_of_row _ _ 2 _ _ _ HZ6.out).trans rfl; have nf2 : w6.frozen? ⟨w5.heap.size, 2, none⟩ = false := frozen_of_row _ _ _ _ _ HZ6.out; have nc3 : w6.cell? ⟨w5.heap.size, 3, none⟩ = some _ := (cell_of_row _ _ 3 _ _ _ HZ6.out).trans rfl; have nf3 : w6.frozen? ⟨w5.heap.size, 3, none⟩ = false := frozen_of_row _ _ _ _ _ HZ6.out; clear hi6 hn6) | (go_at_call 12; refine (HRW w5 X5 c5 hs5 HR5.out).out.mono ?_; rintro e w6 ⟨N6, A6, ca6, X6, cx6, P6, rfl, hi6, hn6, hb6, hs6⟩; have HI6 := Lib.hid hi6; have HN6 := Lib.hid hn6; clear hi6 hn6))
    all_goals (first | (have hnb := heap_set4 HZ6.out (.slice A6 (64 * D6.n) ca6) (.slice X6 P6.length cx6) (.bool D6.x) (.int .i64 D6.f); have hcn := chg_set4 w6 (w5.heap.size) (.slice A6 (64 * D6.n) ca6) (.slice X6 P6.length cx6) (.bool D6.x) (.int .i64 D6.f); have hbn : Below w3.heap.size w3 _ := hs6.trans (hcn.below hs6.size (fun x hx => by simp only [List.mem_singleton] at hx; subst hx; exact hnbl)); have hnn : ∀ x ∈ N6, x ≠ w5.heap.size := ne_of_new HN6.out HNL3.out hnbl (by simp); have HIn := Lib.hid (HI6.out.kept (fun x hx => hcn.block x (HI6.out.nl x hx) (by simp; exact hnn x hx)) hcn.size); have HNW : Hid (∀ x ∈ N6, x ∈ N0 ∨ w3.heap.size ≤ x) := (fun x hx => (HN6.out x hx).imp id fun h => Nat.le_trans (Nat.le_trans hs5.size (by simp)) h); clear nc0 nc1 nc2 nc3 nf0 nf1 nf2 nf3 hcn hnn; generalize (((w6.setCell ⟨w5.heap.size, 0, none⟩ (.slice A6 (64 * D6.n) ca6)).setCell ⟨w5.heap.size, 1, none⟩ (.slice X6 P6.length cx6)).setCell ⟨w5.heap.size, 2, none⟩ (.bool D6.x)).setCell ⟨w5.heap.size, 3, none⟩ (.int .i64 D6.f) = wn at *; have na0 : wn.cell? ⟨w5.heap.size, 0, none⟩ = some _ := (cell_of_row _ _ 0 _ _ _ hnb).trans rfl; have na1 : wn.cell? ⟨w5.heap.size, 1, none⟩ = some _ := (cell_of_row _ _ 1 _ _ _ hnb).trans rfl; have na2 : wn.cell? ⟨w5.heap.size, 2, none⟩ = some _ := (cell_of_row _ _ 2 _ _ _ hnb).trans rfl; have na3 : wn.cell? ⟨w5.heap.size, 3, none⟩ = some _ := (cell_of_row _ _ 3 _ _ _ hnb).trans rfl) | ((fail_if_success (have _h := nc0)); have hnb := heap_alloc_new w6 (.cells #[.slice A6 (64 * D6.n) ca6, .slice X6 P6.length cx6, .bool D6.x, .int .i64 D6.f] 33); have hbn : Below w3.heap.size w3 (w6.alloc (.cells #[.slice A6 (64 * D6.n) ca6, .slice X6 P6.length cx6, .bool D6.x, .int .i64 D6.f] 33)) := hs6.alloc hs6.size _; have HIn := Lib.hid (HI6.out.below (below1 w6 (.cells #[.slice A6 (64 * D6.n) ca6, .slice X6 P6.length cx6, .bool D6.x, .int .i64 D6.f] 33))); have HNW : Hid (∀ x ∈ N6, x ∈ N0 ∨ w3.heap.size ≤ x) := (fun x hx => (HN6.out x hx).imp id fun h => Nat.le_trans hs5.size h); generalize w6.alloc (.cells #[.slice A6 (64 * D6.n) ca6, .slice X6 P6.length cx6, .bool D6.x, .int .i64 D6.f] 33) = wn at *; have na0 : wn.cell? ⟨w6.heap.size, 0, none⟩ = some _ := (cell_of_row _ _ 0 _ _ _ hnb).trans rfl; have na1 : wn.cell? ⟨w6.heap.size, 1, none⟩ = some _ := (cell_of_row _ _ 1 _ _ _ hnb).trans rfl; have na2 : wn.cell? ⟨w6.heap.size, 2, none⟩ = some _ := (cell_of_row _ _ 2 _ _ _ hnb).trans rfl; have na3 : wn.cell? ⟨w6.heap.size, 3, none⟩ = some _ := (cell_of_row _ _ 3 _ _ _ hnb).trans rfl) | (have hnb := heap_set4 HZ6.out (.slice A6 (64 * D6.n) ca6) (.slice X6 P6.length cx6) (.bool D6.x) (.int .i64 D6.f); have hcn := chg_set4 w6 (w3.heap.size) (.slice A6 (64 * D6.n) ca6) (.slice X6 P6.length cx6) (.bool D6.x) (.int .i64 D6.f); have hbn : Below w3.heap.size w3 _ := hs6.trans (hcn.below hs6.size (fun x hx => by simp only [List.mem_singleton] at hx; subst hx; exact hnbl)); have hnn : ∀ x ∈ N6, x ≠ w3.heap.size := ne_of_new HN6.out HNL3.out hnbl ((Array.getElem?_eq_some_iff.1 HZ5.out).1); have HIn := Lib.hid (HI6.out.kept (fun x hx => hcn.block x (HI6.out.nl x hx) (by simp; exact hnn x hx)) hcn.size); have HNW : Hid (∀ x ∈ N6, x ∈ N0 ∨ w3.heap.size ≤ x) := (fun x hx => (HN6.out x hx).imp id fun h => Nat.le_trans (hs5.size) h); clear nc0 nc1 nc2 nc3 nf0 nf1 nf2 nf3 hcn hnn; generalize (((w6.setCell ⟨w3.heap.size, 0, none⟩ (.slice A6 (64 * D6.n) ca6)).setCell ⟨w3.heap.size, 1, none⟩ (.slice X6 P6.length cx6)).setCell ⟨w3.heap.size, 2, none⟩ (.bool D6.x)).setCell ⟨w3.heap.size, 3, none⟩ (.int .i64 D6.f) = wn at *; have na0 : wn.cell? ⟨w3.heap.size, 0, none⟩ = some _ := (cell_of_row _ _ 0 _ _ _ hnb).trans rfl; have na1 : wn.cell? ⟨w3.heap.size, 1, none⟩ = some _ := (cell_of_row _ _ 1 _ _ _ hnb).trans rfl; have na2 : wn.cell? ⟨w3.heap.size, 2, none⟩ = some _ := (cell_of_row _ _ 2 _ _ _ hnb).trans rfl; have na3 : wn.cell? ⟨w3.heap.size, 3, none⟩ = some _ := (cell_of_row _ _ 3 _ _ _ hnb).trans rfl))
    all_goals
      have HBN := Lib.hid hbn; have HK2N := Lib.hid ((HBN.out.block _ (Array.getElem?_eq_some_iff.1 HK2.out).1).trans HK2.out); have zc0 : wn.cell? ⟨w.heap.size + 1 + 1, 0, none⟩ = some _ := (cell_of_row _ _ 0 _ _ _ HK2N.out).trans rfl; have zf0 : wn.frozen? ⟨w.heap.size + 1 + 1, 0, none⟩ = false := frozen_of_row _ _ _ _ _ HK2N.out; have zc1 : wn.cell? ⟨w.heap.size + 1 + 1, 1, none⟩ = some _ := (cell_of_row _ _ 1 _ _ _ HK2N.out).trans rfl; have zf1 : wn.frozen? ⟨w.heap.size + 1 + 1, 1, none⟩ = false := frozen_of_row _ _ _ _ _ HK2N.out; have zc2 : wn.cell? ⟨w.heap.size + 1 + 1, 2, none⟩ = some _ := (cell_of_row _ _ 2 _ _ _ HK2N.out).trans rfl; have zf2 : wn.frozen? ⟨w.heap.size + 1 + 1, 2, none⟩ = false := frozen_of_row _ _ _ _ _ HK2N.out; have zc3 : wn.cell? ⟨w.heap.size + 1 + 1, 3, none⟩ = some _ := (cell_of_row _ _ 3 _ _ _ HK2N.out).trans rfl; have zf3 : wn.frozen? ⟨w.heap.size + 1 + 1, 3, none⟩ = false := frozen_of_row _ _ _ _ _ HK2N.out
      have HR2N : Hid (w.heap.size + 1 + 1 ∉ N6) := by
        intro hx
        rcases HNW.out _ hx with h | h
        · have := HI.out.nl _ h; omega
        · omega
      clear hnb hbn r0 r1 r2 r3 y0 y1 y2 y3 y4 hs5 hs6 HRW HDX
      go_wp2_with fail
      have hzz := heap_set4 HK2N.out (.slice A6 (64 * D6.n) ca6) (.slice X6 P6.length cx6) (.bool D6.x) (.int .i64 D6.f)
      have hcz := chg_set4 wn (w.heap.size + 1 + 1) (.slice A6 (64 * D6.n) ca6) (.slice X6 P6.length cx6) (.bool D6.x) (.int .i64 D6.f)
      refine bodyPost_ret (results_cell_tmp2 rfl _ _ (w.heap.size + 1 + 1) 33 _ (0, 0) _ rfl hzz Try.underlying33 rfl size_dk) rfl ?_
      exact rstep_end HIn.out hcz HR2N.out (HB3.out.trans (HBN.out.mono HB3.out.size)) (fun x hx => (HNW.out x hx).imp id fun h => by omega) HE.out.1 HE.out.2.1 HE.out.2.2 rfl (fun hx => by have := HI.out.nl _ hx; omega) (fun _ _ _ _ => RB.nil) (Nat.le_refl _) (by simp [maxLen])
end Dk
end Go.Proofs.Ytoallpinpeolfaa
