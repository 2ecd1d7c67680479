/- The reference's disk in memory; the walks of refmeshref19: New, inside, burn, Write. -/
import Derived.Test.YtoallpinpeolfaaDkU
namespace Go.Proofs.Ytoallpinpeolfaa
open Go.RowKit
namespace Dk

theorem info_pc : (Try.prog.info? 47).map (fun i => (i.zero, i.size, i.bytes)) = some (some (.agg #[.int .i64 0, .slice none 0 0]), 2, 32) := by kernel_rfl
theorem size_dk : (Try.prog.info? 33).map (·.size) = some 4 := by kernel_rfl
theorem heap_set4 {w : World} {R : Nat} {a b c d : Value} {t : TypeId} (h : w.heap[R]? = some (.cells #[a, b, c, d] t (0, 0))) (x y z u : Value) :
    ((((w.setCell ⟨R, 0, none⟩ x).setCell ⟨R, 1, none⟩ y).setCell ⟨R, 2, none⟩ z).setCell ⟨R, 3, none⟩ u).heap[R]? = some (.cells #[x, y, z, u] t (0, 0)) :=
  heap_setCell_same _ _ _ _ _ _ (heap_setCell_same _ _ _ _ _ _ (heap_setCell_same _ _ _ _ _ _ (heap_setCell_same _ _ _ _ _ _ h)))
theorem chg_set4 (w : World) (R : Nat) (x y z u : Value) : Chg [R] w ((((w.setCell ⟨R, 0, none⟩ x).setCell ⟨R, 1, none⟩ y).setCell ⟨R, 2, none⟩ z).setCell ⟨R, 3, none⟩ u) :=
  ((((Chg.refl [R] w).setCell (p := ⟨R, 0, none⟩) (.inl (by simp)) x).setCell (p := ⟨R, 1, none⟩) (.inl (by simp)) y).setCell (p := ⟨R, 2, none⟩) (.inl (by simp)) z).setCell (p := ⟨R, 3, none⟩) (.inl (by simp)) u

/-- the reference's disk -/
structure IsK' (w : World) (N : List Nat) (D : St) (A : Option Addr) (ca : Nat) (X : Option Addr) (cx : Nat) (P : List Pm) : Prop where
  du : RB w A D.b
  pe : Rd w X (pcells P)
  pd : D.p = P.map (·.q)
  pr : ∀ m ∈ P, RB w m.a m.q.d ∧ m.q.d.length ≤ m.c ∧ m.c ≤ maxLen
  ok : D.ok
  c1 : 64 * D.n ≤ ca
  c2 : ca ≤ maxLen
  c3 : P.length ≤ cx
  c4 : cx ≤ maxLen
  na : ∀ b off, A = some ⟨b, off, none⟩ → b ∈ N
  nx : 0 < P.length → ∀ b off, X = some ⟨b, off, none⟩ → b ∈ N
  nm : ∀ m ∈ P, 0 < m.q.d.length → ∀ b off, m.a = some ⟨b, off, none⟩ → b ∈ N
  nl : ∀ x ∈ N, x < w.heap.size
def kval (D : St) (A : Option Addr) (ca : Nat) (X : Option Addr) (cx : Nat) (P : List Pm) : Value := .agg #[.slice A (64 * D.n) ca, .slice X P.length cx, .bool D.x, .int .i64 D.f]
def IsK (w : World) (N : List Nat) (v : Value) (D : St) : Prop := ∃ A ca X cx P, v = kval D A ca X cx P ∧ IsK' w N D A ca X cx P
section
variable {w w' : World} {N : List Nat} {D : St} {A X : Option Addr} {ca cx : Nat} {P : List Pm} {v : Value}
theorem pcells_pos (P : List Pm) (h : 0 < (pcells P).length) : 0 < P.length := by rw [pcells_len] at h; omega
theorem IsK'.kept (h : IsK' w N D A ca X cx P) (k : Kept N w w') (hl : w.heap.size ≤ w'.heap.size) : IsK' w' N D A ca X cx P :=
  ⟨k.rd h.du (fun _ => h.na), k.rd h.pe (fun hp => h.nx (pcells_pos P hp)), h.pd, fun m hm => ⟨k.rd (h.pr m hm).1 (fun hp => h.nm m hm (by simpa using hp)), (h.pr m hm).2⟩, h.ok, h.c1, h.c2, h.c3, h.c4, h.na, h.nx, h.nm, fun x hx => Nat.lt_of_lt_of_le (h.nl x hx) hl⟩
theorem IsK'.kept' (h : IsK' w N D A ca X cx P) (k : Kept N w w') : IsK' w' N D A ca X cx P :=
  ⟨k.rd h.du (fun _ => h.na), k.rd h.pe (fun hp => h.nx (pcells_pos P hp)), h.pd, fun m hm => ⟨k.rd (h.pr m hm).1 (fun hp => h.nm m hm (by simpa using hp)), (h.pr m hm).2⟩, h.ok, h.c1, h.c2, h.c3, h.c4, h.na, h.nx, h.nm, IsK_size k h.nl⟩
theorem IsK'.below (h : IsK' w N D A ca X cx P) (hb : Below w.heap.size w w') : IsK' w' N D A ca X cx P := h.kept (Kept.of_below h.nl hb) hb.size
theorem IsK.kept (h : IsK w N v D) (k : Kept N w w') (hl : w.heap.size ≤ w'.heap.size) : IsK w' N v D := by
  obtain ⟨A, ca, X, cx, P, hv, h⟩ := h
  exact ⟨A, ca, X, cx, P, hv, h.kept k hl⟩
theorem IsK.below (h : IsK w N v D) (hb : Below w.heap.size w w') : IsK w' N v D := by
  obtain ⟨A, ca, X, cx, P, hv, h⟩ := h
  exact ⟨A, ca, X, cx, P, hv, h.below hb⟩
theorem IsK.ok (h : IsK w N v D) : D.ok := by obtain ⟨_, _, _, _, _, _, h⟩ := h; exact h.ok
theorem IsK.nl (h : IsK w N v D) : ∀ x ∈ N, x < w.heap.size := by obtain ⟨_, _, _, _, _, _, h⟩ := h; exact h.nl
/-- the numbers of the head -/
theorem IsK'.nums (h : IsK' w N D A ca X cx P) (f : Int) (x : Bool) (hf : -1 ≤ f ∧ f ≤ 9223372036854775807) : IsK' w N { D with f := f, x := x } A ca X cx P :=
  ⟨h.du, h.pe, h.pd, h.pr, ⟨h.ok.n1, h.ok.n2, h.ok.b, h.ok.p, hf.1, hf.2⟩, h.c1, h.c2, h.c3, h.c4, h.na, h.nx, h.nm, h.nl⟩
end

/-- a new state of the reference -/
def KP (w : World) (N : List Nat) (D' : St) (mk : Value → Value) (e : Ending) (w' : World) : Prop :=
  ∃ v' N', e = .returned (mk v') ∧ IsK w' N' v' D' ∧ Below w.heap.size w w' ∧ ∀ x ∈ N', x ∈ N ∨ w.heap.size ≤ x

set_option maxRecDepth 100000 in
set_option maxHeartbeats 1000000 in
theorem rnew_calls (n : Nat) (w : World) (h1 : 1 ≤ n) (h2 : n ≤ 65536) : Calls Try.prog 11 #[.int .i64 (n : Int)] w (KP w [] (newD n) id) := by
  have hm64 : 64 * (n : Int) = ((64 * n : Nat) : Int) := by omega
  obtain ⟨N, HN⟩ : ∃ x, Hid (64 * n = x) := ⟨_, rfl⟩
  rw [HN.out] at hm64
  have hNl : N ≤ 4194304 := by have := HN.out; omega
  obtain ⟨i0, hi0, hz0, hz1, hz2⟩ := info_parts info_u8
  have hmk : ∀ u : World, (Instr.makeSlice 30 (.int .i64 (N : Int)) (.int .i64 (N : Int))).run Try.prog u = .ok (.slice (some ⟨u.heap.size, 0, none⟩) N N) (u.alloc (.cells (madeCells #[.int .u8 0] N) 5)) := fun u => by
    have h := run_make (P := Try.prog) u 30 5 i0 (.int .u8 0) Try.underlying30 hi0 hz0 .i64 .i64 N N (by omega) (Int.le_refl _) (by rw [hz2]; omega) (by omega)
    simpa [hz1, Value.cells] using h
  have HMC : Hid ((madeCells #[.int .u8 0] N).toList = (List.replicate N (0 : UInt8)).map vb) := made_bytes N
  generalize madeCells #[.int .u8 0] N = mc at *
  clear hi0 hz0 hz1 hz2
  go_enter Try.func11, Try.ntmps11
  go_wp2_with fail
  have hb2 := below2 w (.cells #[.slice (some ⟨w.heap.size + 1, 0, none⟩) N N, .slice none 0 0, .bool false, .int .i64 (-1)] 33) (.cells mc 5)
  have hA : ((w.alloc (.cells #[.slice (some ⟨w.heap.size + 1, 0, none⟩) N N, .slice none 0 0, .bool false, .int .i64 (-1)] 33)).alloc (.cells mc 5)).heap[w.heap.size]? = some (.cells #[.slice (some ⟨w.heap.size + 1, 0, none⟩) N N, .slice none 0 0, .bool false, .int .i64 (-1)] 33 (0, 0)) := (Below.heap_alloc _ _ _ (by simp)).trans (heap_alloc_new _ _)
  have hG : ((w.alloc (.cells #[.slice (some ⟨w.heap.size + 1, 0, none⟩) N N, .slice none 0 0, .bool false, .int .i64 (-1)] 33)).alloc (.cells mc 5)).heap[w.heap.size + 1]? = some (.cells mc 5 (0, 0)) := heap_alloc2_new _ _ _
  have hz : ((w.alloc (.cells #[.slice (some ⟨w.heap.size + 1, 0, none⟩) N N, .slice none 0 0, .bool false, .int .i64 (-1)] 33)).alloc (.cells mc 5)).heap.size = w.heap.size + 2 := by simp
  refine bodyPost_ret (results_cell_row rfl _ _ w.heap.size 33 _ (0, 0) _ rfl hA Try.underlying33 rfl size_dk) rfl ?_
  have hNn : 64 * (newD n).n = N := HN.out
  refine ⟨kval (newD n) (some ⟨w.heap.size + 1, 0, none⟩) N none 0 [], [w.heap.size + 1], ?_, ⟨_, _, _, _, _, rfl, ?_⟩, hb2, by simp⟩
  · show _ = Ending.returned (kval (newD n) (some ⟨w.heap.size + 1, 0, none⟩) N none 0 [])
    unfold kval; rw [hNn]; rfl
  · refine ⟨?_, Rd.nil, rfl, fun m hm => absurd hm (by simp), newD_ok n h1 h2, by rw [hNn]; exact Nat.le_refl _, by simp only [maxLen]; omega, Nat.le_refl _, by simp [maxLen], fun b off e => by cases e; simp, fun h => absurd h (by simp), fun m hm => absurd hm (by simp), fun x hx => ?_⟩
    · show Rd _ _ ((List.replicate (64 * n) (0 : UInt8)).map vb)
      rw [HN.out, ← HMC.out]
      exact Rd.mk fun i v hv => by rw [Nat.zero_add, cell_of_row _ _ _ _ _ _ hG]; simpa using hv
    · simp only [List.mem_singleton] at hx; omega
set_option maxRecDepth 100000 in
set_option maxHeartbeats 1000000 in
theorem rinside_calls (v : Value) (N0 : List Nat) (D : St) (s k : Int) (w : World) (h : IsK w N0 v D) (hs : -9223372036854775808 ≤ s) (hs2 : s ≤ 9223372036854775807) :
    Calls Try.prog 30 #[v, .int .i64 s, .int .i64 k] w fun e w' => e = .returned (.bool (inB D.n s k)) ∧ Below w.heap.size w w' := by
  obtain ⟨A, ca, X, cx, P, rfl, h⟩ := h
  have hn := h.ok.n2
  have hc1 := h.c1
  have hc2 := h.c2
  have hc3 := h.c3
  have hc4 := h.c4
  unfold maxLen at hc2 hc4
  have hq : ((64 * D.n : Nat) : Int) / 64 = (D.n : Int) := by omega
  have hb := inB D.n s k
  have HQ : Hid (∀ b, b = inB D.n s k → Ending.returned (.bool b) = .returned (.bool (inB D.n s k))) := by rintro b rfl; rfl
  generalize hbb : inB D.n s k = r at *
  have HB := Lib.hid hbb
  unfold inB at hbb
  clear h hb
  unfold kval
  obtain ⟨N, HN⟩ : ∃ x, Hid (64 * D.n = x) := ⟨_, rfl⟩
  rw [HN.out] at hq hc1 ⊢
  have hN9 : N ≤ 4194304 := by have := HN.out; omega
  generalize P.length = pl at *
  have HB1 := Lib.hid (below1 w (.cells #[.slice A N ca, .slice X pl cx, .bool D.x, .int .i64 D.f] 33))
  by_cases h1 : 0 ≤ s
  · have d1 : decide (0 ≤ s) = true := by simpa using h1
    by_cases h2 : 0 ≤ k
    · have d2 : decide (0 ≤ k) = true := by simpa using h2
      by_cases h3 : s ≤ D.n
      · have d3 : decide (s ≤ (D.n : Int)) = true := by simpa using h3
        rw [d1, d2, d3] at hbb
        have HB2 := Lib.hid hbb
        clear hbb
        go_enter Try.func30, Try.ntmps30
        go_wp2_with fail
        go_ret
        exact ⟨HQ.out _ (by rw [← HB2.out]; simp), HB1.out⟩
      · have d3 : decide (s ≤ (D.n : Int)) = false := by simpa using h3
        rw [d1, d2, d3] at hbb
        have HB2 := Lib.hid hbb
        clear hbb
        go_enter Try.func30, Try.ntmps30
        go_wp2_with fail
        go_ret
        exact ⟨HQ.out _ (by rw [← HB2.out]; simp), HB1.out⟩
    · have d2 : decide (0 ≤ k) = false := by simpa using h2
      rw [d1, d2] at hbb
      have HB2 := Lib.hid hbb
      clear hbb
      go_enter Try.func30, Try.ntmps30
      go_wp2_with fail
      go_ret
      exact ⟨HQ.out _ (by rw [← HB2.out]; simp), HB1.out⟩
  · have d1 : decide (0 ≤ s) = false := by simpa using h1
    rw [d1] at hbb
    have HB2 := Lib.hid hbb
    clear hbb
    go_enter Try.func30, Try.ntmps30
    go_wp2_with fail
    go_ret
    exact ⟨HQ.out _ (by rw [← HB2.out]; simp), HB1.out⟩
set_option maxRecDepth 100000 in
set_option maxHeartbeats 1000000 in
theorem rburn_calls (v : Value) (N0 : List Nat) (D : St) (w : World) (h : IsK w N0 v D) :
    Calls Try.prog 31 #[v] w (KP w N0 (burnD D) fun v' => .tuple #[v', .bool (!decide (D.f = 0))]) := by
  obtain ⟨A, ca, X, cx, P, rfl, h⟩ := h
  have hf1 := h.ok.f1
  have hf2 := h.ok.f2
  have HI := Lib.hid h
  clear h
  by_cases h0 : D.f = 0
  · have HD : Hid (burnD D = { D with f := D.f, x := true }) := by show _ = _; unfold burnD; rw [if_pos h0]
    have HE : Hid ((!decide (D.f = 0)) = false) := by show _ = _; rw [decide_eq_true h0]; rfl
    have HF : Hid (∀ w', Below w.heap.size w w' → KP w N0 (burnD D) (fun v' => .tuple #[v', .bool false]) (.returned (.tuple #[.agg #[.slice A (64 * D.n) ca, .slice X P.length cx, .bool true, .int .i64 D.f], .bool false])) w') := by
      intro w' hb
      rw [HD.out]
      exact ⟨kval { D with f := D.f, x := true } A ca X cx P, N0, rfl, ⟨A, ca, X, cx, P, rfl, (HI.out.below hb).nums D.f true ⟨hf1, hf2⟩⟩, hb, fun x hx => .inl hx⟩
    rw [HE.out]
    have q0 : (D.f == 0) = true := by simpa using h0
    unfold kval
    clear h0
    generalize 64 * D.n = N at *
    generalize P.length = pl at *
    generalize D.f = f at *
    generalize D.x = x at *
    go_enter Try.func31, Try.ntmps31
    go_wp2_with fail
    refine bodyPost_ret (results_cell_tmp rfl _ _ (w.heap.size + 1) 33 _ (0, 0) _ rfl (heap_alloc2_new _ _ _) Try.underlying33 rfl size_dk) rfl ?_
    exact HF.out _ (below2 _ _ _)
  · have HE : Hid ((!decide (D.f = 0)) = true) := by show _ = _; rw [decide_eq_false h0]; rfl
    have HF : Hid (∀ w' f', f' = burnF D.f → Below w.heap.size w w' → KP w N0 (burnD D) (fun v' => .tuple #[v', .bool true]) (.returned (.tuple #[.agg #[.slice A (64 * D.n) ca, .slice X P.length cx, .bool D.x, .int .i64 f'], .bool true])) w') := by
      intro w' f' hf hb
      have HD : burnD D = { D with f := f', x := D.x } := by unfold burnD; rw [if_neg h0, hf]
      rw [HD]
      exact ⟨kval { D with f := f', x := D.x } A ca X cx P, N0, rfl, ⟨A, ca, X, cx, P, rfl, (HI.out.below hb).nums f' D.x (by rw [hf]; exact burnF_fits hf1 hf2)⟩, hb, fun x hx => .inl hx⟩
    rw [HE.out]
    have q0 : (D.f == 0) = false := by simpa using h0
    unfold kval
    by_cases hp : 0 < D.f
    · have d1 : decide (0 < D.f) = true := by simpa using hp
      have HFF : Hid (D.f - 1 = burnF D.f) := by show _ = _; unfold burnF; rw [if_pos hp]
      clear h0
      generalize 64 * D.n = N at *
      generalize P.length = pl at *
      generalize D.x = x at *
      go_enter Try.func31, Try.ntmps31
      go_wp2_with fail
      refine bodyPost_ret (results_cell_tmp rfl _ _ (w.heap.size + 1) 33 _ (0, 0) _ rfl (heap_alloc2_new _ _ _) Try.underlying33 rfl size_dk) rfl ?_
      exact HF.out _ _ HFF.out (below2 _ _ _)
    · have d1 : decide (0 < D.f) = false := by simpa using hp
      have HFF : Hid (D.f = burnF D.f) := by show _ = _; unfold burnF; rw [if_neg hp]
      clear h0
      generalize 64 * D.n = N at *
      generalize P.length = pl at *
      generalize D.x = x at *
      go_enter Try.func31, Try.ntmps31
      go_wp2_with fail
      refine bodyPost_ret (results_cell_tmp rfl _ _ (w.heap.size + 1) 33 _ (0, 0) _ rfl (heap_alloc2_new _ _ _) Try.underlying33 rfl size_dk) rfl ?_
      exact HF.out _ _ HFF.out (below2 _ _ _)
end Dk
end Go.Proofs.Ytoallpinpeolfaa
