/- Merged: JnW JnY JnZ JoA JoB JoC. -/
import Derived.Lib.SlBytesConst
import Derived.Test.YtmdpmpfjldgalaaML
import Derived.Test.YtmdpmpfjldgalaaMI
import Derived.Test.YtmdpmpfjldgalaaMB
/- The law's pair: what the operations leave of it. -/
namespace Go.Proofs.Ytmdpmpfjldgalaa
open Go.RowKit
namespace Jn
open Dk Wi Wr

theorem heap_setM {w : World} {x : Nat} {a0 a1 a2 a3 a4 a5 a6 a7 a8 a9 a10 : Value} {t : TypeId} (k : w.heap[x]? = some (.cells #[a0, a1, a2, a3, a4, a5, a6, a7, a8, a9, a10] t (0, 0))) (c0 c1 c2 c3 c4 c5 c6 c7 c8 : Value) :
    ((((((((((w.setCell ⟨x, 2, none⟩ c0).setCell ⟨x, 3, none⟩ c1).setCell ⟨x, 4, none⟩ c2).setCell ⟨x, 5, none⟩ c3).setCell ⟨x, 6, none⟩ c4).setCell ⟨x, 7, none⟩ c5).setCell ⟨x, 8, none⟩ c6).setCell ⟨x, 9, none⟩ c7).setCell ⟨x, 10, none⟩ c8)).heap[x]? = some (.cells #[a0, a1, c0, c1, c2, c3, c4, c5, c6, c7, c8] t (0, 0)) := by
  have k1 : (w.setCell ⟨x, 2, none⟩ c0).heap[x]? = some (.cells #[a0, a1, c0, a3, a4, a5, a6, a7, a8, a9, a10] t (0, 0)) := heap_setCell_same _ _ _ _ _ _ k
  have k2 : ((w.setCell ⟨x, 2, none⟩ c0).setCell ⟨x, 3, none⟩ c1).heap[x]? = some (.cells #[a0, a1, c0, c1, a4, a5, a6, a7, a8, a9, a10] t (0, 0)) := heap_setCell_same _ _ _ _ _ _ k1
  have k3 : (((w.setCell ⟨x, 2, none⟩ c0).setCell ⟨x, 3, none⟩ c1).setCell ⟨x, 4, none⟩ c2).heap[x]? = some (.cells #[a0, a1, c0, c1, c2, a5, a6, a7, a8, a9, a10] t (0, 0)) := heap_setCell_same _ _ _ _ _ _ k2
  have k4 : ((((w.setCell ⟨x, 2, none⟩ c0).setCell ⟨x, 3, none⟩ c1).setCell ⟨x, 4, none⟩ c2).setCell ⟨x, 5, none⟩ c3).heap[x]? = some (.cells #[a0, a1, c0, c1, c2, c3, a6, a7, a8, a9, a10] t (0, 0)) := heap_setCell_same _ _ _ _ _ _ k3
  have k5 : (((((w.setCell ⟨x, 2, none⟩ c0).setCell ⟨x, 3, none⟩ c1).setCell ⟨x, 4, none⟩ c2).setCell ⟨x, 5, none⟩ c3).setCell ⟨x, 6, none⟩ c4).heap[x]? = some (.cells #[a0, a1, c0, c1, c2, c3, c4, a7, a8, a9, a10] t (0, 0)) := heap_setCell_same _ _ _ _ _ _ k4
  have k6 : ((((((w.setCell ⟨x, 2, none⟩ c0).setCell ⟨x, 3, none⟩ c1).setCell ⟨x, 4, none⟩ c2).setCell ⟨x, 5, none⟩ c3).setCell ⟨x, 6, none⟩ c4).setCell ⟨x, 7, none⟩ c5).heap[x]? = some (.cells #[a0, a1, c0, c1, c2, c3, c4, c5, a8, a9, a10] t (0, 0)) := heap_setCell_same _ _ _ _ _ _ k5
  have k7 : (((((((w.setCell ⟨x, 2, none⟩ c0).setCell ⟨x, 3, none⟩ c1).setCell ⟨x, 4, none⟩ c2).setCell ⟨x, 5, none⟩ c3).setCell ⟨x, 6, none⟩ c4).setCell ⟨x, 7, none⟩ c5).setCell ⟨x, 8, none⟩ c6).heap[x]? = some (.cells #[a0, a1, c0, c1, c2, c3, c4, c5, c6, a9, a10] t (0, 0)) := heap_setCell_same _ _ _ _ _ _ k6
  have k8 : ((((((((w.setCell ⟨x, 2, none⟩ c0).setCell ⟨x, 3, none⟩ c1).setCell ⟨x, 4, none⟩ c2).setCell ⟨x, 5, none⟩ c3).setCell ⟨x, 6, none⟩ c4).setCell ⟨x, 7, none⟩ c5).setCell ⟨x, 8, none⟩ c6).setCell ⟨x, 9, none⟩ c7).heap[x]? = some (.cells #[a0, a1, c0, c1, c2, c3, c4, c5, c6, c7, a10] t (0, 0)) := heap_setCell_same _ _ _ _ _ _ k7
  have k9 : (((((((((w.setCell ⟨x, 2, none⟩ c0).setCell ⟨x, 3, none⟩ c1).setCell ⟨x, 4, none⟩ c2).setCell ⟨x, 5, none⟩ c3).setCell ⟨x, 6, none⟩ c4).setCell ⟨x, 7, none⟩ c5).setCell ⟨x, 8, none⟩ c6).setCell ⟨x, 9, none⟩ c7).setCell ⟨x, 10, none⟩ c8).heap[x]? = some (.cells #[a0, a1, c0, c1, c2, c3, c4, c5, c6, c7, c8] t (0, 0)) := heap_setCell_same _ _ _ _ _ _ k8
  exact k9
theorem heap_setD {w : World} {x : Nat} {a0 a1 a2 a3 a4 a5 a6 a7 a8 a9 a10 : Value} {t : TypeId} (k : w.heap[x]? = some (.cells #[a0, a1, a2, a3, a4, a5, a6, a7, a8, a9, a10] t (0, 0))) (c0 c1 c2 c3 : Value) :
    (((((w.setCell ⟨x, 2, none⟩ c0).setCell ⟨x, 3, none⟩ c1).setCell ⟨x, 4, none⟩ c2).setCell ⟨x, 5, none⟩ c3)).heap[x]? = some (.cells #[a0, a1, c0, c1, c2, c3, a6, a7, a8, a9, a10] t (0, 0)) := by
  have k1 : (w.setCell ⟨x, 2, none⟩ c0).heap[x]? = some (.cells #[a0, a1, c0, a3, a4, a5, a6, a7, a8, a9, a10] t (0, 0)) := heap_setCell_same _ _ _ _ _ _ k
  have k2 : ((w.setCell ⟨x, 2, none⟩ c0).setCell ⟨x, 3, none⟩ c1).heap[x]? = some (.cells #[a0, a1, c0, c1, a4, a5, a6, a7, a8, a9, a10] t (0, 0)) := heap_setCell_same _ _ _ _ _ _ k1
  have k3 : (((w.setCell ⟨x, 2, none⟩ c0).setCell ⟨x, 3, none⟩ c1).setCell ⟨x, 4, none⟩ c2).heap[x]? = some (.cells #[a0, a1, c0, c1, c2, a5, a6, a7, a8, a9, a10] t (0, 0)) := heap_setCell_same _ _ _ _ _ _ k2
  have k4 : ((((w.setCell ⟨x, 2, none⟩ c0).setCell ⟨x, 3, none⟩ c1).setCell ⟨x, 4, none⟩ c2).setCell ⟨x, 5, none⟩ c3).heap[x]? = some (.cells #[a0, a1, c0, c1, c2, c3, a6, a7, a8, a9, a10] t (0, 0)) := heap_setCell_same _ _ _ _ _ _ k3
  exact k4
theorem chg_setM (w : World) (x : Nat) (c0 c1 c2 c3 c4 c5 c6 c7 c8 : Value) : Chg [x] w ((((((((((w.setCell ⟨x, 2, none⟩ c0).setCell ⟨x, 3, none⟩ c1).setCell ⟨x, 4, none⟩ c2).setCell ⟨x, 5, none⟩ c3).setCell ⟨x, 6, none⟩ c4).setCell ⟨x, 7, none⟩ c5).setCell ⟨x, 8, none⟩ c6).setCell ⟨x, 9, none⟩ c7).setCell ⟨x, 10, none⟩ c8)) := ((((((((((Chg.refl [x] w).setCell (p := ⟨x, 2, none⟩) (.inl List.mem_cons_self) c0).setCell (p := ⟨x, 3, none⟩) (.inl List.mem_cons_self) c1).setCell (p := ⟨x, 4, none⟩) (.inl List.mem_cons_self) c2).setCell (p := ⟨x, 5, none⟩) (.inl List.mem_cons_self) c3).setCell (p := ⟨x, 6, none⟩) (.inl List.mem_cons_self) c4).setCell (p := ⟨x, 7, none⟩) (.inl List.mem_cons_self) c5).setCell (p := ⟨x, 8, none⟩) (.inl List.mem_cons_self) c6).setCell (p := ⟨x, 9, none⟩) (.inl List.mem_cons_self) c7).setCell (p := ⟨x, 10, none⟩) (.inl List.mem_cons_self) c8)
theorem chg_setD (w : World) (x : Nat) (c0 c1 c2 c3 : Value) : Chg [x] w (((((w.setCell ⟨x, 2, none⟩ c0).setCell ⟨x, 3, none⟩ c1).setCell ⟨x, 4, none⟩ c2).setCell ⟨x, 5, none⟩ c3)) := (((((Chg.refl [x] w).setCell (p := ⟨x, 2, none⟩) (.inl List.mem_cons_self) c0).setCell (p := ⟨x, 3, none⟩) (.inl List.mem_cons_self) c1).setCell (p := ⟨x, 4, none⟩) (.inl List.mem_cons_self) c2).setCell (p := ⟨x, 5, none⟩) (.inl List.mem_cons_self) c3)
section
variable {w0 w w1 w3 : World} {F : List Nat} {x : Nat} {D Dm D' Dm' : St} {o o' : Option Jr} {jm jm' : Jr} {g : Nat} {p p' : Option Nat} {N N' : List Nat} {A A' : Option Addr} {ca ca' : Nat} {X X' : Option Addr} {cx cx' : Nat} {P P' : List Pm} {sa sa' : Option Addr} {sc sc' : Nat} {ra ra' : Option Addr} {rc rc' : Nat} {ms ms' : List Rm}
/-- the disk and the journal were used -/
theorem Bo'.disk (h : Bo' w0 F x D Dm o jm w g p N A ca X cx P sa sc ra rc ms) (hk : Kept (x :: (N ++ F)) w w1) (hd : DJ w0 (x :: (N ++ F)) g p D' o' w1) : Bo' w0 F x D' Dm o' jm w1 g p N A ca X cx P sa sc ra rc ms :=
  ⟨(hk x (by simp)).trans h.hd, h.m.kept (hk.sub (fun y hy => by simp [hy])), h.xN, h.xl, h.xF, hd⟩
/-- and a new journal is stored -/
theorem Bo'.setp (h : Bo' w0 F x D Dm o jm w g p N A ca X cx P sa sc ra rc ms) (hk : Kept (x :: (N ++ F)) w w1) (hd : DJ w0 (x :: (N ++ F)) g p' D' o' w1) : Bo' w0 F x D' Dm o' jm (w1.setCell ⟨x, 1, none⟩ (jptr p')) g p' N A ca X cx P sa sc ra rc ms := by
  have hc : Chg [x] w1 (w1.setCell ⟨x, 1, none⟩ (jptr p')) := (Chg.refl [x] w1).setCell (p := ⟨x, 1, none⟩) (.inl (by simp)) _
  have hm := h.m.kept (hk.sub (F' := N) (fun y hy => by simp [hy]))
  refine ⟨?_, hm.kept (fun y hy => hc.block y (hm.k.nl y hy) (fun hx => ?_)), h.xN, h.xl, h.xF, hd.wr hc (fun y hy => ?_)⟩
  · exact heap_setCell_same _ _ _ _ _ _ ((hk x (by simp)).trans h.hd)
  · simp only [List.mem_singleton] at hx; subst hx; exact h.xN hy
  · simp only [List.mem_singleton] at hy; subst hy; exact ⟨by simp, h.xl⟩
/-- the model is stored -/
theorem Bo'.setm (h : Bo' w0 F x D Dm o jm w g p N A ca X cx P sa sc ra rc ms) (hb : Below w.heap.size w w3) (hm : IsW' w3 N' Dm' jm' A' ca' X' cx' P' sa' sc' ra' rc' ms') (hN : ∀ y ∈ N', y ∈ N ∨ w.heap.size ≤ y)
    {c0 c1 c2 c3 c4 c5 c6 c7 c8 : Value} (e0 : c0 = .slice A' (64 * Dm'.n) ca') (e1 : c1 = .slice X' P'.length cx') (e2 : c2 = .bool Dm'.x) (e3 : c3 = .int .i64 Dm'.f) (e4 : c4 = .int .i64 (jm'.t : Int)) (e5 : c5 = .slice sa' jm'.s.length sc') (e6 : c6 = .slice ra' ms'.length rc') (e7 : c7 = .int .i64 (jm'.e : Int)) (e8 : c8 = .bool jm'.x) :
    Bo' w0 F x D Dm' o jm' ((((((((((w3.setCell ⟨x, 2, none⟩ c0).setCell ⟨x, 3, none⟩ c1).setCell ⟨x, 4, none⟩ c2).setCell ⟨x, 5, none⟩ c3).setCell ⟨x, 6, none⟩ c4).setCell ⟨x, 7, none⟩ c5).setCell ⟨x, 8, none⟩ c6).setCell ⟨x, 9, none⟩ c7).setCell ⟨x, 10, none⟩ c8)) g p N' A' ca' X' cx' P' sa' sc' ra' rc' ms' ∧ Kept F w ((((((((((w3.setCell ⟨x, 2, none⟩ c0).setCell ⟨x, 3, none⟩ c1).setCell ⟨x, 4, none⟩ c2).setCell ⟨x, 5, none⟩ c3).setCell ⟨x, 6, none⟩ c4).setCell ⟨x, 7, none⟩ c5).setCell ⟨x, 8, none⟩ c6).setCell ⟨x, 9, none⟩ c7).setCell ⟨x, 10, none⟩ c8)) := by
  subst e0 e1 e2 e3 e4 e5 e6 e7 e8
  have hc := chg_setM w3 x (.slice A' (64 * Dm'.n) ca') (.slice X' P'.length cx') (.bool Dm'.x) (.int .i64 Dm'.f) (.int .i64 (jm'.t : Int)) (.slice sa' jm'.s.length sc') (.slice ra' ms'.length rc') (.int .i64 (jm'.e : Int)) (.bool jm'.x)
  have hxl := h.lt
  have hxN : x ∉ N' := fun hx => by
    rcases hN x hx with h1 | h1
    · exact h.xN h1
    · omega
  have hlF : ∀ y ∈ F, y < w.heap.size := fun y hy => h.dj.own.lt y (by simp [hy])
  refine ⟨⟨?_, hm.kept (fun y hy => hc.block y (hm.k.nl y hy) (fun hx => ?_)), hxN, h.xl, h.xF, (h.dj.grow (F' := x :: (N' ++ F)) hb (fun y hy => ?_)).wr hc (fun y hy => ?_)⟩, (Kept.of_below hlF hb).trans (fun y hy => hc.block y (Nat.lt_of_lt_of_le (hlF y hy) hb.size) (fun hx => ?_))⟩
  · exact heap_setM ((hb.block _ hxl).trans h.hd) _ _ _ _ _ _ _ _ _
  · simp only [List.mem_singleton] at hx; subst hx; exact hxN hy
  · simp only [List.mem_cons, List.mem_append] at hy ⊢
    rcases hy with rfl | hy | hy
    · exact .inl (.inl rfl)
    · rcases hN y hy with h1 | h1
      · exact .inl (.inr (.inl h1))
      · exact .inr ⟨h1, hm.k.nl y hy⟩
    · exact .inl (.inr (.inr hy))
  · simp only [List.mem_singleton] at hy; subst hy; exact ⟨by simp, h.xl⟩
  · simp only [List.mem_singleton] at hx; subst hx; exact h.xF hy
/-- the model's disk is stored -/
theorem Bo'.setd (h : Bo' w0 F x D Dm o jm w g p N A ca X cx P sa sc ra rc ms) (hb : Below w.heap.size w w3) (hm : IsK' w3 N' Dm' A' ca' X' cx' P') (hN : ∀ y ∈ N', y ∈ N ∨ w.heap.size ≤ y)
    {c0 c1 c2 c3 : Value} (e0 : c0 = .slice A' (64 * Dm'.n) ca') (e1 : c1 = .slice X' P'.length cx') (e2 : c2 = .bool Dm'.x) (e3 : c3 = .int .i64 Dm'.f) :
    Bo' w0 F x D Dm' o jm (((((w3.setCell ⟨x, 2, none⟩ c0).setCell ⟨x, 3, none⟩ c1).setCell ⟨x, 4, none⟩ c2).setCell ⟨x, 5, none⟩ c3)) g p (N' ++ N) A' ca' X' cx' P' sa sc ra rc ms ∧ Kept F w (((((w3.setCell ⟨x, 2, none⟩ c0).setCell ⟨x, 3, none⟩ c1).setCell ⟨x, 4, none⟩ c2).setCell ⟨x, 5, none⟩ c3)) := by
  subst e0 e1 e2 e3
  have hc := chg_setD w3 x (.slice A' (64 * Dm'.n) ca') (.slice X' P'.length cx') (.bool Dm'.x) (.int .i64 Dm'.f)
  have hxl := h.lt
  have hxN : x ∉ N' ++ N := fun hx => by
    rcases List.mem_append.1 hx with hx | hx
    · rcases hN x hx with h1 | h1
      · exact h.xN h1
      · omega
    · exact h.xN hx
  have hlF : ∀ y ∈ F, y < w.heap.size := fun y hy => h.dj.own.lt y (by simp [hy])
  have hkN : Kept N w w3 := Kept.of_below h.m.k.nl hb
  have hl3 : ∀ y ∈ N' ++ N, y < w3.heap.size := fun y hy => by
    rcases List.mem_append.1 hy with hy | hy
    · exact hm.nl y hy
    · exact Nat.lt_of_lt_of_le (h.m.k.nl y hy) hb.size
  have h3 : IsW' w3 (N' ++ N) Dm' jm A' ca' X' cx' P' sa sc ra rc ms := ⟨hm.sub (fun y hy => by simp [hy]) hl3, h.m.st.sub' hkN (fun y hy => by simp [hy]), h.m.rr.sub' hkN (fun y hy => by simp [hy]), h.m.rs⟩
  refine ⟨⟨?_, h3.kept (fun y hy => hc.block y (hl3 y hy) (fun hx => ?_)), hxN, h.xl, h.xF, (h.dj.grow (F' := x :: ((N' ++ N) ++ F)) hb (fun y hy => ?_)).wr hc (fun y hy => ?_)⟩, (Kept.of_below hlF hb).trans (fun y hy => hc.block y (Nat.lt_of_lt_of_le (hlF y hy) hb.size) (fun hx => ?_))⟩
  · exact heap_setD ((hb.block _ hxl).trans h.hd) _ _ _ _
  · simp only [List.mem_singleton] at hx; subst hx; exact hxN hy
  · simp only [List.mem_cons, List.mem_append] at hy ⊢
    rcases hy with rfl | (hy | hy) | hy
    · exact .inl (.inl rfl)
    · rcases hN y hy with h1 | h1
      · exact .inl (.inr (.inl h1))
      · exact .inr ⟨h1, hm.nl y hy⟩
    · exact .inl (.inr (.inl hy))
    · exact .inl (.inr (.inr hy))
  · simp only [List.mem_singleton] at hy; subst hy; exact ⟨by simp, h.xl⟩
  · simp only [List.mem_singleton] at hx; subst hx; exact h.xF hy
end
theorem openE_none {D : St} (h : openJ D = none) : openE D = 8 ∨ openE D = 10 := by
  unfold openJ at h
  unfold openE
  by_cases h1 : half D = 0
  · rw [if_pos h1]; exact .inl rfl
  · rw [if_neg h1] at h ⊢
    by_cases h2 : D.x = true
    · rw [if_pos h2]; exact .inr rfl
    · rw [if_neg h2] at h ⊢
      cases hb : best (loadD D 0) (loadD D 1) with
      | some j => rw [hb] at h; cases h
      | none =>
        rw [hb] at h
        by_cases h3 : (openR D).2 = true
        · simp only [h3, if_true] at h; cases h
        · simp only [h3]; exact .inr rfl
theorem openE_some {D : St} {j : Jr} (h : openJ D = some j) : openE D = 0 := by
  unfold openJ at h
  unfold openE
  by_cases h1 : half D = 0
  · rw [if_pos h1] at h; cases h
  · rw [if_neg h1] at h ⊢
    by_cases h2 : D.x = true
    · rw [if_pos h2] at h; cases h
    · rw [if_neg h2] at h ⊢
      cases hb : best (loadD D 0) (loadD D 1) with
      | some j => rfl
      | none =>
        rw [hb] at h
        by_cases h3 : (openR D).2 = true
        · simp only [h3, if_true]
        · simp [h3] at h

set_option maxRecDepth 100000 in
set_option maxHeartbeats 4000000 in
theorem bopen_calls (w0 w : World) (F : List Nat) (x : Nat) (D : St) (o : Option Jr) (jm : Jr) (h : Bo w0 F x D o jm w) (hc : Calm D) (hD : D.n ≤ 100) :
    Calls Try.prog 18 #[.pointer (some ⟨x, 0, none⟩)] w fun e w' => e = .returned (.bool true) ∧ Bo w0 F x (openD D) (openJ D) ((openJ D).getD j0) w' ∧ Kept F w w' := by
  obtain ⟨g, p, N, A, ca, X, cx, P, sa, sc, ra, rc, ms, h⟩ := h
  have HB0 := Lib.hid h
  have HHD := Lib.hid h.hd
  have HOP := Lib.hid (open_calls w0 w (x :: (N ++ F)) g D h.dj.own hD hc)
  have HROP : ∀ u, IsK' u N D A ca X cx P → Hid (Calls Try.prog 32 #[kval D A ca X cx P] u (ROpenP u N D)) := fun u hk => ropen_calls _ N D u ⟨_, _, _, _, _, rfl, hk⟩ hc hD
  unfold bocells at HHD
  unfold kval at HROP
  clear h hc
  obtain ⟨NL, HNL⟩ : ∃ y, Hid (64 * D.n = y) := ⟨_, rfl⟩
  obtain ⟨pl, HPL⟩ : ∃ y, Hid (P.length = y) := ⟨_, rfl⟩
  obtain ⟨ml, HML⟩ : ∃ y, Hid (ms.length = y) := ⟨_, rfl⟩
  obtain ⟨sl, HSL⟩ : ∃ y, Hid (jm.s.length = y) := ⟨_, rfl⟩
  rw [HNL.out, HPL.out, HML.out, HSL.out] at HHD
  rw [HNL.out, HPL.out] at HROP
  obtain ⟨er, HER⟩ : ∃ y, Hid (openE D = y) := ⟨_, rfl⟩
  have c0 : w.cell? ⟨x, 0, none⟩ = some (.pointer (some ⟨g, 0, none⟩)) := (cell_of_row _ _ 0 _ _ _ HHD.out).trans rfl
  go_enter Try.func18, Try.ntmps18
  go_wp2_with fail
  (with_reducible refine HOP.out.mono ?_)
  rintro e w1 ⟨hk1, hop⟩
  rw [HER.out] at hop
  rcases hop with ⟨hoj, rfl, hD1⟩ | ⟨j, gj, hoj, rfl, hD1⟩
  · have HP1 := Lib.hid (HB0.out.setp (p' := none) hk1 (.inl ⟨rfl, rfl, hD1⟩ : DJ w0 (x :: (N ++ F)) g none (openD D) none w1))
    have HK1 := Lib.hid (hk1.sub (F' := F) (fun y hy => by simp [hy]))
    have HH1 := Lib.hid ((hk1 x (by simp)).trans HHD.out)
    have hw1 : ∀ y ∈ F, y < w1.heap.size := fun y hy => by have := HP1.out.dj.own.lt y (by simp [hy]); rw [World.size_setCell] at this; exact this
    obtain ⟨w2, HW2⟩ : ∃ y, Hid (w1.setCell ⟨x, 1, none⟩ (.pointer none) = y) := ⟨_, rfl⟩
    have HP2 : Hid (Bo' w0 F x (openD D) D none jm w2 g none N A ca X cx P sa sc ra rc ms) := by show Bo' _ _ _ _ _ _ _ _ _ _ _ _ _ _ _ _ _ _ _ _ _; rw [← HW2.out]; exact HP1.out
    have HC2 : Hid (Chg [x] w1 w2) := by show Chg _ _ _; rw [← HW2.out]; exact (Chg.refl [x] w1).setCell (p := ⟨x, 1, none⟩) (.inl (by simp)) _
    have HK2 : Hid (Kept F w w2) := HK1.out.trans (fun y hy => HC2.out.block y (hw1 y hy) (fun hx => by simp only [List.mem_singleton] at hx; subst hx; exact HP2.out.xF hy))
    have HRO := Lib.hid (HROP w2 HP2.out.m.k).out
    have HH2 : Hid (w2.heap[x]? = some (.cells #[.pointer (some ⟨g, 0, none⟩), .pointer none, .slice A NL ca, .slice X pl cx, .bool D.x, .int .i64 D.f, .int .i64 (jm.t : Int), .slice sa sl sc, .slice ra ml rc, .int .i64 (jm.e : Int), .bool jm.x] 49 (0, 0))) := by
      show _ = _
      rw [← HW2.out]
      exact heap_setCell_same _ _ _ _ _ _ HH1.out
    have HOJ := Lib.hid hoj
    have her := openE_none hoj
    rw [HER.out] at her
    clear HP1 HROP hk1 HOP c0 hw1
    have kc0 : w1.cell? ⟨x, 0, none⟩ = some _ := (cell_of_row _ _ 0 _ _ _ HH1.out).trans rfl; have kf0 : w1.frozen? ⟨x, 0, none⟩ = false := frozen_of_row _ _ _ _ _ HH1.out; have kc1 : w1.cell? ⟨x, 1, none⟩ = some _ := (cell_of_row _ _ 1 _ _ _ HH1.out).trans rfl; have kf1 : w1.frozen? ⟨x, 1, none⟩ = false := frozen_of_row _ _ _ _ _ HH1.out; have kc2 : w1.cell? ⟨x, 2, none⟩ = some _ := (cell_of_row _ _ 2 _ _ _ HH1.out).trans rfl; have kf2 : w1.frozen? ⟨x, 2, none⟩ = false := frozen_of_row _ _ _ _ _ HH1.out; have kc3 : w1.cell? ⟨x, 3, none⟩ = some _ := (cell_of_row _ _ 3 _ _ _ HH1.out).trans rfl; have kf3 : w1.frozen? ⟨x, 3, none⟩ = false := frozen_of_row _ _ _ _ _ HH1.out; have kc4 : w1.cell? ⟨x, 4, none⟩ = some _ := (cell_of_row _ _ 4 _ _ _ HH1.out).trans rfl; have kf4 : w1.frozen? ⟨x, 4, none⟩ = false := frozen_of_row _ _ _ _ _ HH1.out; have kc5 : w1.cell? ⟨x, 5, none⟩ = some _ := (cell_of_row _ _ 5 _ _ _ HH1.out).trans rfl; have kf5 : w1.frozen? ⟨x, 5, none⟩ = false := frozen_of_row _ _ _ _ _ HH1.out; have kc6 : w1.cell? ⟨x, 6, none⟩ = some _ := (cell_of_row _ _ 6 _ _ _ HH1.out).trans rfl; have kf6 : w1.frozen? ⟨x, 6, none⟩ = false := frozen_of_row _ _ _ _ _ HH1.out; have kc7 : w1.cell? ⟨x, 7, none⟩ = some _ := (cell_of_row _ _ 7 _ _ _ HH1.out).trans rfl; have kf7 : w1.frozen? ⟨x, 7, none⟩ = false := frozen_of_row _ _ _ _ _ HH1.out; have kc8 : w1.cell? ⟨x, 8, none⟩ = some _ := (cell_of_row _ _ 8 _ _ _ HH1.out).trans rfl; have kf8 : w1.frozen? ⟨x, 8, none⟩ = false := frozen_of_row _ _ _ _ _ HH1.out; have kc9 : w1.cell? ⟨x, 9, none⟩ = some _ := (cell_of_row _ _ 9 _ _ _ HH1.out).trans rfl; have kf9 : w1.frozen? ⟨x, 9, none⟩ = false := frozen_of_row _ _ _ _ _ HH1.out; have kc10 : w1.cell? ⟨x, 10, none⟩ = some _ := (cell_of_row _ _ 10 _ _ _ HH1.out).trans rfl; have kf10 : w1.frozen? ⟨x, 10, none⟩ = false := frozen_of_row _ _ _ _ _ HH1.out
    go_upto_region 3 with (fail)
    rw [HW2.out]
    clear kc0 kc1 kc2 kc3 kc4 kc5 kc6 kc7 kc8 kc9 kc10 kf0 kf1 kf2 kf3 kf4 kf5 kf6 kf7 kf8 kf9 kf10 hoj
    have kc0 : w2.cell? ⟨x, 0, none⟩ = some _ := (cell_of_row _ _ 0 _ _ _ HH2.out).trans rfl; have kc1 : w2.cell? ⟨x, 1, none⟩ = some _ := (cell_of_row _ _ 1 _ _ _ HH2.out).trans rfl; have kc2 : w2.cell? ⟨x, 2, none⟩ = some _ := (cell_of_row _ _ 2 _ _ _ HH2.out).trans rfl; have kc3 : w2.cell? ⟨x, 3, none⟩ = some _ := (cell_of_row _ _ 3 _ _ _ HH2.out).trans rfl; have kc4 : w2.cell? ⟨x, 4, none⟩ = some _ := (cell_of_row _ _ 4 _ _ _ HH2.out).trans rfl; have kc5 : w2.cell? ⟨x, 5, none⟩ = some _ := (cell_of_row _ _ 5 _ _ _ HH2.out).trans rfl; have kc6 : w2.cell? ⟨x, 6, none⟩ = some _ := (cell_of_row _ _ 6 _ _ _ HH2.out).trans rfl; have kc7 : w2.cell? ⟨x, 7, none⟩ = some _ := (cell_of_row _ _ 7 _ _ _ HH2.out).trans rfl; have kc8 : w2.cell? ⟨x, 8, none⟩ = some _ := (cell_of_row _ _ 8 _ _ _ HH2.out).trans rfl; have kc9 : w2.cell? ⟨x, 9, none⟩ = some _ := (cell_of_row _ _ 9 _ _ _ HH2.out).trans rfl; have kc10 : w2.cell? ⟨x, 10, none⟩ = some _ := (cell_of_row _ _ 10 _ _ _ HH2.out).trans rfl
    go_wp2_with fail
    (with_reducible refine HRO.out.mono ?_)
    rintro e w3 ⟨v, N3, he, ⟨A3, ca3, X3, cx3, P3, sa3, sc3, ra3, rc3, ms3, rfl, hm3⟩, hb3, hn3⟩
    rw [HER.out, HOJ.out] at he
    rw [HOJ.out] at hm3
    rw [show Option.getD (none : Option Jr) j0 = j0 from rfl] at hm3
    unfold jval at he
    have HM3 := Lib.hid (HP2.out.setm hb3 hm3 hn3 rfl rfl rfl rfl rfl rfl rfl rfl rfl)
    have HH3 := Lib.hid ((hb3.block _ HP2.out.lt).trans HH2.out)
    clear hm3 hb3 hn3 HRO kc0 kc1 kc2 kc3 kc4 kc5 kc6 kc7 kc8 kc9 kc10
    rw [show Option.getD (none : Option Jr) j0 = j0 from rfl] at he
    obtain ⟨D3, HD3⟩ : ∃ y, Hid (openD D = y) := ⟨_, rfl⟩
    rw [HD3.out] at he HM3 HP2
    obtain ⟨jq, HZJ⟩ : ∃ y, Hid (j0 = y) := ⟨_, rfl⟩
    rw [HZJ.out] at he HM3
    obtain ⟨NL3, HNL3⟩ : ∃ y, Hid (64 * D3.n = y) := ⟨_, rfl⟩
    obtain ⟨pl3, HPL3⟩ : ∃ y, Hid (P3.length = y) := ⟨_, rfl⟩
    obtain ⟨ml3, HML3⟩ : ∃ y, Hid (ms3.length = y) := ⟨_, rfl⟩
    obtain ⟨sl3, HSL3⟩ : ∃ y, Hid (jq.s.length = y) := ⟨_, rfl⟩
    rw [HNL3.out, HPL3.out, HML3.out, HSL3.out] at he HM3
    subst he
    have dee : (er == er) = true := by simp
    have kc0 : w3.cell? ⟨x, 0, none⟩ = some _ := (cell_of_row _ _ 0 _ _ _ HH3.out).trans rfl; have kf0 : w3.frozen? ⟨x, 0, none⟩ = false := frozen_of_row _ _ _ _ _ HH3.out; have kc1 : w3.cell? ⟨x, 1, none⟩ = some _ := (cell_of_row _ _ 1 _ _ _ HH3.out).trans rfl; have kf1 : w3.frozen? ⟨x, 1, none⟩ = false := frozen_of_row _ _ _ _ _ HH3.out; have kc2 : w3.cell? ⟨x, 2, none⟩ = some _ := (cell_of_row _ _ 2 _ _ _ HH3.out).trans rfl; have kf2 : w3.frozen? ⟨x, 2, none⟩ = false := frozen_of_row _ _ _ _ _ HH3.out; have kc3 : w3.cell? ⟨x, 3, none⟩ = some _ := (cell_of_row _ _ 3 _ _ _ HH3.out).trans rfl; have kf3 : w3.frozen? ⟨x, 3, none⟩ = false := frozen_of_row _ _ _ _ _ HH3.out; have kc4 : w3.cell? ⟨x, 4, none⟩ = some _ := (cell_of_row _ _ 4 _ _ _ HH3.out).trans rfl; have kf4 : w3.frozen? ⟨x, 4, none⟩ = false := frozen_of_row _ _ _ _ _ HH3.out; have kc5 : w3.cell? ⟨x, 5, none⟩ = some _ := (cell_of_row _ _ 5 _ _ _ HH3.out).trans rfl; have kf5 : w3.frozen? ⟨x, 5, none⟩ = false := frozen_of_row _ _ _ _ _ HH3.out; have kc6 : w3.cell? ⟨x, 6, none⟩ = some _ := (cell_of_row _ _ 6 _ _ _ HH3.out).trans rfl; have kf6 : w3.frozen? ⟨x, 6, none⟩ = false := frozen_of_row _ _ _ _ _ HH3.out; have kc7 : w3.cell? ⟨x, 7, none⟩ = some _ := (cell_of_row _ _ 7 _ _ _ HH3.out).trans rfl; have kf7 : w3.frozen? ⟨x, 7, none⟩ = false := frozen_of_row _ _ _ _ _ HH3.out; have kc8 : w3.cell? ⟨x, 8, none⟩ = some _ := (cell_of_row _ _ 8 _ _ _ HH3.out).trans rfl; have kf8 : w3.frozen? ⟨x, 8, none⟩ = false := frozen_of_row _ _ _ _ _ HH3.out; have kc9 : w3.cell? ⟨x, 9, none⟩ = some _ := (cell_of_row _ _ 9 _ _ _ HH3.out).trans rfl; have kf9 : w3.frozen? ⟨x, 9, none⟩ = false := frozen_of_row _ _ _ _ _ HH3.out; have kc10 : w3.cell? ⟨x, 10, none⟩ = some _ := (cell_of_row _ _ 10 _ _ _ HH3.out).trans rfl; have kf10 : w3.frozen? ⟨x, 10, none⟩ = false := frozen_of_row _ _ _ _ _ HH3.out
    go_upto_region 4 with (fail)
    have HF : Hid (Bo w0 F x (openD D) (openJ D) ((openJ D).getD j0) ((((((((((w3.setCell ⟨x, 2, none⟩ (.slice A3 NL3 ca3)).setCell ⟨x, 3, none⟩ (.slice X3 pl3 cx3)).setCell ⟨x, 4, none⟩ (.bool D3.x)).setCell ⟨x, 5, none⟩ (.int .i64 D3.f)).setCell ⟨x, 6, none⟩ (.int .i64 (jq.t : Int))).setCell ⟨x, 7, none⟩ (.slice sa3 sl3 sc3)).setCell ⟨x, 8, none⟩ (.slice ra3 ml3 rc3)).setCell ⟨x, 9, none⟩ (.int .i64 (jq.e : Int))).setCell ⟨x, 10, none⟩ (.bool jq.x))) ∧ Kept F w ((((((((((w3.setCell ⟨x, 2, none⟩ (.slice A3 NL3 ca3)).setCell ⟨x, 3, none⟩ (.slice X3 pl3 cx3)).setCell ⟨x, 4, none⟩ (.bool D3.x)).setCell ⟨x, 5, none⟩ (.int .i64 D3.f)).setCell ⟨x, 6, none⟩ (.int .i64 (jq.t : Int))).setCell ⟨x, 7, none⟩ (.slice sa3 sl3 sc3)).setCell ⟨x, 8, none⟩ (.slice ra3 ml3 rc3)).setCell ⟨x, 9, none⟩ (.int .i64 (jq.e : Int))).setCell ⟨x, 10, none⟩ (.bool jq.x)))) := by
      refine ⟨?_, HK2.out.trans HM3.out.2⟩
      rw [HOJ.out, HD3.out]
      rw [show Option.getD (none : Option Jr) j0 = j0 from rfl, HZJ.out]
      exact ⟨_, _, _, _, _, _, _, _, _, _, _, _, _, HM3.out.1⟩
    have HH4 : Hid (((((((((((w3.setCell ⟨x, 2, none⟩ (.slice A3 NL3 ca3)).setCell ⟨x, 3, none⟩ (.slice X3 pl3 cx3)).setCell ⟨x, 4, none⟩ (.bool D3.x)).setCell ⟨x, 5, none⟩ (.int .i64 D3.f)).setCell ⟨x, 6, none⟩ (.int .i64 (jq.t : Int))).setCell ⟨x, 7, none⟩ (.slice sa3 sl3 sc3)).setCell ⟨x, 8, none⟩ (.slice ra3 ml3 rc3)).setCell ⟨x, 9, none⟩ (.int .i64 (jq.e : Int))).setCell ⟨x, 10, none⟩ (.bool jq.x))).heap[x]? = _) := heap_setM HH3.out _ _ _ _ _ _ _ _ _
    clear kc0 kc1 kc2 kc3 kc4 kc5 kc6 kc7 kc8 kc9 kc10 kf0 kf1 kf2 kf3 kf4 kf5 kf6 kf7 kf8 kf9 kf10
    generalize ((((((((((w3.setCell ⟨x, 2, none⟩ (.slice A3 NL3 ca3)).setCell ⟨x, 3, none⟩ (.slice X3 pl3 cx3)).setCell ⟨x, 4, none⟩ (.bool D3.x)).setCell ⟨x, 5, none⟩ (.int .i64 D3.f)).setCell ⟨x, 6, none⟩ (.int .i64 (jq.t : Int))).setCell ⟨x, 7, none⟩ (.slice sa3 sl3 sc3)).setCell ⟨x, 8, none⟩ (.slice ra3 ml3 rc3)).setCell ⟨x, 9, none⟩ (.int .i64 (jq.e : Int))).setCell ⟨x, 10, none⟩ (.bool jq.x))) = w4 at *
    have k1 : w4.cell? ⟨x, 1, none⟩ = some (.pointer none) := (cell_of_row _ _ 1 _ _ _ HH4.out).trans rfl
    rcases her with rfl | rfl
    all_goals
      go_wp2_with fail
      go_ret
      exact ⟨rfl, HF.out⟩
  · have HP1 := Lib.hid (HB0.out.setp (p' := (some gj)) hk1 (.inr ⟨j, gj, rfl, rfl, hD1⟩ : DJ w0 (x :: (N ++ F)) g (some gj) (openD D) (some j) w1))
    have HK1 := Lib.hid (hk1.sub (F' := F) (fun y hy => by simp [hy]))
    have HH1 := Lib.hid ((hk1 x (by simp)).trans HHD.out)
    have hw1 : ∀ y ∈ F, y < w1.heap.size := fun y hy => by have := HP1.out.dj.own.lt y (by simp [hy]); rw [World.size_setCell] at this; exact this
    obtain ⟨w2, HW2⟩ : ∃ y, Hid (w1.setCell ⟨x, 1, none⟩ (.pointer (some ⟨gj, 0, none⟩)) = y) := ⟨_, rfl⟩
    have HP2 : Hid (Bo' w0 F x (openD D) D (some j) jm w2 g (some gj) N A ca X cx P sa sc ra rc ms) := by show Bo' _ _ _ _ _ _ _ _ _ _ _ _ _ _ _ _ _ _ _ _ _; rw [← HW2.out]; exact HP1.out
    have HC2 : Hid (Chg [x] w1 w2) := by show Chg _ _ _; rw [← HW2.out]; exact (Chg.refl [x] w1).setCell (p := ⟨x, 1, none⟩) (.inl (by simp)) _
    have HK2 : Hid (Kept F w w2) := HK1.out.trans (fun y hy => HC2.out.block y (hw1 y hy) (fun hx => by simp only [List.mem_singleton] at hx; subst hx; exact HP2.out.xF hy))
    have HRO := Lib.hid (HROP w2 HP2.out.m.k).out
    have HH2 : Hid (w2.heap[x]? = some (.cells #[.pointer (some ⟨g, 0, none⟩), .pointer (some ⟨gj, 0, none⟩), .slice A NL ca, .slice X pl cx, .bool D.x, .int .i64 D.f, .int .i64 (jm.t : Int), .slice sa sl sc, .slice ra ml rc, .int .i64 (jm.e : Int), .bool jm.x] 49 (0, 0))) := by
      show _ = _
      rw [← HW2.out]
      exact heap_setCell_same _ _ _ _ _ _ HH1.out
    have HOJ := Lib.hid hoj
    have her := openE_some hoj
    rw [HER.out] at her
    clear HP1 HROP hk1 HOP c0 hw1
    have kc0 : w1.cell? ⟨x, 0, none⟩ = some _ := (cell_of_row _ _ 0 _ _ _ HH1.out).trans rfl; have kf0 : w1.frozen? ⟨x, 0, none⟩ = false := frozen_of_row _ _ _ _ _ HH1.out; have kc1 : w1.cell? ⟨x, 1, none⟩ = some _ := (cell_of_row _ _ 1 _ _ _ HH1.out).trans rfl; have kf1 : w1.frozen? ⟨x, 1, none⟩ = false := frozen_of_row _ _ _ _ _ HH1.out; have kc2 : w1.cell? ⟨x, 2, none⟩ = some _ := (cell_of_row _ _ 2 _ _ _ HH1.out).trans rfl; have kf2 : w1.frozen? ⟨x, 2, none⟩ = false := frozen_of_row _ _ _ _ _ HH1.out; have kc3 : w1.cell? ⟨x, 3, none⟩ = some _ := (cell_of_row _ _ 3 _ _ _ HH1.out).trans rfl; have kf3 : w1.frozen? ⟨x, 3, none⟩ = false := frozen_of_row _ _ _ _ _ HH1.out; have kc4 : w1.cell? ⟨x, 4, none⟩ = some _ := (cell_of_row _ _ 4 _ _ _ HH1.out).trans rfl; have kf4 : w1.frozen? ⟨x, 4, none⟩ = false := frozen_of_row _ _ _ _ _ HH1.out; have kc5 : w1.cell? ⟨x, 5, none⟩ = some _ := (cell_of_row _ _ 5 _ _ _ HH1.out).trans rfl; have kf5 : w1.frozen? ⟨x, 5, none⟩ = false := frozen_of_row _ _ _ _ _ HH1.out; have kc6 : w1.cell? ⟨x, 6, none⟩ = some _ := (cell_of_row _ _ 6 _ _ _ HH1.out).trans rfl; have kf6 : w1.frozen? ⟨x, 6, none⟩ = false := frozen_of_row _ _ _ _ _ HH1.out; have kc7 : w1.cell? ⟨x, 7, none⟩ = some _ := (cell_of_row _ _ 7 _ _ _ HH1.out).trans rfl; have kf7 : w1.frozen? ⟨x, 7, none⟩ = false := frozen_of_row _ _ _ _ _ HH1.out; have kc8 : w1.cell? ⟨x, 8, none⟩ = some _ := (cell_of_row _ _ 8 _ _ _ HH1.out).trans rfl; have kf8 : w1.frozen? ⟨x, 8, none⟩ = false := frozen_of_row _ _ _ _ _ HH1.out; have kc9 : w1.cell? ⟨x, 9, none⟩ = some _ := (cell_of_row _ _ 9 _ _ _ HH1.out).trans rfl; have kf9 : w1.frozen? ⟨x, 9, none⟩ = false := frozen_of_row _ _ _ _ _ HH1.out; have kc10 : w1.cell? ⟨x, 10, none⟩ = some _ := (cell_of_row _ _ 10 _ _ _ HH1.out).trans rfl; have kf10 : w1.frozen? ⟨x, 10, none⟩ = false := frozen_of_row _ _ _ _ _ HH1.out
    go_upto_region 3 with (fail)
    rw [HW2.out]
    clear kc0 kc1 kc2 kc3 kc4 kc5 kc6 kc7 kc8 kc9 kc10 kf0 kf1 kf2 kf3 kf4 kf5 kf6 kf7 kf8 kf9 kf10 hoj
    have kc0 : w2.cell? ⟨x, 0, none⟩ = some _ := (cell_of_row _ _ 0 _ _ _ HH2.out).trans rfl; have kc1 : w2.cell? ⟨x, 1, none⟩ = some _ := (cell_of_row _ _ 1 _ _ _ HH2.out).trans rfl; have kc2 : w2.cell? ⟨x, 2, none⟩ = some _ := (cell_of_row _ _ 2 _ _ _ HH2.out).trans rfl; have kc3 : w2.cell? ⟨x, 3, none⟩ = some _ := (cell_of_row _ _ 3 _ _ _ HH2.out).trans rfl; have kc4 : w2.cell? ⟨x, 4, none⟩ = some _ := (cell_of_row _ _ 4 _ _ _ HH2.out).trans rfl; have kc5 : w2.cell? ⟨x, 5, none⟩ = some _ := (cell_of_row _ _ 5 _ _ _ HH2.out).trans rfl; have kc6 : w2.cell? ⟨x, 6, none⟩ = some _ := (cell_of_row _ _ 6 _ _ _ HH2.out).trans rfl; have kc7 : w2.cell? ⟨x, 7, none⟩ = some _ := (cell_of_row _ _ 7 _ _ _ HH2.out).trans rfl; have kc8 : w2.cell? ⟨x, 8, none⟩ = some _ := (cell_of_row _ _ 8 _ _ _ HH2.out).trans rfl; have kc9 : w2.cell? ⟨x, 9, none⟩ = some _ := (cell_of_row _ _ 9 _ _ _ HH2.out).trans rfl; have kc10 : w2.cell? ⟨x, 10, none⟩ = some _ := (cell_of_row _ _ 10 _ _ _ HH2.out).trans rfl
    go_wp2_with fail
    (with_reducible refine HRO.out.mono ?_)
    rintro e w3 ⟨v, N3, he, ⟨A3, ca3, X3, cx3, P3, sa3, sc3, ra3, rc3, ms3, rfl, hm3⟩, hb3, hn3⟩
    rw [HER.out, HOJ.out] at he
    rw [HOJ.out] at hm3
    rw [show Option.getD ((some j) : Option Jr) j0 = j from rfl] at hm3
    unfold jval at he
    have HM3 := Lib.hid (HP2.out.setm hb3 hm3 hn3 rfl rfl rfl rfl rfl rfl rfl rfl rfl)
    have HH3 := Lib.hid ((hb3.block _ HP2.out.lt).trans HH2.out)
    clear hm3 hb3 hn3 HRO kc0 kc1 kc2 kc3 kc4 kc5 kc6 kc7 kc8 kc9 kc10
    rw [show Option.getD ((some j) : Option Jr) j0 = j from rfl] at he
    obtain ⟨D3, HD3⟩ : ∃ y, Hid (openD D = y) := ⟨_, rfl⟩
    rw [HD3.out] at he HM3 HP2
    obtain ⟨NL3, HNL3⟩ : ∃ y, Hid (64 * D3.n = y) := ⟨_, rfl⟩
    obtain ⟨pl3, HPL3⟩ : ∃ y, Hid (P3.length = y) := ⟨_, rfl⟩
    obtain ⟨ml3, HML3⟩ : ∃ y, Hid (ms3.length = y) := ⟨_, rfl⟩
    obtain ⟨sl3, HSL3⟩ : ∃ y, Hid (j.s.length = y) := ⟨_, rfl⟩
    rw [HNL3.out, HPL3.out, HML3.out, HSL3.out] at he HM3
    subst he
    subst her
    have kc0 : w3.cell? ⟨x, 0, none⟩ = some _ := (cell_of_row _ _ 0 _ _ _ HH3.out).trans rfl; have kf0 : w3.frozen? ⟨x, 0, none⟩ = false := frozen_of_row _ _ _ _ _ HH3.out; have kc1 : w3.cell? ⟨x, 1, none⟩ = some _ := (cell_of_row _ _ 1 _ _ _ HH3.out).trans rfl; have kf1 : w3.frozen? ⟨x, 1, none⟩ = false := frozen_of_row _ _ _ _ _ HH3.out; have kc2 : w3.cell? ⟨x, 2, none⟩ = some _ := (cell_of_row _ _ 2 _ _ _ HH3.out).trans rfl; have kf2 : w3.frozen? ⟨x, 2, none⟩ = false := frozen_of_row _ _ _ _ _ HH3.out; have kc3 : w3.cell? ⟨x, 3, none⟩ = some _ := (cell_of_row _ _ 3 _ _ _ HH3.out).trans rfl; have kf3 : w3.frozen? ⟨x, 3, none⟩ = false := frozen_of_row _ _ _ _ _ HH3.out; have kc4 : w3.cell? ⟨x, 4, none⟩ = some _ := (cell_of_row _ _ 4 _ _ _ HH3.out).trans rfl; have kf4 : w3.frozen? ⟨x, 4, none⟩ = false := frozen_of_row _ _ _ _ _ HH3.out; have kc5 : w3.cell? ⟨x, 5, none⟩ = some _ := (cell_of_row _ _ 5 _ _ _ HH3.out).trans rfl; have kf5 : w3.frozen? ⟨x, 5, none⟩ = false := frozen_of_row _ _ _ _ _ HH3.out; have kc6 : w3.cell? ⟨x, 6, none⟩ = some _ := (cell_of_row _ _ 6 _ _ _ HH3.out).trans rfl; have kf6 : w3.frozen? ⟨x, 6, none⟩ = false := frozen_of_row _ _ _ _ _ HH3.out; have kc7 : w3.cell? ⟨x, 7, none⟩ = some _ := (cell_of_row _ _ 7 _ _ _ HH3.out).trans rfl; have kf7 : w3.frozen? ⟨x, 7, none⟩ = false := frozen_of_row _ _ _ _ _ HH3.out; have kc8 : w3.cell? ⟨x, 8, none⟩ = some _ := (cell_of_row _ _ 8 _ _ _ HH3.out).trans rfl; have kf8 : w3.frozen? ⟨x, 8, none⟩ = false := frozen_of_row _ _ _ _ _ HH3.out; have kc9 : w3.cell? ⟨x, 9, none⟩ = some _ := (cell_of_row _ _ 9 _ _ _ HH3.out).trans rfl; have kf9 : w3.frozen? ⟨x, 9, none⟩ = false := frozen_of_row _ _ _ _ _ HH3.out; have kc10 : w3.cell? ⟨x, 10, none⟩ = some _ := (cell_of_row _ _ 10 _ _ _ HH3.out).trans rfl; have kf10 : w3.frozen? ⟨x, 10, none⟩ = false := frozen_of_row _ _ _ _ _ HH3.out
    go_upto_region 4 with (fail)
    have HF : Hid (Bo w0 F x (openD D) (openJ D) ((openJ D).getD j0) ((((((((((w3.setCell ⟨x, 2, none⟩ (.slice A3 NL3 ca3)).setCell ⟨x, 3, none⟩ (.slice X3 pl3 cx3)).setCell ⟨x, 4, none⟩ (.bool D3.x)).setCell ⟨x, 5, none⟩ (.int .i64 D3.f)).setCell ⟨x, 6, none⟩ (.int .i64 (j.t : Int))).setCell ⟨x, 7, none⟩ (.slice sa3 sl3 sc3)).setCell ⟨x, 8, none⟩ (.slice ra3 ml3 rc3)).setCell ⟨x, 9, none⟩ (.int .i64 (j.e : Int))).setCell ⟨x, 10, none⟩ (.bool j.x))) ∧ Kept F w ((((((((((w3.setCell ⟨x, 2, none⟩ (.slice A3 NL3 ca3)).setCell ⟨x, 3, none⟩ (.slice X3 pl3 cx3)).setCell ⟨x, 4, none⟩ (.bool D3.x)).setCell ⟨x, 5, none⟩ (.int .i64 D3.f)).setCell ⟨x, 6, none⟩ (.int .i64 (j.t : Int))).setCell ⟨x, 7, none⟩ (.slice sa3 sl3 sc3)).setCell ⟨x, 8, none⟩ (.slice ra3 ml3 rc3)).setCell ⟨x, 9, none⟩ (.int .i64 (j.e : Int))).setCell ⟨x, 10, none⟩ (.bool j.x)))) := by
      refine ⟨?_, HK2.out.trans HM3.out.2⟩
      rw [HOJ.out, HD3.out]
      rw [show Option.getD (some j) j0 = j from rfl]
      exact ⟨_, _, _, _, _, _, _, _, _, _, _, _, _, HM3.out.1⟩
    have HH4 : Hid (((((((((((w3.setCell ⟨x, 2, none⟩ (.slice A3 NL3 ca3)).setCell ⟨x, 3, none⟩ (.slice X3 pl3 cx3)).setCell ⟨x, 4, none⟩ (.bool D3.x)).setCell ⟨x, 5, none⟩ (.int .i64 D3.f)).setCell ⟨x, 6, none⟩ (.int .i64 (j.t : Int))).setCell ⟨x, 7, none⟩ (.slice sa3 sl3 sc3)).setCell ⟨x, 8, none⟩ (.slice ra3 ml3 rc3)).setCell ⟨x, 9, none⟩ (.int .i64 (j.e : Int))).setCell ⟨x, 10, none⟩ (.bool j.x))).heap[x]? = _) := heap_setM HH3.out _ _ _ _ _ _ _ _ _
    clear kc0 kc1 kc2 kc3 kc4 kc5 kc6 kc7 kc8 kc9 kc10 kf0 kf1 kf2 kf3 kf4 kf5 kf6 kf7 kf8 kf9 kf10
    generalize ((((((((((w3.setCell ⟨x, 2, none⟩ (.slice A3 NL3 ca3)).setCell ⟨x, 3, none⟩ (.slice X3 pl3 cx3)).setCell ⟨x, 4, none⟩ (.bool D3.x)).setCell ⟨x, 5, none⟩ (.int .i64 D3.f)).setCell ⟨x, 6, none⟩ (.int .i64 (j.t : Int))).setCell ⟨x, 7, none⟩ (.slice sa3 sl3 sc3)).setCell ⟨x, 8, none⟩ (.slice ra3 ml3 rc3)).setCell ⟨x, 9, none⟩ (.int .i64 (j.e : Int))).setCell ⟨x, 10, none⟩ (.bool j.x))) = w4 at *
    have k1 : w4.cell? ⟨x, 1, none⟩ = some (.pointer (some ⟨gj, 0, none⟩)) := (cell_of_row _ _ 1 _ _ _ HH4.out).trans rfl
    go_wp2_with fail
    go_ret
    exact ⟨rfl, HF.out⟩
end Jn
end Go.Proofs.Ytmdpmpfjldgalaa

/- The walk of the law's do: Append and Checkpoint. -/
namespace Go.Proofs.Ytmdpmpfjldgalaa
open Go.RowKit
namespace Jn
open Dk Wi Wr

section
variable {w0 w w' : World} {F F' : List Nat} {g q x : Nat} {D Dm : St} {j jm : Jr} {o : Option Jr}
theorem Bo2.sub (h : Bo2 w0 F x D Dm o jm w) (hs : ∀ y ∈ F', y ∈ F) : Bo2 w0 F' x D Dm o jm w := h.grow (Below.refl _ _) (fun y hy => .inl (hs y hy))
end
/-- an operation's cells -/
def opval (kd : UInt8) (B : Option Addr) (dn dc : Nat) (nn : Int) (Z : Option Addr) (zn zc : Nat) : Value := .agg #[vb kd, .slice B dn dc, .int .i64 nn, .slice Z zn zc]
def doD (D : St) (o : Option Jr) (k : Nat) (d : List UInt8) (n : Int) (sv : List Int) : St :=
  if k = 0 then (match o with | none => D | some j => appD D j d) else if k = 1 then (match o with | none => D | some j => chkD D j d) else if k = 2 then openD D else if k = 3 then failD D n else openD (crashD D sv)
def doO (D : St) (o : Option Jr) (k : Nat) (d : List UInt8) (sv : List Int) : Option Jr :=
  if k = 0 then (match o with | none => none | some j => some (appJ D j d)) else if k = 1 then (match o with | none => none | some j => some (chkJ D j d)) else if k = 2 then openJ D else if k = 3 then o else openJ (crashD D sv)
def doM (D : St) (o : Option Jr) (jm : Jr) (k : Nat) (d : List UInt8) (sv : List Int) : Jr :=
  if k = 0 then (match o with | none => jm | some j => appJ D j d) else if k = 1 then (match o with | none => jm | some j => chkJ D j d) else if k = 2 then (openJ D).getD j0 else if k = 3 then jm else (openJ (crashD D sv)).getD j0
/-- what do leaves -/
def DoP (w0 : World) (F : List Nat) (x : Nat) (D' : St) (o' : Option Jr) (jm' : Jr) (w : World) (e : Ending) (w' : World) : Prop := e = .returned (.bool true) ∧ Bo w0 F x D' o' jm' w' ∧ Kept F w w'

theorem appD_n (D : St) (j : Jr) (r : List UInt8) : (appD D j r).n = D.n := by
  unfold appD; repeat' split
  · rfl
  · rfl
  · exact wrJ_n _ _ _ _
set_option maxRecDepth 100000 in
set_option maxHeartbeats 4000000 in
theorem do0_calls (w0 w : World) (F : List Nat) (x : Nat) (D : St) (j : Jr) (kd : UInt8) (B : Option Addr) (dn dc : Nat) (nn : Int) (Z : Option Addr) (zn zc : Nat) (d : List UInt8) (h : Bo w0 F x D (some j) j w) (hk : kd.toNat % 5 = 0) (hdn : d.length = dn) (hdm : dn ≤ 500000) (hda : ∀ u, Below w0.heap.size w0 u → RB u B d) (hD : D.n ≤ 100) (hc : Calm D) :
    Calls Try.prog 13 #[.pointer (some ⟨x, 0, none⟩), opval kd B dn dc nn Z zn zc] w (DoP w0 F x (appD D j d) (some (appJ D j d)) (appJ D j d) w) := by
  unfold opval
  obtain ⟨g, p, N, A, ca, X, cx, P, sa, sc, ra, rc, ms, h⟩ := h
  have hb1 := below1 w (.cells #[vb kd, .slice B dn dc, .int .i64 nn, .slice Z zn zc] 32)
  have hk1 := heap_alloc_new w (.cells #[vb kd, .slice B dn dc, .int .i64 nn, .slice Z zn zc] 32)
  obtain ⟨w1, HW1⟩ : ∃ y, Hid (w.alloc (.cells #[vb kd, .slice B dn dc, .int .i64 nn, .slice Z zn zc] 32) = y) := ⟨_, rfl⟩
  rw [HW1.out] at hb1 hk1
  have HBX := Lib.hid hk1
  have HBW := Lib.hid hb1
  have hs1 : w.heap.size < w1.heap.size := (Array.getElem?_eq_some_iff.1 hk1).1
  have HLF : Hid (∀ y ∈ F, y < w.heap.size) := fun y hy => h.dj.own.lt y (by simp [hy])
  have HB1 := Lib.hid (h.grow (F' := w.heap.size :: F) hb1 (fun y hy => by
    simp only [List.mem_cons] at hy
    rcases hy with rfl | hy
    · exact .inr ⟨Nat.le_refl _, hs1⟩
    · exact .inl hy))
  have hxb : x < w.heap.size := h.lt
  have HKF : Hid (Kept F w w1) := Kept.of_below HLF.out hb1
  have HHX := Lib.hid HB1.out.hd
  unfold bocells at HHX
  clear h hb1 hk1
  have e5 : ((kd.toNat : Int) % 5) = 0 := by omega
  obtain ⟨q, HQQ, HJO⟩ : ∃ q, p = some q ∧ Hid (JO w0 (x :: (N ++ (w.heap.size :: F))) g q D j w1) := by
    rcases HB1.out.dj with ⟨h1, _⟩ | ⟨j', q, h1, h2, h3⟩
    · cases h1
    · injection h1 with h1; subst h1; exact ⟨q, h2, h3⟩
  subst HQQ
  have HOK : Hid (j.ok (half D)) := by obtain ⟨_, _, _, hi, _⟩ := HJO.out; exact hi.ok
  have hdr := Go.Proofs.Ytmdpmpfjldgalaa.below_drew w1
  have HAC := Lib.hid (append_calls w0 w1.drew (x :: (N ++ (w.heap.size :: F))) g q D j B dn dc d (HJO.out.below hdr) hdn hdm (fun w' _ hb => hda w' hb) hD hc)
  have HDN := Lib.hid hdn
  have HDA := Lib.hid hda
  have HC := Lib.hid hc
  have y0 : w1.cell? ⟨w.heap.size, 0, none⟩ = some (vb kd) := (cell_of_row _ _ 0 _ _ _ HBX.out).trans rfl
  have x1 : w1.cell? ⟨x, 1, none⟩ = some (.pointer (some ⟨q, 0, none⟩)) := (cell_of_row _ _ 1 _ _ _ HHX.out).trans rfl
  have hxw1 : x < w1.heap.size := Nat.lt_trans hxb hs1
  have z1 : ∀ u, Kept [x, w.heap.size] w1 u → u.cell? ⟨x, 1, none⟩ = some (.pointer (some ⟨q, 0, none⟩)) := fun u hu => (World.cell?_of_block (a := ⟨x, 1, none⟩) (hu x (by simp))).trans x1
  have z2 : ∀ u, Kept [x, w.heap.size] w1 u → u.cell? ⟨w.heap.size, 1, none⟩ = some (.slice B dn dc) := fun u hu => (World.cell?_of_block (a := ⟨w.heap.size, 1, none⟩) (hu _ (by simp))).trans ((cell_of_row _ _ 1 _ _ _ HBX.out).trans rfl)
  have hkd : Kept [x, w.heap.size] w1 w1.drew := Kept.of_below (by intro y hy; simp only [List.mem_cons, List.not_mem_nil, or_false] at hy; rcases hy with rfl | rfl <;> assumption) hdr
  clear hk hdn hda hc
  unfold vb at HW1 y0 ⊢
  go_enter Try.func13, Try.ntmps13
  go_upto_region 1 with (fail)
  rw [HW1.out]
  go_upto_region 5 with (fail)
  go_region_held3 (fun w' => Kept [x, w.heap.size] w1 w') (first | exact hkd | assumption) ((go_at_call 28; (with_reducible refine HAC.out.mono ?_); rintro e w2 ⟨rfl, hjo, hk2⟩; have hs2 : Kept [x, w.heap.size] w1 w2 := hkd.trans (hk2.sub (fun y hy => by simp only [List.mem_cons, List.not_mem_nil, or_false] at hy; rcases hy with rfl | rfl <;> simp)); have HJ2 := Lib.hid hjo; have HK2 := Lib.hid hk2; clear hjo hk2))
  have HK12 : Hid (Kept (x :: (N ++ (w.heap.size :: F))) w1 w2) := (Kept.of_below HJO.out.own.lt hdr).trans HK2.out
  have HP2 := Lib.hid (HB1.out.disk (o' := some (appJ D j d)) HK12.out (.inr ⟨appJ D j d, q, rfl, rfl, HJ2.out⟩))
  have HKF2 : Hid (Kept F w w2) := HKF.out.trans (HK12.out.sub (fun y hy => by simp [hy]))
  have HHX2 := Lib.hid ((HK12.out x (by simp)).trans HHX.out)
  have HBX2 := Lib.hid ((HK12.out w.heap.size (by simp)).trans HBX.out)
  have hx2 := HP2.out.lt
  have hb2 : w.heap.size < w2.heap.size := (Array.getElem?_eq_some_iff.1 HBX2.out).1
  have hbd2 := Go.Proofs.Ytmdpmpfjldgalaa.below_drew w2
  have HRC := Lib.hid (rappend_calls _ N D j B dn dc d w2.drew (IsV.below ⟨_, _, _, _, _, _, _, _, _, _, rfl, ⟨HP2.out.m.k, HP2.out.m.st, HP2.out.m.rr, HP2.out.m.rs, HOK.out⟩⟩ hbd2) HDN.out hdm (HDA.out _ (HJ2.out.own.b.trans (hbd2.mono HJ2.out.own.b.size))) hD HC.out)
  unfold jval at HRC
  obtain ⟨NL, HNL⟩ : ∃ y, Hid (64 * D.n = y) := ⟨_, rfl⟩
  obtain ⟨pl, HPL⟩ : ∃ y, Hid (P.length = y) := ⟨_, rfl⟩
  obtain ⟨ml, HML⟩ : ∃ y, Hid (ms.length = y) := ⟨_, rfl⟩
  obtain ⟨sl, HSL⟩ : ∃ y, Hid (j.s.length = y) := ⟨_, rfl⟩
  rw [HNL.out, HPL.out, HML.out, HSL.out] at HRC HHX2
  have HCM : Hid (Calm (appD D j d)) := appD_calm D j d HC.out
  have HN6 : Hid ((appD D j d).n ≤ 100) := by show _ ≤ _; rw [appD_n]; exact hD
  clear z1 z2 hkd hs2 y0 x1 hdr HAC HJ2 HK2 HJO HHX HBX HB1 HDA
  obtain ⟨D6, HD6⟩ : ∃ y, Hid (appD D j d = y) := ⟨_, rfl⟩
  obtain ⟨j6, HJ6⟩ : ∃ y, Hid (appJ D j d = y) := ⟨_, rfl⟩
  obtain ⟨er, HER⟩ : ∃ y, Hid (appE D j d = y) := ⟨_, rfl⟩
  rw [HD6.out, HJ6.out] at HP2
  rw [HD6.out, HJ6.out, HER.out] at HRC
  rw [HD6.out] at HCM HN6
  rw [HER.out]
  go_upto_region 6 with (fail)
  have kc0 : w2.cell? ⟨x, 0, none⟩ = some _ := (cell_of_row _ _ 0 _ _ _ HHX2.out).trans rfl; have kc1 : w2.cell? ⟨x, 1, none⟩ = some _ := (cell_of_row _ _ 1 _ _ _ HHX2.out).trans rfl; have kc2 : w2.cell? ⟨x, 2, none⟩ = some _ := (cell_of_row _ _ 2 _ _ _ HHX2.out).trans rfl; have kc3 : w2.cell? ⟨x, 3, none⟩ = some _ := (cell_of_row _ _ 3 _ _ _ HHX2.out).trans rfl; have kc4 : w2.cell? ⟨x, 4, none⟩ = some _ := (cell_of_row _ _ 4 _ _ _ HHX2.out).trans rfl; have kc5 : w2.cell? ⟨x, 5, none⟩ = some _ := (cell_of_row _ _ 5 _ _ _ HHX2.out).trans rfl; have kc6 : w2.cell? ⟨x, 6, none⟩ = some _ := (cell_of_row _ _ 6 _ _ _ HHX2.out).trans rfl; have kc7 : w2.cell? ⟨x, 7, none⟩ = some _ := (cell_of_row _ _ 7 _ _ _ HHX2.out).trans rfl; have kc8 : w2.cell? ⟨x, 8, none⟩ = some _ := (cell_of_row _ _ 8 _ _ _ HHX2.out).trans rfl; have kc9 : w2.cell? ⟨x, 9, none⟩ = some _ := (cell_of_row _ _ 9 _ _ _ HHX2.out).trans rfl; have kc10 : w2.cell? ⟨x, 10, none⟩ = some _ := (cell_of_row _ _ 10 _ _ _ HHX2.out).trans rfl
  have kb : w2.cell? ⟨w.heap.size, 1, none⟩ = some (.slice B dn dc) := (cell_of_row _ _ 1 _ _ _ HBX2.out).trans rfl
  have dee : (er == er) = true := by simp
  go_region_law ((go_simp; go_at_call 29; (with_reducible refine HRC.out.mono ?_); rintro e w5 ⟨v6, N6, he6, ⟨A6, ca6, X6, cx6, P6, sa6, sc6, ra6, rc6, ms6, rfl, hv6⟩, hb6, hn6⟩; unfold jval at he6; have HSM := Lib.hid (HP2.out.setm (hbd2.trans (hb6.mono hbd2.size)) ⟨hv6.k, hv6.st, hv6.rr, hv6.rs⟩ (fun y hy => (hn6 y hy).imp id id) rfl rfl rfl rfl rfl rfl rfl rfl rfl); have HHX5 := Lib.hid (((hbd2.trans (hb6.mono hbd2.size)).block _ hx2).trans HHX2.out); obtain ⟨NL6, HNL6⟩ : ∃ y, Hid (64 * D6.n = y) := ⟨_, rfl⟩; obtain ⟨pl6, HPL6⟩ : ∃ y, Hid (P6.length = y) := ⟨_, rfl⟩; obtain ⟨ml6, HML6⟩ : ∃ y, Hid (ms6.length = y) := ⟨_, rfl⟩; obtain ⟨sl6, HSL6⟩ : ∃ y, Hid (j6.s.length = y) := ⟨_, rfl⟩; rw [HNL6.out, HPL6.out, HML6.out, HSL6.out] at he6 HSM; subst he6; have mc0 : w5.cell? ⟨x, 0, none⟩ = some _ := (cell_of_row _ _ 0 _ _ _ HHX5.out).trans rfl; have mf0 : w5.frozen? ⟨x, 0, none⟩ = false := frozen_of_row _ _ _ _ _ HHX5.out; have mc1 : w5.cell? ⟨x, 1, none⟩ = some _ := (cell_of_row _ _ 1 _ _ _ HHX5.out).trans rfl; have mf1 : w5.frozen? ⟨x, 1, none⟩ = false := frozen_of_row _ _ _ _ _ HHX5.out; have mc2 : w5.cell? ⟨x, 2, none⟩ = some _ := (cell_of_row _ _ 2 _ _ _ HHX5.out).trans rfl; have mf2 : w5.frozen? ⟨x, 2, none⟩ = false := frozen_of_row _ _ _ _ _ HHX5.out; have mc3 : w5.cell? ⟨x, 3, none⟩ = some _ := (cell_of_row _ _ 3 _ _ _ HHX5.out).trans rfl; have mf3 : w5.frozen? ⟨x, 3, none⟩ = false := frozen_of_row _ _ _ _ _ HHX5.out; have mc4 : w5.cell? ⟨x, 4, none⟩ = some _ := (cell_of_row _ _ 4 _ _ _ HHX5.out).trans rfl; have mf4 : w5.frozen? ⟨x, 4, none⟩ = false := frozen_of_row _ _ _ _ _ HHX5.out; have mc5 : w5.cell? ⟨x, 5, none⟩ = some _ := (cell_of_row _ _ 5 _ _ _ HHX5.out).trans rfl; have mf5 : w5.frozen? ⟨x, 5, none⟩ = false := frozen_of_row _ _ _ _ _ HHX5.out; have mc6 : w5.cell? ⟨x, 6, none⟩ = some _ := (cell_of_row _ _ 6 _ _ _ HHX5.out).trans rfl; have mf6 : w5.frozen? ⟨x, 6, none⟩ = false := frozen_of_row _ _ _ _ _ HHX5.out; have mc7 : w5.cell? ⟨x, 7, none⟩ = some _ := (cell_of_row _ _ 7 _ _ _ HHX5.out).trans rfl; have mf7 : w5.frozen? ⟨x, 7, none⟩ = false := frozen_of_row _ _ _ _ _ HHX5.out; have mc8 : w5.cell? ⟨x, 8, none⟩ = some _ := (cell_of_row _ _ 8 _ _ _ HHX5.out).trans rfl; have mf8 : w5.frozen? ⟨x, 8, none⟩ = false := frozen_of_row _ _ _ _ _ HHX5.out; have mc9 : w5.cell? ⟨x, 9, none⟩ = some _ := (cell_of_row _ _ 9 _ _ _ HHX5.out).trans rfl; have mf9 : w5.frozen? ⟨x, 9, none⟩ = false := frozen_of_row _ _ _ _ _ HHX5.out; have mc10 : w5.cell? ⟨x, 10, none⟩ = some _ := (cell_of_row _ _ 10 _ _ _ HHX5.out).trans rfl; have mf10 : w5.frozen? ⟨x, 10, none⟩ = false := frozen_of_row _ _ _ _ _ HHX5.out; clear hv6 hb6 hn6))
  all_goals
    have HF : Hid (Bo w0 (w.heap.size :: F) x D6 (some j6) j6 ((((((((((w5.setCell ⟨x, 2, none⟩ (.slice A6 NL6 ca6)).setCell ⟨x, 3, none⟩ (.slice X6 pl6 cx6)).setCell ⟨x, 4, none⟩ (.bool D6.x)).setCell ⟨x, 5, none⟩ (.int .i64 D6.f)).setCell ⟨x, 6, none⟩ (.int .i64 (j6.t : Int))).setCell ⟨x, 7, none⟩ (.slice sa6 sl6 sc6)).setCell ⟨x, 8, none⟩ (.slice ra6 ml6 rc6)).setCell ⟨x, 9, none⟩ (.int .i64 (j6.e : Int))).setCell ⟨x, 10, none⟩ (.bool j6.x))) ∧ Kept F w ((((((((((w5.setCell ⟨x, 2, none⟩ (.slice A6 NL6 ca6)).setCell ⟨x, 3, none⟩ (.slice X6 pl6 cx6)).setCell ⟨x, 4, none⟩ (.bool D6.x)).setCell ⟨x, 5, none⟩ (.int .i64 D6.f)).setCell ⟨x, 6, none⟩ (.int .i64 (j6.t : Int))).setCell ⟨x, 7, none⟩ (.slice sa6 sl6 sc6)).setCell ⟨x, 8, none⟩ (.slice ra6 ml6 rc6)).setCell ⟨x, 9, none⟩ (.int .i64 (j6.e : Int))).setCell ⟨x, 10, none⟩ (.bool j6.x)))) := ⟨⟨_, _, _, _, _, _, _, _, _, _, _, _, _, HSM.out.1⟩, HKF2.out.trans (HSM.out.2.sub (fun y hy => by simp [hy]))⟩
    clear kc0 kc1 kc2 kc3 kc4 kc5 kc6 kc7 kc8 kc9 kc10 kb
    obtain ⟨wc, HWC⟩ : ∃ y, Hid ((((((((((w5.setCell ⟨x, 2, none⟩ (.slice A6 NL6 ca6)).setCell ⟨x, 3, none⟩ (.slice X6 pl6 cx6)).setCell ⟨x, 4, none⟩ (.bool D6.x)).setCell ⟨x, 5, none⟩ (.int .i64 D6.f)).setCell ⟨x, 6, none⟩ (.int .i64 (j6.t : Int))).setCell ⟨x, 7, none⟩ (.slice sa6 sl6 sc6)).setCell ⟨x, 8, none⟩ (.slice ra6 ml6 rc6)).setCell ⟨x, 9, none⟩ (.int .i64 (j6.e : Int))).setCell ⟨x, 10, none⟩ (.bool j6.x)) = y) := ⟨_, rfl⟩
    rw [HWC.out] at HF
    have HBO := Lib.hid HF.out.1
    have HKX := Lib.hid HF.out.2
    have HSAME := Lib.hid (bsame_calls w0 wc (w.heap.size :: F) x D6 (some j6) j6 HBO.out (fun j' h => by injection h) HN6.out)
    go_upto_region 22 with (fail)
    rw [HWC.out]
    go_wp2_with fail
    (with_reducible refine HSAME.out.mono ?_)
    rintro e w7 ⟨rfl, hb7⟩
    have HG : Hid (DoP w0 F x (appD D j d) (some (appJ D j d)) (appJ D j d) w (.returned (.bool true)) w7) := by
      rw [HD6.out, HJ6.out]
      exact ⟨rfl, (Bo2.below HBO.out hb7).sub (fun y hy => by simp [hy]), HKX.out.trans (Kept.of_below (fun y hy => HBO.out.lt.2.2.2.1 y (by simp [hy])) hb7)⟩
    clear hb7
    go_wp2_with fail
    go_ret
    exact HG.out
theorem chkD_n (D : St) (j : Jr) (r : List UInt8) : (chkD D j r).n = D.n := by
  unfold chkD; repeat' split
  · rfl
  · rfl
  · exact wrJ_n _ _ _ _
set_option maxRecDepth 100000 in
set_option maxHeartbeats 4000000 in
theorem do1_calls (w0 w : World) (F : List Nat) (x : Nat) (D : St) (j : Jr) (kd : UInt8) (B : Option Addr) (dn dc : Nat) (nn : Int) (Z : Option Addr) (zn zc : Nat) (d : List UInt8) (h : Bo w0 F x D (some j) j w) (hk : kd.toNat % 5 = 1) (hdn : d.length = dn) (hdm : dn ≤ 500000) (hda : ∀ u, Below w0.heap.size w0 u → RB u B d) (hD : D.n ≤ 100) (hc : Calm D) :
    Calls Try.prog 13 #[.pointer (some ⟨x, 0, none⟩), opval kd B dn dc nn Z zn zc] w (DoP w0 F x (chkD D j d) (some (chkJ D j d)) (chkJ D j d) w) := by
  unfold opval
  obtain ⟨g, p, N, A, ca, X, cx, P, sa, sc, ra, rc, ms, h⟩ := h
  have hb1 := below1 w (.cells #[vb kd, .slice B dn dc, .int .i64 nn, .slice Z zn zc] 32)
  have hk1 := heap_alloc_new w (.cells #[vb kd, .slice B dn dc, .int .i64 nn, .slice Z zn zc] 32)
  obtain ⟨w1, HW1⟩ : ∃ y, Hid (w.alloc (.cells #[vb kd, .slice B dn dc, .int .i64 nn, .slice Z zn zc] 32) = y) := ⟨_, rfl⟩
  rw [HW1.out] at hb1 hk1
  have HBX := Lib.hid hk1
  have HBW := Lib.hid hb1
  have hs1 : w.heap.size < w1.heap.size := (Array.getElem?_eq_some_iff.1 hk1).1
  have HLF : Hid (∀ y ∈ F, y < w.heap.size) := fun y hy => h.dj.own.lt y (by simp [hy])
  have HB1 := Lib.hid (h.grow (F' := w.heap.size :: F) hb1 (fun y hy => by
    simp only [List.mem_cons] at hy
    rcases hy with rfl | hy
    · exact .inr ⟨Nat.le_refl _, hs1⟩
    · exact .inl hy))
  have hxb : x < w.heap.size := h.lt
  have HKF : Hid (Kept F w w1) := Kept.of_below HLF.out hb1
  have HHX := Lib.hid HB1.out.hd
  unfold bocells at HHX
  clear h hb1 hk1
  have e5 : ((kd.toNat : Int) % 5) = 1 := by omega
  obtain ⟨q, HQQ, HJO⟩ : ∃ q, p = some q ∧ Hid (JO w0 (x :: (N ++ (w.heap.size :: F))) g q D j w1) := by
    rcases HB1.out.dj with ⟨h1, _⟩ | ⟨j', q, h1, h2, h3⟩
    · cases h1
    · injection h1 with h1; subst h1; exact ⟨q, h2, h3⟩
  subst HQQ
  have HOK : Hid (j.ok (half D)) := by obtain ⟨_, _, _, hi, _⟩ := HJO.out; exact hi.ok
  have hdr := Go.Proofs.Ytmdpmpfjldgalaa.below_drew w1
  have HAC := Lib.hid (checkpoint_calls w0 w1.drew (x :: (N ++ (w.heap.size :: F))) g q D j B dn dc d (HJO.out.below hdr) hdn hdm (fun w' _ hb => hda w' hb) hD hc)
  have HDN := Lib.hid hdn
  have HDA := Lib.hid hda
  have HC := Lib.hid hc
  have y0 : w1.cell? ⟨w.heap.size, 0, none⟩ = some (vb kd) := (cell_of_row _ _ 0 _ _ _ HBX.out).trans rfl
  have x1 : w1.cell? ⟨x, 1, none⟩ = some (.pointer (some ⟨q, 0, none⟩)) := (cell_of_row _ _ 1 _ _ _ HHX.out).trans rfl
  have hxw1 : x < w1.heap.size := Nat.lt_trans hxb hs1
  have z1 : ∀ u, Kept [x, w.heap.size] w1 u → u.cell? ⟨x, 1, none⟩ = some (.pointer (some ⟨q, 0, none⟩)) := fun u hu => (World.cell?_of_block (a := ⟨x, 1, none⟩) (hu x (by simp))).trans x1
  have z2 : ∀ u, Kept [x, w.heap.size] w1 u → u.cell? ⟨w.heap.size, 1, none⟩ = some (.slice B dn dc) := fun u hu => (World.cell?_of_block (a := ⟨w.heap.size, 1, none⟩) (hu _ (by simp))).trans ((cell_of_row _ _ 1 _ _ _ HBX.out).trans rfl)
  have hkd : Kept [x, w.heap.size] w1 w1.drew := Kept.of_below (by intro y hy; simp only [List.mem_cons, List.not_mem_nil, or_false] at hy; rcases hy with rfl | rfl <;> assumption) hdr
  clear hk hdn hda hc
  unfold vb at HW1 y0 ⊢
  go_enter Try.func13, Try.ntmps13
  go_upto_region 1 with (fail)
  rw [HW1.out]
  go_upto_region 9 with (fail)
  go_region_held3 (fun w' => Kept [x, w.heap.size] w1 w') (first | exact hkd | assumption) ((go_at_call 30; (with_reducible refine HAC.out.mono ?_); rintro e w2 ⟨rfl, hjo, hk2⟩; have hs2 : Kept [x, w.heap.size] w1 w2 := hkd.trans (hk2.sub (fun y hy => by simp only [List.mem_cons, List.not_mem_nil, or_false] at hy; rcases hy with rfl | rfl <;> simp)); have HJ2 := Lib.hid hjo; have HK2 := Lib.hid hk2; clear hjo hk2))
  have HK12 : Hid (Kept (x :: (N ++ (w.heap.size :: F))) w1 w2) := (Kept.of_below HJO.out.own.lt hdr).trans HK2.out
  have HP2 := Lib.hid (HB1.out.disk (o' := some (chkJ D j d)) HK12.out (.inr ⟨chkJ D j d, q, rfl, rfl, HJ2.out⟩))
  have HKF2 : Hid (Kept F w w2) := HKF.out.trans (HK12.out.sub (fun y hy => by simp [hy]))
  have HHX2 := Lib.hid ((HK12.out x (by simp)).trans HHX.out)
  have HBX2 := Lib.hid ((HK12.out w.heap.size (by simp)).trans HBX.out)
  have hx2 := HP2.out.lt
  have hb2 : w.heap.size < w2.heap.size := (Array.getElem?_eq_some_iff.1 HBX2.out).1
  have hbd2 := Go.Proofs.Ytmdpmpfjldgalaa.below_drew w2
  have HRC := Lib.hid (rcheckpoint_calls _ N D j B dn dc d w2.drew (IsV.below ⟨_, _, _, _, _, _, _, _, _, _, rfl, ⟨HP2.out.m.k, HP2.out.m.st, HP2.out.m.rr, HP2.out.m.rs, HOK.out⟩⟩ hbd2) HDN.out hdm (HDA.out _ (HJ2.out.own.b.trans (hbd2.mono HJ2.out.own.b.size))) hD HC.out)
  unfold jval at HRC
  obtain ⟨NL, HNL⟩ : ∃ y, Hid (64 * D.n = y) := ⟨_, rfl⟩
  obtain ⟨pl, HPL⟩ : ∃ y, Hid (P.length = y) := ⟨_, rfl⟩
  obtain ⟨ml, HML⟩ : ∃ y, Hid (ms.length = y) := ⟨_, rfl⟩
  obtain ⟨sl, HSL⟩ : ∃ y, Hid (j.s.length = y) := ⟨_, rfl⟩
  rw [HNL.out, HPL.out, HML.out, HSL.out] at HRC HHX2
  have HCM : Hid (Calm (chkD D j d)) := chkD_calm D j d HC.out
  have HN6 : Hid ((chkD D j d).n ≤ 100) := by show _ ≤ _; rw [chkD_n]; exact hD
  clear z1 z2 hkd hs2 y0 x1 hdr HAC HJ2 HK2 HJO HHX HBX HB1 HDA
  obtain ⟨D6, HD6⟩ : ∃ y, Hid (chkD D j d = y) := ⟨_, rfl⟩
  obtain ⟨j6, HJ6⟩ : ∃ y, Hid (chkJ D j d = y) := ⟨_, rfl⟩
  obtain ⟨er, HER⟩ : ∃ y, Hid (chkE D j d = y) := ⟨_, rfl⟩
  rw [HD6.out, HJ6.out] at HP2
  rw [HD6.out, HJ6.out, HER.out] at HRC
  rw [HD6.out] at HCM HN6
  rw [HER.out]
  go_upto_region 10 with (fail)
  have kc0 : w2.cell? ⟨x, 0, none⟩ = some _ := (cell_of_row _ _ 0 _ _ _ HHX2.out).trans rfl; have kc1 : w2.cell? ⟨x, 1, none⟩ = some _ := (cell_of_row _ _ 1 _ _ _ HHX2.out).trans rfl; have kc2 : w2.cell? ⟨x, 2, none⟩ = some _ := (cell_of_row _ _ 2 _ _ _ HHX2.out).trans rfl; have kc3 : w2.cell? ⟨x, 3, none⟩ = some _ := (cell_of_row _ _ 3 _ _ _ HHX2.out).trans rfl; have kc4 : w2.cell? ⟨x, 4, none⟩ = some _ := (cell_of_row _ _ 4 _ _ _ HHX2.out).trans rfl; have kc5 : w2.cell? ⟨x, 5, none⟩ = some _ := (cell_of_row _ _ 5 _ _ _ HHX2.out).trans rfl; have kc6 : w2.cell? ⟨x, 6, none⟩ = some _ := (cell_of_row _ _ 6 _ _ _ HHX2.out).trans rfl; have kc7 : w2.cell? ⟨x, 7, none⟩ = some _ := (cell_of_row _ _ 7 _ _ _ HHX2.out).trans rfl; have kc8 : w2.cell? ⟨x, 8, none⟩ = some _ := (cell_of_row _ _ 8 _ _ _ HHX2.out).trans rfl; have kc9 : w2.cell? ⟨x, 9, none⟩ = some _ := (cell_of_row _ _ 9 _ _ _ HHX2.out).trans rfl; have kc10 : w2.cell? ⟨x, 10, none⟩ = some _ := (cell_of_row _ _ 10 _ _ _ HHX2.out).trans rfl
  have kb : w2.cell? ⟨w.heap.size, 1, none⟩ = some (.slice B dn dc) := (cell_of_row _ _ 1 _ _ _ HBX2.out).trans rfl
  have dee : (er == er) = true := by simp
  go_region_law ((go_simp; go_at_call 31; (with_reducible refine HRC.out.mono ?_); rintro e w5 ⟨v6, N6, he6, ⟨A6, ca6, X6, cx6, P6, sa6, sc6, ra6, rc6, ms6, rfl, hv6⟩, hb6, hn6⟩; unfold jval at he6; have HSM := Lib.hid (HP2.out.setm (hbd2.trans (hb6.mono hbd2.size)) ⟨hv6.k, hv6.st, hv6.rr, hv6.rs⟩ (fun y hy => (hn6 y hy).imp id id) rfl rfl rfl rfl rfl rfl rfl rfl rfl); have HHX5 := Lib.hid (((hbd2.trans (hb6.mono hbd2.size)).block _ hx2).trans HHX2.out); obtain ⟨NL6, HNL6⟩ : ∃ y, Hid (64 * D6.n = y) := ⟨_, rfl⟩; obtain ⟨pl6, HPL6⟩ : ∃ y, Hid (P6.length = y) := ⟨_, rfl⟩; obtain ⟨ml6, HML6⟩ : ∃ y, Hid (ms6.length = y) := ⟨_, rfl⟩; obtain ⟨sl6, HSL6⟩ : ∃ y, Hid (j6.s.length = y) := ⟨_, rfl⟩; rw [HNL6.out, HPL6.out, HML6.out, HSL6.out] at he6 HSM; subst he6; have mc0 : w5.cell? ⟨x, 0, none⟩ = some _ := (cell_of_row _ _ 0 _ _ _ HHX5.out).trans rfl; have mf0 : w5.frozen? ⟨x, 0, none⟩ = false := frozen_of_row _ _ _ _ _ HHX5.out; have mc1 : w5.cell? ⟨x, 1, none⟩ = some _ := (cell_of_row _ _ 1 _ _ _ HHX5.out).trans rfl; have mf1 : w5.frozen? ⟨x, 1, none⟩ = false := frozen_of_row _ _ _ _ _ HHX5.out; have mc2 : w5.cell? ⟨x, 2, none⟩ = some _ := (cell_of_row _ _ 2 _ _ _ HHX5.out).trans rfl; have mf2 : w5.frozen? ⟨x, 2, none⟩ = false := frozen_of_row _ _ _ _ _ HHX5.out; have mc3 : w5.cell? ⟨x, 3, none⟩ = some _ := (cell_of_row _ _ 3 _ _ _ HHX5.out).trans rfl; have mf3 : w5.frozen? ⟨x, 3, none⟩ = false := frozen_of_row _ _ _ _ _ HHX5.out; have mc4 : w5.cell? ⟨x, 4, none⟩ = some _ := (cell_of_row _ _ 4 _ _ _ HHX5.out).trans rfl; have mf4 : w5.frozen? ⟨x, 4, none⟩ = false := frozen_of_row _ _ _ _ _ HHX5.out; have mc5 : w5.cell? ⟨x, 5, none⟩ = some _ := (cell_of_row _ _ 5 _ _ _ HHX5.out).trans rfl; have mf5 : w5.frozen? ⟨x, 5, none⟩ = false := frozen_of_row _ _ _ _ _ HHX5.out; have mc6 : w5.cell? ⟨x, 6, none⟩ = some _ := (cell_of_row _ _ 6 _ _ _ HHX5.out).trans rfl; have mf6 : w5.frozen? ⟨x, 6, none⟩ = false := frozen_of_row _ _ _ _ _ HHX5.out; have mc7 : w5.cell? ⟨x, 7, none⟩ = some _ := (cell_of_row _ _ 7 _ _ _ HHX5.out).trans rfl; have mf7 : w5.frozen? ⟨x, 7, none⟩ = false := frozen_of_row _ _ _ _ _ HHX5.out; have mc8 : w5.cell? ⟨x, 8, none⟩ = some _ := (cell_of_row _ _ 8 _ _ _ HHX5.out).trans rfl; have mf8 : w5.frozen? ⟨x, 8, none⟩ = false := frozen_of_row _ _ _ _ _ HHX5.out; have mc9 : w5.cell? ⟨x, 9, none⟩ = some _ := (cell_of_row _ _ 9 _ _ _ HHX5.out).trans rfl; have mf9 : w5.frozen? ⟨x, 9, none⟩ = false := frozen_of_row _ _ _ _ _ HHX5.out; have mc10 : w5.cell? ⟨x, 10, none⟩ = some _ := (cell_of_row _ _ 10 _ _ _ HHX5.out).trans rfl; have mf10 : w5.frozen? ⟨x, 10, none⟩ = false := frozen_of_row _ _ _ _ _ HHX5.out; clear hv6 hb6 hn6))
  all_goals
    have HF : Hid (Bo w0 (w.heap.size :: F) x D6 (some j6) j6 ((((((((((w5.setCell ⟨x, 2, none⟩ (.slice A6 NL6 ca6)).setCell ⟨x, 3, none⟩ (.slice X6 pl6 cx6)).setCell ⟨x, 4, none⟩ (.bool D6.x)).setCell ⟨x, 5, none⟩ (.int .i64 D6.f)).setCell ⟨x, 6, none⟩ (.int .i64 (j6.t : Int))).setCell ⟨x, 7, none⟩ (.slice sa6 sl6 sc6)).setCell ⟨x, 8, none⟩ (.slice ra6 ml6 rc6)).setCell ⟨x, 9, none⟩ (.int .i64 (j6.e : Int))).setCell ⟨x, 10, none⟩ (.bool j6.x))) ∧ Kept F w ((((((((((w5.setCell ⟨x, 2, none⟩ (.slice A6 NL6 ca6)).setCell ⟨x, 3, none⟩ (.slice X6 pl6 cx6)).setCell ⟨x, 4, none⟩ (.bool D6.x)).setCell ⟨x, 5, none⟩ (.int .i64 D6.f)).setCell ⟨x, 6, none⟩ (.int .i64 (j6.t : Int))).setCell ⟨x, 7, none⟩ (.slice sa6 sl6 sc6)).setCell ⟨x, 8, none⟩ (.slice ra6 ml6 rc6)).setCell ⟨x, 9, none⟩ (.int .i64 (j6.e : Int))).setCell ⟨x, 10, none⟩ (.bool j6.x)))) := ⟨⟨_, _, _, _, _, _, _, _, _, _, _, _, _, HSM.out.1⟩, HKF2.out.trans (HSM.out.2.sub (fun y hy => by simp [hy]))⟩
    clear kc0 kc1 kc2 kc3 kc4 kc5 kc6 kc7 kc8 kc9 kc10 kb
    obtain ⟨wc, HWC⟩ : ∃ y, Hid ((((((((((w5.setCell ⟨x, 2, none⟩ (.slice A6 NL6 ca6)).setCell ⟨x, 3, none⟩ (.slice X6 pl6 cx6)).setCell ⟨x, 4, none⟩ (.bool D6.x)).setCell ⟨x, 5, none⟩ (.int .i64 D6.f)).setCell ⟨x, 6, none⟩ (.int .i64 (j6.t : Int))).setCell ⟨x, 7, none⟩ (.slice sa6 sl6 sc6)).setCell ⟨x, 8, none⟩ (.slice ra6 ml6 rc6)).setCell ⟨x, 9, none⟩ (.int .i64 (j6.e : Int))).setCell ⟨x, 10, none⟩ (.bool j6.x)) = y) := ⟨_, rfl⟩
    rw [HWC.out] at HF
    have HBO := Lib.hid HF.out.1
    have HKX := Lib.hid HF.out.2
    have HSAME := Lib.hid (bsame_calls w0 wc (w.heap.size :: F) x D6 (some j6) j6 HBO.out (fun j' h => by injection h) HN6.out)
    go_upto_region 22 with (fail)
    rw [HWC.out]
    go_wp2_with fail
    (with_reducible refine HSAME.out.mono ?_)
    rintro e w7 ⟨rfl, hb7⟩
    have HG : Hid (DoP w0 F x (chkD D j d) (some (chkJ D j d)) (chkJ D j d) w (.returned (.bool true)) w7) := by
      rw [HD6.out, HJ6.out]
      exact ⟨rfl, (Bo2.below HBO.out hb7).sub (fun y hy => by simp [hy]), HKX.out.trans (Kept.of_below (fun y hy => HBO.out.lt.2.2.2.1 y (by simp [hy])) hb7)⟩
    clear hb7
    go_wp2_with fail
    go_ret
    exact HG.out
end Jn
end Go.Proofs.Ytmdpmpfjldgalaa

/- The walk of the law's do: the other kinds. -/
namespace Go.Proofs.Ytmdpmpfjldgalaa
open Go.RowKit
namespace Jn
open Dk Wi Wr

theorem openD_n (D : St) : (openD D).n = D.n := by
  unfold openD; repeat' split
  · rfl
  · rfl
  · rfl
  · exact wrJ_n _ _ _ _
theorem calm_fail {D : St} (h : Calm D) (n : Int) (hn : n ≤ 9223372036854775807) : Calm (failD D n) := ⟨failD_ok D n h.ok hn, h.p, h.l⟩
theorem calm_crash {D : St} (h : Calm D) (sv : List Int) : Calm (crashD D sv) := ⟨crashD_ok D sv h.ok, fun _ => rfl, by show ([] : List Pc).length ≤ 1; simp⟩
set_option maxRecDepth 100000 in
set_option maxHeartbeats 4000000 in
theorem donone_calls (w0 w : World) (F : List Nat) (x : Nat) (D : St) (o : Option Jr) (jm : Jr) (kd : UInt8) (B : Option Addr) (dn dc : Nat) (nn : Int) (Z : Option Addr) (zn zc : Nat) (h : Bo w0 F x D o jm w) (hag : ∀ j, o = some j → jm = j) (hk : kd.toNat % 5 = 0 ∨ kd.toNat % 5 = 1) (ho : o = none) (hD : D.n ≤ 100) (_hc : Calm D) :
    Calls Try.prog 13 #[.pointer (some ⟨x, 0, none⟩), opval kd B dn dc nn Z zn zc] w (DoP w0 F x (D) (none) (jm) w) := by
  unfold opval
  subst ho
  obtain ⟨g, p, N, A, ca, X, cx, P, sa, sc, ra, rc, ms, h⟩ := h
  have hb1 := below1 w (.cells #[vb kd, .slice B dn dc, .int .i64 nn, .slice Z zn zc] 32)
  have hk1 := heap_alloc_new w (.cells #[vb kd, .slice B dn dc, .int .i64 nn, .slice Z zn zc] 32)
  obtain ⟨w1, HW1⟩ : ∃ y, Hid (w.alloc (.cells #[vb kd, .slice B dn dc, .int .i64 nn, .slice Z zn zc] 32) = y) := ⟨_, rfl⟩
  rw [HW1.out] at hb1 hk1
  have HBX := Lib.hid hk1
  have HBW := Lib.hid hb1
  have hs1 : w.heap.size < w1.heap.size := (Array.getElem?_eq_some_iff.1 hk1).1
  have HLF : Hid (∀ y ∈ F, y < w.heap.size) := fun y hy => h.dj.own.lt y (by simp [hy])
  have HB1 := Lib.hid (h.grow (F' := w.heap.size :: F) hb1 (fun y hy => by
    simp only [List.mem_cons] at hy
    rcases hy with rfl | hy
    · exact .inr ⟨Nat.le_refl _, hs1⟩
    · exact .inl hy))
  have hxb : x < w.heap.size := h.lt
  have HKF : Hid (Kept F w w1) := Kept.of_below HLF.out hb1
  have HHX := Lib.hid HB1.out.hd
  unfold bocells at HHX
  clear h hb1 hk1
  obtain ⟨HQQ, HO⟩ : p = none ∧ Hid (OwnF w0 (x :: (N ++ (w.heap.size :: F))) g D w1) := by
    rcases HB1.out.dj with ⟨_, h2, h3⟩ | ⟨j', q, h1, h2, h3⟩
    · exact ⟨h2, h3⟩
    · cases h1
  subst HQQ
  have x1 : w1.cell? ⟨x, 1, none⟩ = some (.pointer none) := (cell_of_row _ _ 1 _ _ _ HHX.out).trans rfl
  have y0 : w1.cell? ⟨w.heap.size, 0, none⟩ = some (vb kd) := (cell_of_row _ _ 0 _ _ _ HBX.out).trans rfl
  have HBO : Hid (Bo w0 (w.heap.size :: F) x D none jm w1) := ⟨_, _, _, _, _, _, _, _, _, _, _, _, _, HB1.out⟩
  have HSAME := Lib.hid (bsame_calls w0 w1 (w.heap.size :: F) x D none jm HBO.out (fun j h => by cases h) hD)
  have HEND : Hid (∀ w7, Below w1.heap.size w1 w7 → DoP w0 F x D none jm w (.returned (.bool true)) w7) := fun w7 hb7 =>
    ⟨rfl, (Bo2.below HBO.out hb7).sub (fun y hy => by simp [hy]), HKF.out.trans (Kept.of_below (fun y hy => HBO.out.lt.2.2.2.1 y (by simp [hy])) hb7)⟩
  clear hag HB1 HHX HO HBX
  unfold vb at HW1 y0 ⊢
  rcases hk with hk | hk
  · have e5 : ((kd.toNat : Int) % 5) = 0 := by omega
    clear hk
    go_enter Try.func13, Try.ntmps13
    go_upto_region 1 with (fail)
    rw [HW1.out]
    go_wp2_with fail
    (with_reducible refine HSAME.out.mono ?_)
    rintro e w7 ⟨rfl, hb7⟩
    have HG := Lib.hid (HEND.out w7 hb7)
    clear hb7
    go_wp2_with fail
    go_ret
    exact HG.out
  · have e5 : ((kd.toNat : Int) % 5) = 1 := by omega
    clear hk
    go_enter Try.func13, Try.ntmps13
    go_upto_region 1 with (fail)
    rw [HW1.out]
    go_wp2_with fail
    (with_reducible refine HSAME.out.mono ?_)
    rintro e w7 ⟨rfl, hb7⟩
    have HG := Lib.hid (HEND.out w7 hb7)
    clear hb7
    go_wp2_with fail
    go_ret
    exact HG.out
set_option maxRecDepth 100000 in
set_option maxHeartbeats 4000000 in
theorem doopen_calls (w0 w : World) (F : List Nat) (x : Nat) (D : St) (o : Option Jr) (jm : Jr) (kd : UInt8) (B : Option Addr) (dn dc : Nat) (nn : Int) (Z : Option Addr) (zn zc : Nat) (h : Bo w0 F x D o jm w) (_hag : ∀ j, o = some j → jm = j) (hk : kd.toNat % 5 = 2) (hD : D.n ≤ 100) (hc : Calm D) :
    Calls Try.prog 13 #[.pointer (some ⟨x, 0, none⟩), opval kd B dn dc nn Z zn zc] w (DoP w0 F x (openD D) (openJ D) ((openJ D).getD j0) w) := by
  unfold opval
  obtain ⟨g, p, N, A, ca, X, cx, P, sa, sc, ra, rc, ms, h⟩ := h
  have hb1 := below1 w (.cells #[vb kd, .slice B dn dc, .int .i64 nn, .slice Z zn zc] 32)
  have hk1 := heap_alloc_new w (.cells #[vb kd, .slice B dn dc, .int .i64 nn, .slice Z zn zc] 32)
  obtain ⟨w1, HW1⟩ : ∃ y, Hid (w.alloc (.cells #[vb kd, .slice B dn dc, .int .i64 nn, .slice Z zn zc] 32) = y) := ⟨_, rfl⟩
  rw [HW1.out] at hb1 hk1
  have HBX := Lib.hid hk1
  have HBW := Lib.hid hb1
  have hs1 : w.heap.size < w1.heap.size := (Array.getElem?_eq_some_iff.1 hk1).1
  have HLF : Hid (∀ y ∈ F, y < w.heap.size) := fun y hy => h.dj.own.lt y (by simp [hy])
  have HB1 := Lib.hid (h.grow (F' := w.heap.size :: F) hb1 (fun y hy => by
    simp only [List.mem_cons] at hy
    rcases hy with rfl | hy
    · exact .inr ⟨Nat.le_refl _, hs1⟩
    · exact .inl hy))
  have hxb : x < w.heap.size := h.lt
  have HKF : Hid (Kept F w w1) := Kept.of_below HLF.out hb1
  have HHX := Lib.hid HB1.out.hd
  unfold bocells at HHX
  clear h hb1 hk1
  have e5 : ((kd.toNat : Int) % 5) = 2 := by omega
  have HBO : Hid (Bo w0 (w.heap.size :: F) x D o jm w1) := ⟨_, _, _, _, _, _, _, _, _, _, _, _, _, HB1.out⟩
  have HOPN := Lib.hid (bopen_calls w0 w1 (w.heap.size :: F) x D o jm HBO.out hc hD)
  have HN6 : Hid ((openD D).n ≤ 100) := by show _ ≤ _; rw [openD_n]; exact hD
  have y0 : w1.cell? ⟨w.heap.size, 0, none⟩ = some (vb kd) := (cell_of_row _ _ 0 _ _ _ HBX.out).trans rfl
  clear hc hk HB1 HHX HBX HBO
  unfold vb at HW1 y0 ⊢
  go_enter Try.func13, Try.ntmps13
  go_upto_region 1 with (fail)
  rw [HW1.out]
  go_wp2_with fail
  (with_reducible refine HOPN.out.mono ?_)
  rintro e w2 ⟨rfl, hbo, hk2⟩
  have HBO := Lib.hid hbo
  have HK2 := Lib.hid (HKF.out.trans (hk2.sub (F' := F) (fun y hy => by simp [hy])))
  have HSAME := Lib.hid (bsame_calls w0 w2 (w.heap.size :: F) x (openD D) (openJ D) ((openJ D).getD j0) HBO.out (fun j h => by rw [h]; rfl) HN6.out)
  have HEND : Hid (∀ w7, Below w2.heap.size w2 w7 → DoP w0 F x (openD D) (openJ D) ((openJ D).getD j0) w (.returned (.bool true)) w7) := fun w7 hb7 =>
    ⟨rfl, (Bo2.below HBO.out hb7).sub (fun y hy => by simp [hy]), HK2.out.trans (Kept.of_below (fun y hy => HBO.out.lt.2.2.2.1 y (by simp [hy])) hb7)⟩
  clear hbo hk2 HOPN y0
  go_wp2_with fail
  (with_reducible refine HSAME.out.mono ?_)
  rintro e w7 ⟨rfl, hb7⟩
  have HG := Lib.hid (HEND.out w7 hb7)
  clear hb7
  go_wp2_with fail
  go_ret
  exact HG.out
set_option maxRecDepth 100000 in
set_option maxHeartbeats 4000000 in
theorem dofail_calls (w0 w : World) (F : List Nat) (x : Nat) (D : St) (o : Option Jr) (jm : Jr) (kd : UInt8) (B : Option Addr) (dn dc : Nat) (nn : Int) (Z : Option Addr) (zn zc : Nat) (h : Bo w0 F x D o jm w) (hag : ∀ j, o = some j → jm = j) (hk : kd.toNat % 5 = 3) (_hn1 : -9223372036854775808 ≤ nn) (hn2 : nn ≤ 9223372036854775807) (hD : D.n ≤ 100) (hc : Calm D) :
    Calls Try.prog 13 #[.pointer (some ⟨x, 0, none⟩), opval kd B dn dc nn Z zn zc] w (DoP w0 F x (failD D nn) (o) (jm) w) := by
  unfold opval
  obtain ⟨g, p, N, A, ca, X, cx, P, sa, sc, ra, rc, ms, h⟩ := h
  have hb1 := below1 w (.cells #[vb kd, .slice B dn dc, .int .i64 nn, .slice Z zn zc] 32)
  have hk1 := heap_alloc_new w (.cells #[vb kd, .slice B dn dc, .int .i64 nn, .slice Z zn zc] 32)
  obtain ⟨w1, HW1⟩ : ∃ y, Hid (w.alloc (.cells #[vb kd, .slice B dn dc, .int .i64 nn, .slice Z zn zc] 32) = y) := ⟨_, rfl⟩
  rw [HW1.out] at hb1 hk1
  have HBX := Lib.hid hk1
  have HBW := Lib.hid hb1
  have hs1 : w.heap.size < w1.heap.size := (Array.getElem?_eq_some_iff.1 hk1).1
  have HLF : Hid (∀ y ∈ F, y < w.heap.size) := fun y hy => h.dj.own.lt y (by simp [hy])
  have HB1 := Lib.hid (h.grow (F' := w.heap.size :: F) hb1 (fun y hy => by
    simp only [List.mem_cons] at hy
    rcases hy with rfl | hy
    · exact .inr ⟨Nat.le_refl _, hs1⟩
    · exact .inl hy))
  have hxb : x < w.heap.size := h.lt
  have HKF : Hid (Kept F w w1) := Kept.of_below HLF.out hb1
  have HHX := Lib.hid HB1.out.hd
  unfold bocells at HHX
  clear h hb1 hk1
  have e5 : ((kd.toNat : Int) % 5) = 3 := by omega
  have hdr := Go.Proofs.Ytmdpmpfjldgalaa.below_drew w1
  have HAC := Lib.hid ((HB1.out.dj.below hdr).fail_calls nn hn2)
  have HAG := Lib.hid hag
  have HC := Lib.hid hc
  have y0 : w1.cell? ⟨w.heap.size, 0, none⟩ = some (vb kd) := (cell_of_row _ _ 0 _ _ _ HBX.out).trans rfl
  have x0 : w1.cell? ⟨x, 0, none⟩ = some (.pointer (some ⟨g, 0, none⟩)) := (cell_of_row _ _ 0 _ _ _ HHX.out).trans rfl
  have hxw1 : x < w1.heap.size := Nat.lt_trans hxb hs1
  have z1 : ∀ u, Kept [x, w.heap.size] w1 u → u.cell? ⟨x, 0, none⟩ = some (.pointer (some ⟨g, 0, none⟩)) := fun u hu => (World.cell?_of_block (a := ⟨x, 0, none⟩) (hu x (by simp))).trans x0
  have z2 : ∀ u, Kept [x, w.heap.size] w1 u → u.cell? ⟨w.heap.size, 2, none⟩ = some (.int .i64 nn) := fun u hu => (World.cell?_of_block (a := ⟨w.heap.size, 2, none⟩) (hu _ (by simp))).trans ((cell_of_row _ _ 2 _ _ _ HBX.out).trans rfl)
  have hkd : Kept [x, w.heap.size] w1 w1.drew := Kept.of_below (by intro y hy; simp only [List.mem_cons, List.not_mem_nil, or_false] at hy; rcases hy with rfl | rfl <;> assumption) hdr
  have HOWN := Lib.hid HB1.out.dj.own
  clear hk hag hc
  unfold vb at HW1 y0 ⊢
  go_enter Try.func13, Try.ntmps13
  go_upto_region 1 with (fail)
  rw [HW1.out]
  go_upto_region 15 with (fail)
  go_region_held3 (fun w' => Kept [x, w.heap.size] w1 w') (first | exact hkd | assumption) ((go_at_call 26; (with_reducible refine HAC.out.mono ?_); rintro e w2 ⟨rfl, hjo, hk2⟩; have hs2 : Kept [x, w.heap.size] w1 w2 := hkd.trans (hk2.sub (fun y hy => by simp only [List.mem_cons, List.not_mem_nil, or_false] at hy; rcases hy with rfl | rfl <;> simp)); have HJ2 := Lib.hid hjo; have HK2 := Lib.hid hk2; clear hjo hk2))
  have HK12 : Hid (Kept (x :: (N ++ (w.heap.size :: F))) w1 w2) := (Kept.of_below HOWN.out.lt hdr).trans HK2.out
  have HP2 := Lib.hid (HB1.out.disk HK12.out HJ2.out)
  have HKF2 : Hid (Kept F w w2) := HKF.out.trans (HK12.out.sub (fun y hy => by simp [hy]))
  have HHX2 := Lib.hid ((HK12.out x (by simp)).trans HHX.out)
  have HBX2 := Lib.hid ((HK12.out w.heap.size (by simp)).trans HBX.out)
  have hx2 := HP2.out.lt
  have hb2 : w.heap.size < w2.heap.size := (Array.getElem?_eq_some_iff.1 HBX2.out).1
  have hbd2 := Go.Proofs.Ytmdpmpfjldgalaa.below_drew w2
  have HRC := Lib.hid (rfail_calls (kval D A ca X cx P) N D nn w2.drew ⟨_, _, _, _, _, rfl, HP2.out.m.k.below hbd2⟩ hn2)
  unfold kval at HRC
  obtain ⟨NL, HNL⟩ : ∃ y, Hid (64 * D.n = y) := ⟨_, rfl⟩
  obtain ⟨pl, HPL⟩ : ∃ y, Hid (P.length = y) := ⟨_, rfl⟩
  rw [HNL.out, HPL.out] at HRC HHX2
  have HCM : Hid (Calm (failD D nn)) := calm_fail HC.out nn hn2
  have HN6 : Hid ((failD D nn).n ≤ 100) := hD
  clear z1 z2 hkd hs2 y0 x0 hdr HAC HJ2 HK2 HHX HBX HB1 HOWN
  obtain ⟨D6, HD6⟩ : ∃ y, Hid (failD D nn = y) := ⟨_, rfl⟩
  rw [HD6.out] at HP2
  rw [HD6.out] at HRC
  rw [HD6.out] at HCM HN6
  go_upto_region 16 with (fail)
  have k2 : w2.cell? ⟨x, 2, none⟩ = some (.slice A NL ca) := (cell_of_row _ _ 2 _ _ _ HHX2.out).trans rfl
  have k3 : w2.cell? ⟨x, 3, none⟩ = some (.slice X pl cx) := (cell_of_row _ _ 3 _ _ _ HHX2.out).trans rfl
  have k4 : w2.cell? ⟨x, 4, none⟩ = some (.bool D.x) := (cell_of_row _ _ 4 _ _ _ HHX2.out).trans rfl
  have k5 : w2.cell? ⟨x, 5, none⟩ = some (.int .i64 D.f) := (cell_of_row _ _ 5 _ _ _ HHX2.out).trans rfl
  have kb : w2.cell? ⟨w.heap.size, 2, none⟩ = some (.int .i64 nn) := (cell_of_row _ _ 2 _ _ _ HBX2.out).trans rfl
  go_region_law ((go_simp; go_at_call 27; (with_reducible refine HRC.out.mono ?_); rintro e w5 ⟨v6, N6, he6, ⟨A6, ca6, X6, cx6, P6, rfl, hv6⟩, hb6, hn6⟩; unfold kval at he6; have HSM := Lib.hid (HP2.out.setd (hbd2.trans (hb6.mono hbd2.size)) hv6 (fun y hy => (hn6 y hy).imp id id) rfl rfl rfl rfl); have HHX5 := Lib.hid (((hbd2.trans (hb6.mono hbd2.size)).block _ hx2).trans HHX2.out); obtain ⟨NL6, HNL6⟩ : ∃ y, Hid (64 * D6.n = y) := ⟨_, rfl⟩; obtain ⟨pl6, HPL6⟩ : ∃ y, Hid (P6.length = y) := ⟨_, rfl⟩; rw [HNL6.out, HPL6.out] at he6 HSM; subst he6; have mc0 : w5.cell? ⟨x, 0, none⟩ = some _ := (cell_of_row _ _ 0 _ _ _ HHX5.out).trans rfl; have mf0 : w5.frozen? ⟨x, 0, none⟩ = false := frozen_of_row _ _ _ _ _ HHX5.out; have mc1 : w5.cell? ⟨x, 1, none⟩ = some _ := (cell_of_row _ _ 1 _ _ _ HHX5.out).trans rfl; have mf1 : w5.frozen? ⟨x, 1, none⟩ = false := frozen_of_row _ _ _ _ _ HHX5.out; have mc2 : w5.cell? ⟨x, 2, none⟩ = some _ := (cell_of_row _ _ 2 _ _ _ HHX5.out).trans rfl; have mf2 : w5.frozen? ⟨x, 2, none⟩ = false := frozen_of_row _ _ _ _ _ HHX5.out; have mc3 : w5.cell? ⟨x, 3, none⟩ = some _ := (cell_of_row _ _ 3 _ _ _ HHX5.out).trans rfl; have mf3 : w5.frozen? ⟨x, 3, none⟩ = false := frozen_of_row _ _ _ _ _ HHX5.out; have mc4 : w5.cell? ⟨x, 4, none⟩ = some _ := (cell_of_row _ _ 4 _ _ _ HHX5.out).trans rfl; have mf4 : w5.frozen? ⟨x, 4, none⟩ = false := frozen_of_row _ _ _ _ _ HHX5.out; have mc5 : w5.cell? ⟨x, 5, none⟩ = some _ := (cell_of_row _ _ 5 _ _ _ HHX5.out).trans rfl; have mf5 : w5.frozen? ⟨x, 5, none⟩ = false := frozen_of_row _ _ _ _ _ HHX5.out; have mc6 : w5.cell? ⟨x, 6, none⟩ = some _ := (cell_of_row _ _ 6 _ _ _ HHX5.out).trans rfl; have mf6 : w5.frozen? ⟨x, 6, none⟩ = false := frozen_of_row _ _ _ _ _ HHX5.out; have mc7 : w5.cell? ⟨x, 7, none⟩ = some _ := (cell_of_row _ _ 7 _ _ _ HHX5.out).trans rfl; have mf7 : w5.frozen? ⟨x, 7, none⟩ = false := frozen_of_row _ _ _ _ _ HHX5.out; have mc8 : w5.cell? ⟨x, 8, none⟩ = some _ := (cell_of_row _ _ 8 _ _ _ HHX5.out).trans rfl; have mf8 : w5.frozen? ⟨x, 8, none⟩ = false := frozen_of_row _ _ _ _ _ HHX5.out; have mc9 : w5.cell? ⟨x, 9, none⟩ = some _ := (cell_of_row _ _ 9 _ _ _ HHX5.out).trans rfl; have mf9 : w5.frozen? ⟨x, 9, none⟩ = false := frozen_of_row _ _ _ _ _ HHX5.out; have mc10 : w5.cell? ⟨x, 10, none⟩ = some _ := (cell_of_row _ _ 10 _ _ _ HHX5.out).trans rfl; have mf10 : w5.frozen? ⟨x, 10, none⟩ = false := frozen_of_row _ _ _ _ _ HHX5.out; clear hv6 hb6 hn6))
  all_goals
    have HF : Hid (Bo w0 (w.heap.size :: F) x D6 o jm (((((w5.setCell ⟨x, 2, none⟩ (.slice A6 NL6 ca6)).setCell ⟨x, 3, none⟩ (.slice X6 pl6 cx6)).setCell ⟨x, 4, none⟩ (.bool D6.x)).setCell ⟨x, 5, none⟩ (.int .i64 D6.f))) ∧ Kept F w (((((w5.setCell ⟨x, 2, none⟩ (.slice A6 NL6 ca6)).setCell ⟨x, 3, none⟩ (.slice X6 pl6 cx6)).setCell ⟨x, 4, none⟩ (.bool D6.x)).setCell ⟨x, 5, none⟩ (.int .i64 D6.f)))) := ⟨⟨_, _, _, _, _, _, _, _, _, _, _, _, _, HSM.out.1⟩, HKF2.out.trans (HSM.out.2.sub (fun y hy => by simp [hy]))⟩
    clear k2 k3 k4 k5 kb
    obtain ⟨wc, HWC⟩ : ∃ y, Hid (((((w5.setCell ⟨x, 2, none⟩ (.slice A6 NL6 ca6)).setCell ⟨x, 3, none⟩ (.slice X6 pl6 cx6)).setCell ⟨x, 4, none⟩ (.bool D6.x)).setCell ⟨x, 5, none⟩ (.int .i64 D6.f)) = y) := ⟨_, rfl⟩
    rw [HWC.out] at HF
    have HBO := Lib.hid HF.out.1
    have HKX := Lib.hid HF.out.2
    have HSAME := Lib.hid (bsame_calls w0 wc (w.heap.size :: F) x D6 o jm HBO.out HAG.out HN6.out)
    go_upto_region 22 with (fail)
    rw [HWC.out]
    go_wp2_with fail
    have HEND : Hid (∀ w7, Below wc.heap.size wc w7 → DoP w0 F x (failD D nn) o jm w (.returned (.bool true)) w7) := fun w7 hb7 => by
      rw [HD6.out]
      exact ⟨rfl, (Bo2.below HBO.out hb7).sub (fun y hy => by simp [hy]), HKX.out.trans (Kept.of_below (fun y hy => HBO.out.lt.2.2.2.1 y (by simp [hy])) hb7)⟩
    (with_reducible refine HSAME.out.mono ?_)
    rintro e w7 ⟨rfl, hb7⟩
    have HG := Lib.hid (HEND.out w7 hb7)
    clear hb7
    go_wp2_with fail
    go_ret
    exact HG.out
set_option maxRecDepth 100000 in
set_option maxHeartbeats 4000000 in
theorem docrash_calls (w0 w : World) (F : List Nat) (x : Nat) (D : St) (o : Option Jr) (jm : Jr) (kd : UInt8) (B : Option Addr) (dn dc : Nat) (nn : Int) (Z : Option Addr) (zn zc : Nat) (h : Bo w0 F x D o jm w) (hag : ∀ j, o = some j → jm = j) (hk : kd.toNat % 5 = 4) (sv : List Int) (hz : sv.length = zn) (hzr : Rd w0 Z (sv.map (Value.int .i64))) (hD : D.n ≤ 100) (hc : Calm D) :
    Calls Try.prog 13 #[.pointer (some ⟨x, 0, none⟩), opval kd B dn dc nn Z zn zc] w (DoP w0 F x (openD (crashD D sv)) (openJ (crashD D sv)) ((openJ (crashD D sv)).getD j0) w) := by
  unfold opval
  obtain ⟨g, p, N, A, ca, X, cx, P, sa, sc, ra, rc, ms, h⟩ := h
  have hb1 := below1 w (.cells #[vb kd, .slice B dn dc, .int .i64 nn, .slice Z zn zc] 32)
  have hk1 := heap_alloc_new w (.cells #[vb kd, .slice B dn dc, .int .i64 nn, .slice Z zn zc] 32)
  obtain ⟨w1, HW1⟩ : ∃ y, Hid (w.alloc (.cells #[vb kd, .slice B dn dc, .int .i64 nn, .slice Z zn zc] 32) = y) := ⟨_, rfl⟩
  rw [HW1.out] at hb1 hk1
  have HBX := Lib.hid hk1
  have HBW := Lib.hid hb1
  have hs1 : w.heap.size < w1.heap.size := (Array.getElem?_eq_some_iff.1 hk1).1
  have HLF : Hid (∀ y ∈ F, y < w.heap.size) := fun y hy => h.dj.own.lt y (by simp [hy])
  have HB1 := Lib.hid (h.grow (F' := w.heap.size :: F) hb1 (fun y hy => by
    simp only [List.mem_cons] at hy
    rcases hy with rfl | hy
    · exact .inr ⟨Nat.le_refl _, hs1⟩
    · exact .inl hy))
  have hxb : x < w.heap.size := h.lt
  have HKF : Hid (Kept F w w1) := Kept.of_below HLF.out hb1
  have HHX := Lib.hid HB1.out.hd
  unfold bocells at HHX
  clear h hb1 hk1
  have e5 : ((kd.toNat : Int) % 5) = 4 := by omega
  have hdr := Go.Proofs.Ytmdpmpfjldgalaa.below_drew w1
  have HAC := Lib.hid ((HB1.out.dj.below hdr).crash_calls Z zn zc sv hz hzr)
  have HAG := Lib.hid hag
  have HC := Lib.hid hc
  have y0 : w1.cell? ⟨w.heap.size, 0, none⟩ = some (vb kd) := (cell_of_row _ _ 0 _ _ _ HBX.out).trans rfl
  have x0 : w1.cell? ⟨x, 0, none⟩ = some (.pointer (some ⟨g, 0, none⟩)) := (cell_of_row _ _ 0 _ _ _ HHX.out).trans rfl
  have hxw1 : x < w1.heap.size := Nat.lt_trans hxb hs1
  have z1 : ∀ u, Kept [x, w.heap.size] w1 u → u.cell? ⟨x, 0, none⟩ = some (.pointer (some ⟨g, 0, none⟩)) := fun u hu => (World.cell?_of_block (a := ⟨x, 0, none⟩) (hu x (by simp))).trans x0
  have z2 : ∀ u, Kept [x, w.heap.size] w1 u → u.cell? ⟨w.heap.size, 3, none⟩ = some (.slice Z zn zc) := fun u hu => (World.cell?_of_block (a := ⟨w.heap.size, 3, none⟩) (hu _ (by simp))).trans ((cell_of_row _ _ 3 _ _ _ HBX.out).trans rfl)
  have hkd : Kept [x, w.heap.size] w1 w1.drew := Kept.of_below (by intro y hy; simp only [List.mem_cons, List.not_mem_nil, or_false] at hy; rcases hy with rfl | rfl <;> assumption) hdr
  have HOWN := Lib.hid HB1.out.dj.own
  clear hk hag hc
  unfold vb at HW1 y0 ⊢
  go_enter Try.func13, Try.ntmps13
  go_upto_region 1 with (fail)
  rw [HW1.out]
  go_upto_region 18 with (fail)
  go_region_held3 (fun w' => Kept [x, w.heap.size] w1 w') (first | exact hkd | assumption) ((go_at_call 21; (with_reducible refine HAC.out.mono ?_); rintro e w2 ⟨rfl, hjo, hk2⟩; have hs2 : Kept [x, w.heap.size] w1 w2 := hkd.trans (hk2.sub (fun y hy => by simp only [List.mem_cons, List.not_mem_nil, or_false] at hy; rcases hy with rfl | rfl <;> simp)); have HJ2 := Lib.hid hjo; have HK2 := Lib.hid hk2; clear hjo hk2))
  have HK12 : Hid (Kept (x :: (N ++ (w.heap.size :: F))) w1 w2) := (Kept.of_below HOWN.out.lt hdr).trans HK2.out
  have HP2 := Lib.hid (HB1.out.disk HK12.out HJ2.out)
  have HKF2 : Hid (Kept F w w2) := HKF.out.trans (HK12.out.sub (fun y hy => by simp [hy]))
  have HHX2 := Lib.hid ((HK12.out x (by simp)).trans HHX.out)
  have HBX2 := Lib.hid ((HK12.out w.heap.size (by simp)).trans HBX.out)
  have hx2 := HP2.out.lt
  have hb2 : w.heap.size < w2.heap.size := (Array.getElem?_eq_some_iff.1 HBX2.out).1
  have hbd2 := Go.Proofs.Ytmdpmpfjldgalaa.below_drew w2
  have HRC := Lib.hid (rcrash_calls (kval D A ca X cx P) N D Z zn zc sv w2.drew ⟨_, _, _, _, _, rfl, HP2.out.m.k.below hbd2⟩ hz (Rd.below hzr (HP2.out.dj.own.b.trans (hbd2.mono HP2.out.dj.own.b.size))))
  unfold kval at HRC
  obtain ⟨NL, HNL⟩ : ∃ y, Hid (64 * D.n = y) := ⟨_, rfl⟩
  obtain ⟨pl, HPL⟩ : ∃ y, Hid (P.length = y) := ⟨_, rfl⟩
  rw [HNL.out, HPL.out] at HRC HHX2
  have HCM : Hid (Calm (crashD D sv)) := calm_crash HC.out sv
  have HN6 : Hid ((crashD D sv).n ≤ 100) := hD
  clear z1 z2 hkd hs2 y0 x0 hdr HAC HJ2 HK2 HHX HBX HB1 HOWN
  obtain ⟨D6, HD6⟩ : ∃ y, Hid (crashD D sv = y) := ⟨_, rfl⟩
  rw [HD6.out] at HP2
  rw [HD6.out] at HRC
  rw [HD6.out] at HCM HN6
  go_upto_region 19 with (fail)
  have k2 : w2.cell? ⟨x, 2, none⟩ = some (.slice A NL ca) := (cell_of_row _ _ 2 _ _ _ HHX2.out).trans rfl
  have k3 : w2.cell? ⟨x, 3, none⟩ = some (.slice X pl cx) := (cell_of_row _ _ 3 _ _ _ HHX2.out).trans rfl
  have k4 : w2.cell? ⟨x, 4, none⟩ = some (.bool D.x) := (cell_of_row _ _ 4 _ _ _ HHX2.out).trans rfl
  have k5 : w2.cell? ⟨x, 5, none⟩ = some (.int .i64 D.f) := (cell_of_row _ _ 5 _ _ _ HHX2.out).trans rfl
  have kb : w2.cell? ⟨w.heap.size, 3, none⟩ = some (.slice Z zn zc) := (cell_of_row _ _ 3 _ _ _ HBX2.out).trans rfl
  go_region_law ((go_simp; go_at_call 33; (with_reducible refine HRC.out.mono ?_); rintro e w5 ⟨v6, N6, he6, ⟨A6, ca6, X6, cx6, P6, rfl, hv6⟩, hb6, hn6⟩; unfold kval at he6; have HSM := Lib.hid (HP2.out.setd (hbd2.trans (hb6.mono hbd2.size)) hv6 (fun y hy => (hn6 y hy).imp id id) rfl rfl rfl rfl); have HHX5 := Lib.hid (((hbd2.trans (hb6.mono hbd2.size)).block _ hx2).trans HHX2.out); obtain ⟨NL6, HNL6⟩ : ∃ y, Hid (64 * D6.n = y) := ⟨_, rfl⟩; obtain ⟨pl6, HPL6⟩ : ∃ y, Hid (P6.length = y) := ⟨_, rfl⟩; rw [HNL6.out, HPL6.out] at he6 HSM; subst he6; have mc0 : w5.cell? ⟨x, 0, none⟩ = some _ := (cell_of_row _ _ 0 _ _ _ HHX5.out).trans rfl; have mf0 : w5.frozen? ⟨x, 0, none⟩ = false := frozen_of_row _ _ _ _ _ HHX5.out; have mc1 : w5.cell? ⟨x, 1, none⟩ = some _ := (cell_of_row _ _ 1 _ _ _ HHX5.out).trans rfl; have mf1 : w5.frozen? ⟨x, 1, none⟩ = false := frozen_of_row _ _ _ _ _ HHX5.out; have mc2 : w5.cell? ⟨x, 2, none⟩ = some _ := (cell_of_row _ _ 2 _ _ _ HHX5.out).trans rfl; have mf2 : w5.frozen? ⟨x, 2, none⟩ = false := frozen_of_row _ _ _ _ _ HHX5.out; have mc3 : w5.cell? ⟨x, 3, none⟩ = some _ := (cell_of_row _ _ 3 _ _ _ HHX5.out).trans rfl; have mf3 : w5.frozen? ⟨x, 3, none⟩ = false := frozen_of_row _ _ _ _ _ HHX5.out; have mc4 : w5.cell? ⟨x, 4, none⟩ = some _ := (cell_of_row _ _ 4 _ _ _ HHX5.out).trans rfl; have mf4 : w5.frozen? ⟨x, 4, none⟩ = false := frozen_of_row _ _ _ _ _ HHX5.out; have mc5 : w5.cell? ⟨x, 5, none⟩ = some _ := (cell_of_row _ _ 5 _ _ _ HHX5.out).trans rfl; have mf5 : w5.frozen? ⟨x, 5, none⟩ = false := frozen_of_row _ _ _ _ _ HHX5.out; have mc6 : w5.cell? ⟨x, 6, none⟩ = some _ := (cell_of_row _ _ 6 _ _ _ HHX5.out).trans rfl; have mf6 : w5.frozen? ⟨x, 6, none⟩ = false := frozen_of_row _ _ _ _ _ HHX5.out; have mc7 : w5.cell? ⟨x, 7, none⟩ = some _ := (cell_of_row _ _ 7 _ _ _ HHX5.out).trans rfl; have mf7 : w5.frozen? ⟨x, 7, none⟩ = false := frozen_of_row _ _ _ _ _ HHX5.out; have mc8 : w5.cell? ⟨x, 8, none⟩ = some _ := (cell_of_row _ _ 8 _ _ _ HHX5.out).trans rfl; have mf8 : w5.frozen? ⟨x, 8, none⟩ = false := frozen_of_row _ _ _ _ _ HHX5.out; have mc9 : w5.cell? ⟨x, 9, none⟩ = some _ := (cell_of_row _ _ 9 _ _ _ HHX5.out).trans rfl; have mf9 : w5.frozen? ⟨x, 9, none⟩ = false := frozen_of_row _ _ _ _ _ HHX5.out; have mc10 : w5.cell? ⟨x, 10, none⟩ = some _ := (cell_of_row _ _ 10 _ _ _ HHX5.out).trans rfl; have mf10 : w5.frozen? ⟨x, 10, none⟩ = false := frozen_of_row _ _ _ _ _ HHX5.out; clear hv6 hb6 hn6))
  all_goals
    have HF : Hid (Bo w0 (w.heap.size :: F) x D6 o jm (((((w5.setCell ⟨x, 2, none⟩ (.slice A6 NL6 ca6)).setCell ⟨x, 3, none⟩ (.slice X6 pl6 cx6)).setCell ⟨x, 4, none⟩ (.bool D6.x)).setCell ⟨x, 5, none⟩ (.int .i64 D6.f))) ∧ Kept F w (((((w5.setCell ⟨x, 2, none⟩ (.slice A6 NL6 ca6)).setCell ⟨x, 3, none⟩ (.slice X6 pl6 cx6)).setCell ⟨x, 4, none⟩ (.bool D6.x)).setCell ⟨x, 5, none⟩ (.int .i64 D6.f)))) := ⟨⟨_, _, _, _, _, _, _, _, _, _, _, _, _, HSM.out.1⟩, HKF2.out.trans (HSM.out.2.sub (fun y hy => by simp [hy]))⟩
    clear k2 k3 k4 k5 kb
    obtain ⟨wc, HWC⟩ : ∃ y, Hid (((((w5.setCell ⟨x, 2, none⟩ (.slice A6 NL6 ca6)).setCell ⟨x, 3, none⟩ (.slice X6 pl6 cx6)).setCell ⟨x, 4, none⟩ (.bool D6.x)).setCell ⟨x, 5, none⟩ (.int .i64 D6.f)) = y) := ⟨_, rfl⟩
    rw [HWC.out] at HF
    have HBO := Lib.hid HF.out.1
    have HKX := Lib.hid HF.out.2
    have HOPN := Lib.hid (bopen_calls w0 wc (w.heap.size :: F) x D6 o jm HBO.out HCM.out HN6.out)
    have HN7 : Hid ((openD D6).n ≤ 100) := by show _ ≤ _; rw [openD_n]; exact HN6.out
    go_upto_region 20 with (fail)
    rw [HWC.out]
    go_wp2_with fail
    (with_reducible refine HOPN.out.mono ?_)
    rintro e w8 ⟨rfl, hbo, hk8⟩
    have HBO8 := Lib.hid hbo
    have HK8 := Lib.hid (HKX.out.trans (hk8.sub (F' := F) (fun y hy => by simp [hy])))
    have HSAME := Lib.hid (bsame_calls w0 w8 (w.heap.size :: F) x (openD D6) (openJ D6) ((openJ D6).getD j0) HBO8.out (fun j h => by rw [h]; rfl) HN7.out)
    have HEND : Hid (∀ w7, Below w8.heap.size w8 w7 → DoP w0 F x (openD (crashD D sv)) (openJ (crashD D sv)) ((openJ (crashD D sv)).getD j0) w (.returned (.bool true)) w7) := fun w7 hb7 => by
      rw [HD6.out]
      exact ⟨rfl, (Bo2.below HBO8.out hb7).sub (fun y hy => by simp [hy]), HK8.out.trans (Kept.of_below (fun y hy => HBO8.out.lt.2.2.2.1 y (by simp [hy])) hb7)⟩
    clear hbo hk8 HOPN
    go_wp2_with fail
    (with_reducible refine HSAME.out.mono ?_)
    rintro e w7 ⟨rfl, hb7⟩
    have HG := Lib.hid (HEND.out w7 hb7)
    clear hb7
    go_wp2_with fail
    go_ret
    exact HG.out

theorem do_calls (w0 w : World) (F : List Nat) (x : Nat) (D : St) (o : Option Jr) (jm : Jr) (kd : UInt8) (B : Option Addr) (dn dc : Nat) (nn : Int) (Z : Option Addr) (zn zc : Nat) (d : List UInt8) (sv : List Int) (h : Bo w0 F x D o jm w) (hag : ∀ j, o = some j → jm = j) (hdn : d.length = dn) (hdm : dn ≤ 500000) (hda : ∀ u, Below w0.heap.size w0 u → RB u B d)
    (hn1 : -9223372036854775808 ≤ nn) (hn2 : nn ≤ 9223372036854775807) (hz : sv.length = zn) (hzr : Rd w0 Z (sv.map (Value.int .i64))) (hD : D.n ≤ 100) (hc : Calm D) :
    Calls Try.prog 13 #[.pointer (some ⟨x, 0, none⟩), opval kd B dn dc nn Z zn zc] w (DoP w0 F x (doD D o (kd.toNat % 5) d nn sv) (doO D o (kd.toNat % 5) d sv) (doM D o jm (kd.toNat % 5) d sv) w) := by
  have h5 : kd.toNat % 5 = 0 ∨ kd.toNat % 5 = 1 ∨ kd.toNat % 5 = 2 ∨ kd.toNat % 5 = 3 ∨ kd.toNat % 5 = 4 := by omega
  rcases h5 with hk | hk | hk | hk | hk
  · rw [hk]
    cases o with
    | none => exact donone_calls w0 w F x D none jm kd B dn dc nn Z zn zc h hag (.inl hk) rfl hD hc
    | some j => obtain rfl := hag j rfl; exact do0_calls w0 w F x D jm kd B dn dc nn Z zn zc d h hk hdn hdm hda hD hc
  · rw [hk]
    cases o with
    | none => exact donone_calls w0 w F x D none jm kd B dn dc nn Z zn zc h hag (.inr hk) rfl hD hc
    | some j => obtain rfl := hag j rfl; exact do1_calls w0 w F x D jm kd B dn dc nn Z zn zc d h hk hdn hdm hda hD hc
  · rw [hk]; exact doopen_calls w0 w F x D o jm kd B dn dc nn Z zn zc h hag hk hD hc
  · rw [hk]; exact dofail_calls w0 w F x D o jm kd B dn dc nn Z zn zc h hag hk hn1 hn2 hD hc
  · rw [hk]; exact docrash_calls w0 w F x D o jm kd B dn dc nn Z zn zc h hag hk sv hz hzr hD hc
/-- what do keeps -/
theorem do_keeps (D : St) (o : Option Jr) (jm : Jr) (k : Nat) (d : List UInt8) (nn : Int) (sv : List Int) (hag : ∀ j, o = some j → jm = j) (hc : Calm D) (hn2 : nn ≤ 9223372036854775807) :
    Calm (doD D o k d nn sv) ∧ (doD D o k d nn sv).n = D.n ∧ ∀ j, doO D o k d sv = some j → doM D o jm k d sv = j := by
  unfold doD doO doM
  by_cases h0 : k = 0
  · rw [if_pos h0, if_pos h0, if_pos h0]
    cases o with
    | none => exact ⟨hc, rfl, fun j h => by cases h⟩
    | some j => exact ⟨appD_calm D j d hc, appD_n D j d, fun j' h => by injection h⟩
  rw [if_neg h0, if_neg h0, if_neg h0]
  by_cases h1 : k = 1
  · rw [if_pos h1, if_pos h1, if_pos h1]
    cases o with
    | none => exact ⟨hc, rfl, fun j h => by cases h⟩
    | some j => exact ⟨chkD_calm D j d hc, chkD_n D j d, fun j' h => by injection h⟩
  rw [if_neg h1, if_neg h1, if_neg h1]
  by_cases h2 : k = 2
  · rw [if_pos h2, if_pos h2, if_pos h2]
    exact ⟨openD_calm D hc, openD_n D, fun j h => by rw [h]; rfl⟩
  rw [if_neg h2, if_neg h2, if_neg h2]
  by_cases h3 : k = 3
  · rw [if_pos h3, if_pos h3, if_pos h3]
    exact ⟨calm_fail hc nn hn2, rfl, hag⟩
  rw [if_neg h3, if_neg h3, if_neg h3]
  exact ⟨openD_calm _ (calm_crash hc sv), openD_n _, fun j h => by rw [h]; rfl⟩
end Jn
end Go.Proofs.Ytmdpmpfjldgalaa

/- A journal without failures: plain mathematics. No program in sight. -/
namespace Go.Proofs.Ytmdpmpfjldgalaa
namespace Jn
open Dk Wr

/-! ### what is written into a half -/

theorem zero64_len : zero64.length = 64 := by simp [zero64]
theorem splice_app (A R x : List UInt8) (_h : x.length ≤ R.length) : Dk.splice (A ++ R) A.length x = A ++ (x ++ R.drop x.length) := by
  unfold Dk.splice
  rw [List.take_left, List.drop_append, show A.drop (A.length + x.length) = [] from List.drop_eq_nil_of_le (by omega), List.nil_append, show A.length + x.length - A.length = x.length by omega]
/-- a block with a sector of zeros behind it -/
theorem write_half (H A R b : List UInt8) (e nb h : Nat) (hH : H = A ++ R) (hA : A.length = 64 * e) (hl : H.length = 64 * h) (hb : b.length = 64 * nb) (hle : e + nb ≤ h) :
    ∃ rest, (if e + nb < h then Dk.splice (Dk.splice H (64 * (e + nb)) zero64) (64 * e) b else Dk.splice H (64 * e) b) = A ++ (b ++ rest) ∧ Stop rest := by
  have hR : R.length = 64 * h - 64 * e := by rw [hH, List.length_append] at hl; omega
  by_cases hlt : e + nb < h
  · rw [if_pos hlt]
    have h1 : H = (A ++ R.take (64 * nb)) ++ R.drop (64 * nb) := by rw [hH, List.append_assoc, List.take_append_drop]
    have hl1 : (A ++ R.take (64 * nb)).length = 64 * (e + nb) := by rw [List.length_append, List.length_take, hA]; omega
    have h2 : Dk.splice H (64 * (e + nb)) zero64 = A ++ (R.take (64 * nb) ++ (zero64 ++ (R.drop (64 * nb)).drop 64)) := by
      rw [h1, ← hl1, splice_app _ _ _ (by rw [zero64_len, List.length_drop]; omega), zero64_len, List.append_assoc]
    have h3 : (R.take (64 * nb)).length = b.length := by rw [List.length_take]; omega
    rw [h2, ← hA, splice_app _ _ _ (by rw [List.length_append, h3]; omega), List.drop_append, show (R.take (64 * nb)).drop b.length = [] from List.drop_eq_nil_of_le (by omega), h3]
    exact ⟨zero64 ++ (R.drop (64 * nb)).drop 64, by simp, .inr ⟨_, rfl⟩⟩
  · rw [if_neg hlt, hH, ← hA, splice_app _ _ _ (by omega)]
    exact ⟨R.drop b.length, rfl, .inl (List.drop_eq_nil_of_le (by omega))⟩

/-- the half k of some bytes -/
def hb (B : List UInt8) (h k : Nat) : List UInt8 := (B.drop (64 * (k * h))).take (64 * h)
theorem hb_len (B : List UInt8) (h k n : Nat) (hB : B.length = 64 * n) (hn : 2 * h ≤ n) (hk : k < 2) : (hb B h k).length = 64 * h := by
  have : k = 0 ∨ k = 1 := by omega
  unfold hb
  rw [List.length_take, List.length_drop, hB]
  rcases this with rfl | rfl <;> omega
theorem hb_splice (B x : List UInt8) (h k s n : Nat) (hB : B.length = 64 * n) (hn : 2 * h ≤ n) (hk : k < 2) (hs : 64 * s + x.length ≤ 64 * h) :
    hb (Dk.splice B (64 * (k * h + s)) x) h k = Dk.splice (hb B h k) (64 * s) x := by
  have hl := hb_len B h k n hB hn hk
  have hkh : k * h ≤ h := by have : k = 0 ∨ k = 1 := by omega
                             rcases this with rfl | rfl <;> omega
  apply List.ext_getElem?
  intro i
  rw [splice_get _ _ _ (by omega)]
  unfold hb
  rw [List.getElem?_take, List.getElem?_drop, splice_get _ _ _ (by omega), List.getElem?_take, List.getElem?_drop]
  by_cases hi : i < 64 * h
  · rw [if_pos hi, if_pos hi]
    by_cases hr : 64 * s ≤ i ∧ i < 64 * s + x.length
    · rw [if_pos hr, if_pos (by omega)]
      congr 1; omega
    · rw [if_neg hr, if_neg (by omega)]
  · rw [if_neg hi, if_neg hi, if_neg (by omega)]
theorem hb_other (B x : List UInt8) (h k k' s n : Nat) (hB : B.length = 64 * n) (hn : 2 * h ≤ n) (hk : k < 2) (hk' : k' < 2) (hne : k ≠ k') (hs : 64 * s + x.length ≤ 64 * h) :
    hb (Dk.splice B (64 * (k * h + s)) x) h k' = hb B h k' := by
  have hkh : k * h + k' * h = h := by
    have : (k = 0 ∧ k' = 1) ∨ (k = 1 ∧ k' = 0) := by omega
    rcases this with ⟨rfl, rfl⟩ | ⟨rfl, rfl⟩ <;> omega
  have hkk : k * h = 0 ∨ k' * h = 0 := by
    have : k = 0 ∨ k' = 0 := by omega
    rcases this with rfl | rfl <;> simp
  apply List.ext_getElem?
  intro i
  unfold hb
  rw [List.getElem?_take, List.getElem?_drop, splice_get _ _ _ (by omega), List.getElem?_take, List.getElem?_drop]
  by_cases hi : i < 64 * h
  · rw [if_pos hi, if_pos hi, if_neg (by omega)]
  · rw [if_neg hi, if_neg hi]

/-! ### a disk without failures -/

theorem all_nil {D : St} (hp : D.p = []) : D.all = D.b := by unfold St.all; rw [hp]; rfl
theorem wr2_good (D : St) (s : Nat) (b : List UInt8) (hx : D.x = false) (hp : D.p = []) (hf : D.f = -1) (h64 : b.length % 64 = 0) (hi : s + b.length / 64 ≤ D.n) :
    wr2 D s b = ({ D with b := Dk.splice D.b (64 * s) b }, true) := by
  have hin : inB D.n s (b.length / 64 : Nat) = true := by
    unfold inB
    simp only [Bool.and_eq_true, decide_eq_true_eq]
    omega
  obtain ⟨h1, h2⟩ := write_ok (D := D) s b hx h64 hin (by rw [hf]; decide)
  obtain ⟨h3, h4⟩ := sync_ok (D := writeD D s b) (by rw [h1]; exact hx) (by rw [h1, hf]; show ¬ burnF (-1) = 0; decide)
  unfold wr2
  rw [if_neg (by rw [h2]; decide), h4, h3, h1]
  have hb2 : burnF (-1) = -1 := by decide
  have hk : (⟨(s : Int).toNat, b⟩ : Pc).k = b.length / 64 := rfl
  have ha : St.all { D with f := burnF D.f, p := D.p ++ [⟨(s : Int).toNat, b⟩] } = Dk.splice D.b (64 * s) b := by
    unfold St.all
    rw [hp]
    show setB D.b [⟨(s : Int).toNat, b⟩] cAll 1 = _
    rw [setB_step _ _ _ _ (by simp)]
    show ap D.b ⟨(s : Int).toNat, b⟩ (Pc.k ⟨(s : Int).toNat, b⟩) = _
    unfold ap
    rw [hk]
    show Dk.splice D.b (64 * (s : Int).toNat) (b.take (64 * (b.length / 64))) = _
    rw [List.take_of_length_le (by omega), Int.toNat_natCast]
  simp only
  rw [ha]
  simp only [hb2, hp, hf]
  rfl
theorem wrJ_good (D : St) (s tt : Nat) (b : List UInt8) (hx : D.x = false) (hp : D.p = []) (hf : D.f = -1) (h64 : b.length % 64 = 0) (ht : tt ≤ D.n) (hi : s + b.length / 64 ≤ tt) :
    wrJ D s tt b = ({ D with b := if s + b.length / 64 < tt then Dk.splice (Dk.splice D.b (64 * (s + b.length / 64)) zero64) (64 * s) b else Dk.splice D.b (64 * s) b }, true) := by
  unfold wrJ
  by_cases hlt : s + b.length / 64 < tt
  · rw [if_pos hlt, if_pos hlt]
    have h1 := wr2_good D (s + b.length / 64) zero64 hx hp hf (by rw [zero64_len]) (by rw [zero64_len]; omega)
    rw [h1, if_pos rfl, wr2_good _ s b (by exact hx) (by exact hp) (by exact hf) h64 (by show s + b.length / 64 ≤ D.n; omega)]
  · rw [if_neg hlt, if_neg hlt, wr2_good D s b hx hp hf h64 (by omega)]

/-- nothing newer is in the other half -/
def Old (H : List UInt8) (t : Nat) : Prop := (∃ r, H = zero64 ++ r) ∨ ∃ t' s' r, t' < t ∧ 1 ≤ t' ∧ s'.length ≤ 6400 ∧ H = blockL t' 0 s' ++ r
/-- a journal that was never disturbed -/
structure Play (D : St) (j : Jr) : Prop where
  ok : D.ok
  x : D.x = false
  p : D.p = []
  f : D.f = -1
  h1 : 1 ≤ half D
  hn : D.n ≤ 100
  jx : j.x = false
  t1 : 1 ≤ j.t
  t2 : j.t ≤ 1099511627776
  cur : ∃ rest, hb D.b (half D) (j.t % 2) = (blockL j.t 0 j.s ++ blocks j.t 1 j.rs) ++ rest ∧ Stop rest
  e : 64 * j.e = (blockL j.t 0 j.s ++ blocks j.t 1 j.rs).length
  old : Old (hb D.b (half D) ((j.t + 1) % 2)) j.t
theorem blocks_mem (t i : Nat) (ds : List (List UInt8)) (d : List UInt8) (hd : d ∈ ds) : d.length ≤ (blocks t i ds).length := by
  induction ds generalizing i with
  | nil => cases hd
  | cons y ds ih =>
    show _ ≤ (blockL t i y ++ blocks t (i + 1) ds).length
    rw [List.length_append]
    rcases List.mem_cons.1 hd with rfl | hd
    · have := blockL_ge t i d; omega
    · have := ih (i + 1) hd; omega
section
variable {D : St} {j : Jr}
theorem Play.n2 (_h : Play D j) : 2 * half D ≤ D.n := by unfold half; omega
theorem Play.le (h : Play D j) : j.e ≤ half D := by
  obtain ⟨rest, hc, _⟩ := h.cur
  have hl := hb_len D.b (half D) (j.t % 2) D.n h.ok.b h.n2 (by omega)
  have he := h.e
  rw [hc, List.length_append] at hl
  omega
theorem Play.jok (h : Play D j) : j.ok (half D) := by
  have he := h.e
  have hle := h.le
  rw [List.length_append] at he
  have h1 := blockL_len j.t 0 j.s
  have h2 := blockL_ge j.t 0 j.s
  have h3 := blocks_ge j.t 1 j.rs
  exact ⟨h.t1, h.t2, hle, by omega, by omega, fun d hd => by have := blocks_mem j.t 1 j.rs d hd; omega⟩
theorem Play.calm (h : Play D j) : Calm D := ⟨h.ok, fun _ => h.p, by rw [h.p]; simp⟩
theorem halfL_hb {f : Int} (hp : D.p = []) (k : Nat) : halfL { D with f := f } k = hb D.b (half D) k := by
  unfold halfL hb
  rw [all_nil (by exact hp)]
  rfl
theorem first_block (H : List UInt8) (t : Nat) (s r : List UInt8) (h : H = blockL t 0 s ++ r) (h1 : 1 ≤ t) (h2 : t ≤ 1099511627776) (hs : s.length ≤ 6400) (k : Nat) :
    first0 H k = if t % 2 = k then some ⟨t, s, [], (blockL t 0 s).length / 64, false⟩ else none := by
  unfold first0
  rw [h, parse_block t 0 s r h1 h2 (by omega) (by omega)]
  simp
/-- it is what is found, whatever the fuse -/
theorem Play.load (h : Play D j) (f : Int) : openJ { D with f := f } = some j ∧ openD { D with f := f } = { D with f := f } ∧ best (loadD { D with f := f } 0) (loadD { D with f := f } 1) = some j := by
  obtain ⟨rest, hc, hs⟩ := h.cur
  have hjok := h.jok
  have hh : half D ≤ 50 := by have := h.hn; unfold half; omega
  have he := h.e
  rw [List.length_append] at he
  have h1 := blockL_len j.t 0 j.s
  have h2 := blocks_mod j.t 1 j.rs
  have hsl : j.s.length ≤ 6400 := by have := hjok.s; omega
  have hcur : loadD { D with f := f } (j.t % 2) = some j := by
    unfold loadD
    rw [halfL_hb h.p, hc, List.append_assoc, first_block _ j.t j.s _ rfl h.t1 h.t2 hsl, if_pos rfl]
    show some (loadR _ (half D) _) = _
    have hlr := loadR_blocks (blockL j.t 0 j.s ++ (blocks j.t 1 j.rs ++ rest)) (blockL j.t 0 j.s) rest (half D) j.t j.s false j.rs [] ((blockL j.t 0 j.s).length / 64) rfl (by omega) (by show _ + (blocks j.t 1 j.rs).length / 64 ≤ _; have := h.le; omega) (fun d hd => by have := hjok.d d hd; omega) h.t1 h.t2 (by have := hjok.r; have := hjok.e; simp; omega) hs
    rw [show ([] : List (List UInt8)).length + 1 = 1 from rfl] at hlr
    rw [hlr]
    congr 1
    obtain ⟨t, s, rs, e, x⟩ := j
    have hx := h.jx
    simp only at *
    subst hx
    simp
    omega
  have hold : loadD { D with f := f } ((j.t + 1) % 2) = none ∨ ∃ j', loadD { D with f := f } ((j.t + 1) % 2) = some j' ∧ j'.t < j.t := by
    unfold loadD
    rw [halfL_hb h.p]
    rcases h.old with ⟨r, hr⟩ | ⟨t', s', r, h3, h4, h5, hr⟩
    · left
      unfold first0
      rw [hr, parse_zero]
      rfl
    · rw [first_block _ t' s' r hr h4 (by have := h.t2; omega) h5]
      by_cases hk : t' % 2 = (j.t + 1) % 2
      · rw [if_pos hk]
        right
        exact ⟨_, rfl, by rw [loadR_t]; exact h3⟩
      · rw [if_neg hk]; left; rfl
  have hb : best (loadD { D with f := f } 0) (loadD { D with f := f } 1) = some j := by
    have h01 : j.t % 2 = 0 ∨ j.t % 2 = 1 := by omega
    rcases h01 with h0 | h0
    · rw [h0] at hcur
      rw [show (j.t + 1) % 2 = 1 by omega] at hold
      rw [hcur]
      rcases hold with h3 | ⟨j', h3, h4⟩
      · rw [h3]; rfl
      · rw [h3]; show (if _ then _ else _) = _; rw [if_neg (by omega)]
    · rw [h0] at hcur
      rw [show (j.t + 1) % 2 = 0 by omega] at hold
      rw [hcur]
      rcases hold with h3 | ⟨j', h3, h4⟩
      · rw [h3]; rfl
      · rw [h3]; show (if _ then _ else _) = _; rw [if_pos (by omega)]
  have hz : ¬ half { D with f := f } = 0 := by show ¬ half D = 0; have := h.h1; omega
  have hx : ¬ ({ D with f := f } : St).x = true := by show ¬ D.x = true; rw [h.x]; simp
  refine ⟨?_, ?_, hb⟩
  · unfold openJ; rw [if_neg hz, if_neg hx, hb]
  · unfold openD; rw [if_neg hz, if_neg hx, hb]
theorem Play.self (h : Play D j) : ({ D with f := -1 } : St) = D := by
  obtain ⟨n, b, p, f, x⟩ := D
  have := h.f
  simp only at this
  subst this
  rfl
theorem Play.open (h : Play D j) : openJ D = some j ∧ openD D = D := by
  have h1 := h.load (-1)
  rw [h.self] at h1
  exact ⟨h1.1, h1.2.1⟩
theorem Play.crash (h : Play D j) (sv : List Int) : crashD D sv = D := by
  obtain ⟨n, b, p, f, x⟩ := D
  have h1 := h.f; have h2 := h.p; have h3 := h.x
  simp only at h1 h2 h3
  subst h1 h2 h3
  rfl
theorem Play.bytes (h : Play D j) (B : List UInt8) (hB : B.length = 64 * D.n) : ({ D with b := B } : St).ok := ⟨h.ok.n1, h.ok.n2, hB, h.ok.p, h.ok.f1, h.ok.f2⟩

theorem fst_eq (D : St) (t : Nat) : fst D t = t % 2 * half D := rfl
theorem wrB_len {B b : List UInt8} {s nb tt n : Nat} (hB : B.length = 64 * n) (hb : b.length = 64 * nb) (hi : s + nb ≤ tt) (ht : tt ≤ n) : (if s + nb < tt then Dk.splice (Dk.splice B (64 * (s + nb)) zero64) (64 * s) b else Dk.splice B (64 * s) b).length = 64 * n := by
  by_cases hlt : s + nb < tt
  · have h1 : (Dk.splice B (64 * (s + nb)) zero64).length = 64 * n := by rw [splice_len _ _ _ (by rw [zero64_len]; omega), hB]
    rw [if_pos hlt, splice_len _ _ _ (by omega), h1]
  · rw [if_neg hlt, splice_len _ _ _ (by omega), hB]
theorem hb_wr {B b : List UInt8} {k s nb h n : Nat} (hB : B.length = 64 * n) (hn : 2 * h ≤ n) (hk : k < 2) (hb' : b.length = 64 * nb) (hi : s + nb ≤ h) :
    hb (if k * h + s + nb < k * h + h then Dk.splice (Dk.splice B (64 * (k * h + s + nb)) zero64) (64 * (k * h + s)) b else Dk.splice B (64 * (k * h + s)) b) h k =
      (if s + nb < h then Dk.splice (Dk.splice (hb B h k) (64 * (s + nb)) zero64) (64 * s) b else Dk.splice (hb B h k) (64 * s) b) := by
  by_cases hlt : s + nb < h
  · have hkh : k * h ≤ h := by have : k = 0 ∨ k = 1 := by omega
                               rcases this with rfl | rfl <;> omega
    have h1 : (Dk.splice B (64 * (k * h + s + nb)) zero64).length = 64 * n := by rw [splice_len _ _ _ (by rw [zero64_len]; omega), hB]
    rw [if_pos (by omega), if_pos hlt, hb_splice _ _ h k s n h1 hn hk (by omega), show k * h + s + nb = k * h + (s + nb) by omega, hb_splice _ _ h k (s + nb) n hB hn hk (by rw [zero64_len]; omega)]
  · rw [if_neg (by omega), if_neg hlt, hb_splice _ _ h k s n hB hn hk (by omega)]
theorem hb_wr_other {B b : List UInt8} {k k' s nb h n : Nat} (hB : B.length = 64 * n) (hn : 2 * h ≤ n) (hk : k < 2) (hk' : k' < 2) (hne : k ≠ k') (hb' : b.length = 64 * nb) (hi : s + nb ≤ h) :
    hb (if k * h + s + nb < k * h + h then Dk.splice (Dk.splice B (64 * (k * h + s + nb)) zero64) (64 * (k * h + s)) b else Dk.splice B (64 * (k * h + s)) b) h k' = hb B h k' := by
  by_cases hlt : s + nb < h
  · have hkh : k * h ≤ h := by have : k = 0 ∨ k = 1 := by omega
                               rcases this with rfl | rfl <;> omega
    have h1 : (Dk.splice B (64 * (k * h + s + nb)) zero64).length = 64 * n := by rw [splice_len _ _ _ (by rw [zero64_len]; omega), hB]
    rw [if_pos (by omega), hb_other _ _ h k k' s n h1 hn hk hk' hne (by omega), show k * h + s + nb = k * h + (s + nb) by omega, hb_other _ _ h k k' (s + nb) n hB hn hk hk' hne (by rw [zero64_len]; omega)]
  · rw [if_neg (by omega), hb_other _ _ h k k' s n hB hn hk hk' hne (by omega)]

/-- the half of a write's end -/
theorem kh_le (D : St) (t : Nat) : t % 2 * half D + half D ≤ D.n := by
  have : t % 2 = 0 ∨ t % 2 = 1 := by omega
  unfold half
  rcases this with h | h <;> rw [h] <;> omega
theorem Play.append (h : Play D j) (r : List UInt8) (hf : apFull D j r = false) :
    appE D j r = 0 ∧ appJ D j r = { j with rs := j.rs ++ [r], e := j.e + (apB j r).length / 64 } ∧ Play (appD D j r) { j with rs := j.rs ++ [r], e := j.e + (apB j r).length / 64 } ∧ (appD D j r).n = D.n := by
  have hbl := blockL_len j.t (j.rs.length + 1) r
  obtain ⟨nb, hnb⟩ : ∃ nb, (apB j r).length / 64 = nb := ⟨_, rfl⟩
  have hb64 : (apB j r).length = 64 * nb := by have := hbl.1; unfold apB at hnb ⊢; omega
  have hfu : j.e + nb ≤ half D := by unfold apFull at hf; rw [hnb] at hf; simpa using hf
  have hxx : ¬ j.x = true := by rw [h.jx]; simp
  have hff : ¬ apFull D j r = true := by rw [hf]; simp
  have hkl := kh_le D j.t
  have hw : apW D j r = ({ D with b := if fst D j.t + j.e + nb < fst D j.t + half D then Dk.splice (Dk.splice D.b (64 * (fst D j.t + j.e + nb)) zero64) (64 * (fst D j.t + j.e)) (apB j r) else Dk.splice D.b (64 * (fst D j.t + j.e)) (apB j r) }, true) := by
    unfold apW
    have := wrJ_good D (fst D j.t + j.e) (fst D j.t + half D) (apB j r) h.x h.p h.f hbl.1 (by rw [fst_eq]; exact hkl) (by rw [hnb]; omega)
    rw [hnb] at this
    exact this
  have hE : appE D j r = 0 := by unfold appE; rw [if_neg hxx, if_neg hff, hw, if_pos rfl]
  have hJ : appJ D j r = { j with rs := j.rs ++ [r], e := j.e + (apB j r).length / 64 } := by unfold appJ; rw [if_neg hxx, if_neg hff, hw, if_pos rfl]
  have hD : appD D j r = (apW D j r).1 := by unfold appD; rw [if_neg hxx, if_neg hff]
  refine ⟨hE, hJ, ?_, by rw [hD, hw]⟩
  rw [hD, hw, hnb]
  rw [fst_eq] at *
  obtain ⟨rest, hc, hs⟩ := h.cur
  have hn2 := h.n2
  have hcl := hb_len D.b (half D) (j.t % 2) D.n h.ok.b hn2 (by omega)
  obtain ⟨rest', hw', hs'⟩ := write_half (hb D.b (half D) (j.t % 2)) (blockL j.t 0 j.s ++ blocks j.t 1 j.rs) rest (apB j r) j.e nb (half D) hc h.e.symm hcl hb64 hfu
  refine ⟨h.bytes _ (wrB_len h.ok.b hb64 (by omega) hkl), h.x, h.p, h.f, h.h1, h.hn, h.jx, h.t1, h.t2, ⟨rest', ?_, hs'⟩, ?_, ?_⟩
  · show hb _ (half D) (j.t % 2) = _
    simp only
    rw [hb_wr h.ok.b hn2 (by omega) hb64 hfu, hw', blocks_snoc, show 1 + j.rs.length = j.rs.length + 1 by omega]
    unfold apB
    simp only [List.append_assoc]
  · show 64 * (j.e + nb) = (blockL j.t 0 j.s ++ blocks j.t 1 (j.rs ++ [r])).length
    have he := h.e
    rw [blocks_snoc, ← List.append_assoc, List.length_append, ← he, show 1 + j.rs.length = j.rs.length + 1 by omega]
    show _ = 64 * j.e + (apB j r).length
    omega
  · show Old (hb _ (half D) ((j.t + 1) % 2)) j.t
    simp only
    rw [hb_wr_other h.ok.b hn2 (by omega) (by omega) (by omega) hb64 hfu]
    exact h.old
theorem Play.checkpoint (h : Play D j) (s : List UInt8) (hf : ckFull D j s = false) :
    chkE D j s = 0 ∧ chkJ D j s = ⟨j.t + 1, s, [], (ckB j s).length / 64, false⟩ ∧ Play (chkD D j s) ⟨j.t + 1, s, [], (ckB j s).length / 64, false⟩ ∧ (chkD D j s).n = D.n := by
  have hbl := blockL_len (j.t + 1) 0 s
  obtain ⟨nb, hnb⟩ : ∃ nb, (ckB j s).length / 64 = nb := ⟨_, rfl⟩
  have hb64 : (ckB j s).length = 64 * nb := by have := hbl.1; unfold ckB at hnb ⊢; omega
  have hfu : nb ≤ half D ∧ j.t < 1099511627776 := by
    unfold ckFull at hf; rw [hnb] at hf
    simp only [Bool.or_eq_false_iff, decide_eq_false_iff_not] at hf
    omega
  have hxx : ¬ j.x = true := by rw [h.jx]; simp
  have hff : ¬ ckFull D j s = true := by rw [hf]; simp
  have hkl := kh_le D (j.t + 1)
  have hw : ckW D j s = ({ D with b := if fst D (j.t + 1) + 0 + nb < fst D (j.t + 1) + half D then Dk.splice (Dk.splice D.b (64 * (fst D (j.t + 1) + 0 + nb)) zero64) (64 * (fst D (j.t + 1) + 0)) (ckB j s) else Dk.splice D.b (64 * (fst D (j.t + 1) + 0)) (ckB j s) }, true) := by
    unfold ckW
    have := wrJ_good D (fst D (j.t + 1)) (fst D (j.t + 1) + half D) (ckB j s) h.x h.p h.f hbl.1 (by rw [fst_eq]; exact hkl) (by rw [hnb]; omega)
    rw [hnb] at this
    exact this
  have hE : chkE D j s = 0 := by unfold chkE; rw [if_neg hxx, if_neg hff, hw, if_pos rfl]
  have hJ : chkJ D j s = ⟨j.t + 1, s, [], (ckB j s).length / 64, false⟩ := by unfold chkJ; rw [if_neg hxx, if_neg hff, hw, if_pos rfl]
  have hD : chkD D j s = (ckW D j s).1 := by unfold chkD; rw [if_neg hxx, if_neg hff]
  refine ⟨hE, hJ, ?_, by rw [hD, hw]⟩
  rw [hD, hw, hnb]
  rw [fst_eq] at *
  have hn2 := h.n2
  have hcl := hb_len D.b (half D) ((j.t + 1) % 2) D.n h.ok.b hn2 (by omega)
  obtain ⟨rest', hw', hs'⟩ := write_half (hb D.b (half D) ((j.t + 1) % 2)) [] (hb D.b (half D) ((j.t + 1) % 2)) (ckB j s) 0 nb (half D) rfl rfl hcl hb64 (by omega)
  have hjok := h.jok
  have hh : half D ≤ 50 := by have := h.hn; unfold half; omega
  refine ⟨h.bytes _ (wrB_len h.ok.b hb64 (by omega) hkl), h.x, h.p, h.f, h.h1, h.hn, rfl, by show 1 ≤ j.t + 1; omega, hfu.2, ⟨rest', ?_, hs'⟩, ?_, ?_⟩
  · show hb _ (half D) ((j.t + 1) % 2) = _
    simp only
    rw [hb_wr h.ok.b hn2 (by omega) hb64 (by omega), hw']
    show [] ++ (blockL (j.t + 1) 0 s ++ rest') = (blockL (j.t + 1) 0 s ++ []) ++ rest'
    simp
  · show 64 * nb = (blockL (j.t + 1) 0 s ++ []).length
    rw [List.append_nil]
    exact hb64.symm
  · show Old (hb _ (half D) ((j.t + 1 + 1) % 2)) (j.t + 1)
    simp only
    rw [hb_wr_other h.ok.b hn2 (by omega) (by omega) (by omega) hb64 (by omega), show (j.t + 1 + 1) % 2 = j.t % 2 by omega]
    obtain ⟨rest, hc, _⟩ := h.cur
    exact .inr ⟨j.t, j.s, blocks j.t 1 j.rs ++ rest, by omega, h.t1, by have := hjok.s; omega, by rw [hc, List.append_assoc]⟩
end
/-- a new journal -/
theorem zeros_app (n : Nat) (h : 1 ≤ n) : List.replicate (64 * n) (0 : UInt8) = zero64 ++ List.replicate (64 * n - 64) 0 := by
  unfold zero64
  rw [List.replicate_append_replicate]
  congr 1; omega
theorem Play.new (n : Nat) (h2 : 2 ≤ n) (hn : n ≤ 100) : openJ (newD n) = some newJ ∧ Play (openD (newD n)) newJ ∧ (openD (newD n)).n = n := by
  have hok := newD_ok n (by omega) (by omega)
  have hh : half (newD n) = n / 2 := rfl
  have hz : ∀ k, k < 2 → hb (newD n).b (half (newD n)) k = List.replicate (64 * (n / 2)) 0 := fun k hk => by
    have : k = 0 ∨ k = 1 := by omega
    unfold hb newD half
    simp only
    rw [List.drop_replicate, List.take_replicate]
    congr 1
    rcases this with rfl | rfl <;> omega
  have hld : ∀ k, k < 2 → loadD (newD n) k = none := fun k hk => by
    have hl : halfL (newD n) k = hb (newD n).b (half (newD n)) k := halfL_hb (D := newD n) (f := -1) rfl k
    unfold loadD first0
    rw [hl, hz k hk, zeros_app _ (by omega), parse_zero]
    rfl
  have hb : best (loadD (newD n) 0) (loadD (newD n) 1) = none := by rw [hld 0 (by omega), hld 1 (by omega)]; rfl
  have h0 : ¬ half (newD n) = 0 := by rw [hh]; omega
  have hx : ¬ (newD n).x = true := by simp [newD]
  have hbl := blk0_len
  have hw : openR (newD n) = ({ newD n with b := if 1 * half (newD n) + 0 + 1 < 1 * half (newD n) + half (newD n) then Dk.splice (Dk.splice (newD n).b (64 * (1 * half (newD n) + 0 + 1)) zero64) (64 * (1 * half (newD n) + 0)) (blockL 1 0 []) else Dk.splice (newD n).b (64 * (1 * half (newD n) + 0)) (blockL 1 0 []) }, true) := by
    unfold openR
    have := wrJ_good (newD n) (half (newD n)) (2 * half (newD n)) (blockL 1 0 []) rfl rfl rfl (by rw [hbl]) (by rw [hh]; show 2 * (n / 2) ≤ n; omega) (by rw [hbl, hh]; omega)
    rw [hbl] at this
    rw [this]
    rw [show 1 * half (newD n) + 0 = half (newD n) by omega, show 1 * half (newD n) + half (newD n) = 2 * half (newD n) by omega]
  have hj : openJ (newD n) = some newJ := by unfold openJ; rw [if_neg h0, if_neg hx, hb, hw]; rfl
  have hd : openD (newD n) = (openR (newD n)).1 := by unfold openD; rw [if_neg h0, if_neg hx, hb]
  have hB := hok.b
  have hn2 : 2 * half (newD n) ≤ (newD n).n := by rw [hh]; show _ ≤ n; omega
  have hcl := hb_len (newD n).b (half (newD n)) 1 (newD n).n hB hn2 (by omega)
  obtain ⟨rest', hw', hs'⟩ := write_half (Jn.hb (newD n).b (half (newD n)) 1) [] (Jn.hb (newD n).b (half (newD n)) 1) (blockL 1 0 []) 0 1 (half (newD n)) rfl rfl hcl hbl (by rw [hh]; omega)
  refine ⟨hj, ?_, by rw [hd, hw]; rfl⟩
  rw [hd, hw]
  refine ⟨⟨hok.n1, hok.n2, wrB_len hB hbl (by rw [hh]; omega) (by rw [hh]; show _ ≤ n; omega), hok.p, hok.f1, hok.f2⟩, rfl, rfl, rfl, by show 1 ≤ n / 2; omega, hn, rfl, by decide, by decide, ⟨rest', ?_, hs'⟩, ?_, ?_⟩
  · show Jn.hb _ (half (newD n)) 1 = _
    simp only
    rw [hb_wr hB hn2 (by omega) hbl (by rw [hh]; omega), hw']
    show [] ++ (blockL 1 0 [] ++ rest') = (blockL 1 0 [] ++ []) ++ rest'
    simp
  · show 64 * 1 = (blockL 1 0 [] ++ []).length
    rw [List.append_nil, hbl]
  · show Old (Jn.hb _ (half (newD n)) 0) 1
    simp only
    rw [hb_wr_other hB hn2 (by omega) (by omega) (by omega) hbl (by rw [hh]; omega), hz 0 (by omega), zeros_app _ (by omega)]
    exact .inl ⟨_, rfl⟩
end Jn
end Go.Proofs.Ytmdpmpfjldgalaa

/- Operations in memory; the walks of the law's few and start. -/
namespace Go.Proofs.Ytmdpmpfjldgalaa
open Go.RowKit
namespace Jn
open Dk Wi Wr

/-- an operation in memory -/
structure Om where
  kd : UInt8
  a : Option Addr
  c : Nat
  d : List UInt8
  nn : Int
  z : Option Addr
  zc : Nat
  sv : List Int
def Om.cells (m : Om) : List Value := [vb m.kd, .slice m.a m.d.length m.c, .int .i64 m.nn, .slice m.z m.sv.length m.zc]
structure Om.ok (w : World) (m : Om) : Prop where
  rd : RB w m.a m.d
  rz : Rd w m.z (m.sv.map (Value.int .i64))
  n1 : -9223372036854775808 ≤ m.nn
  n2 : m.nn ≤ 9223372036854775807
  dl : m.d.length ≤ 9223372036854775807
  zl : m.sv.length ≤ 9223372036854775807
theorem Om.ok.below {w w' : World} {m : Om} (h : m.ok w) (hb : Below w.heap.size w w') : m.ok w' := ⟨RB.below h.rd hb, Rd.below h.rz hb, h.n1, h.n2, h.dl, h.zl⟩
/-- a slice of operations reads -/
structure RdO (w : World) (A : Option Addr) (ms : List Om) : Prop where
  rd : Rd w A (ms.map Om.cells).flatten
  ok : ∀ m ∈ ms, m.ok w
theorem RdO.below {w w' : World} {A : Option Addr} {ms : List Om} (h : RdO w A ms) (hb : Below w.heap.size w w') : RdO w' A ms := ⟨Rd.below h.rd hb, fun m hm => (h.ok m hm).below hb⟩
theorem oflat_get (cs : List Om) (i j : Nat) (hi : i < cs.length) (hj : j < 4) : (cs.map Om.cells).flatten[i * 4 + j]? = (cs[i].cells)[j]? := by
  induction cs generalizing i with
  | nil => simp at hi
  | cons c cs ih =>
    rw [List.map_cons, List.flatten_cons]
    have hl : c.cells.length = 4 := rfl
    cases i with
    | zero => rw [List.getElem?_append_left (by omega)]; simp
    | succ i =>
      rw [List.getElem?_append_right (by omega), show (i + 1) * 4 + j - c.cells.length = i * 4 + j by omega, ih i (by simpa using hi)]
      rfl
theorem RdO.cells {w : World} {A : Option Addr} {ms : List Om} (h : RdO w A ms) (i : Nat) (hi : i < ms.length) : ∃ b off, A = some ⟨b, off, none⟩ ∧ b < w.heap.size ∧
    w.cell? ⟨b, off + i * 4, none⟩ = some (vb ms[i].kd) ∧ w.cell? ⟨b, off + i * 4 + 1, none⟩ = some (.slice ms[i].a ms[i].d.length ms[i].c) ∧ w.cell? ⟨b, off + i * 4 + 2, none⟩ = some (.int .i64 ms[i].nn) ∧
    w.cell? ⟨b, off + i * 4 + 3, none⟩ = some (.slice ms[i].z ms[i].sv.length ms[i].zc) := by
  obtain ⟨b, off, e, h0⟩ := h.rd (i * 4) _ (oflat_get ms i 0 hi (by omega))
  refine ⟨b, off, e, block_lt_of_cell h0, h0, ?_, ?_, ?_⟩
  · obtain ⟨b', off', e', h1⟩ := h.rd (i * 4 + 1) _ (oflat_get ms i 1 hi (by omega))
    rw [e] at e'; cases e'; rw [Nat.add_assoc]; exact h1
  · obtain ⟨b', off', e', h1⟩ := h.rd (i * 4 + 2) _ (oflat_get ms i 2 hi (by omega))
    rw [e] at e'; cases e'; rw [Nat.add_assoc]; exact h1
  · obtain ⟨b', off', e', h1⟩ := h.rd (i * 4 + 3) _ (oflat_get ms i 3 hi (by omega))
    rw [e] at e'; cases e'; rw [Nat.add_assoc]; exact h1

/-- few and short -/
def fewO (ms : List Om) (most : Nat) : Bool := ms.all (fun m => decide (m.d.length ≤ 400) && decide (m.sv.length ≤ 10)) && decide (ms.length ≤ most)
theorem fewO_of {ms : List Om} {most : Nat} (h : fewO ms most = true) : (∀ m ∈ ms, m.d.length ≤ 400 ∧ m.sv.length ≤ 10) ∧ ms.length ≤ most := by
  unfold fewO at h
  simpa using h
set_option maxRecDepth 100000 in
set_option maxHeartbeats 1000000 in
theorem ofew_calls (A : Option Addr) (n ca most : Nat) (ms : List Om) (w : World) (hn : ms.length = n) (hr : RdO w A ms) (hnm : n ≤ 9223372036854775807) :
    Calls Try.prog 10 #[.slice A n ca, .int .i64 (most : Int)] w fun e w' => e = .returned (.bool (fewO ms most)) ∧ Below w.heap.size w w' := by
  have HN := Lib.hid hn
  have HR := Lib.hid hr
  clear hn hr
  go_enter Try.func10, Try.ntmps10
  go_wp2_with fail
  go_loopw [9] (fun i wr => ∃ k : Nat, k ≤ n ∧ i = .int .i64 k ∧ Below w.heap.size w wr ∧ ∀ m ∈ ms.take k, m.d.length ≤ 400 ∧ m.sv.length ≤ 10) (fun i _ => n - (intOf i).toNat)
  case atStart => exact ⟨0, by omega, rfl, Below.refl _ _, by simp⟩
  case round =>
    obtain ⟨k, hk, rfl, hb, hall⟩ := hrel
    have HA := Lib.hid hall
    have HB := Lib.hid hb
    clear hall hb
    have j0 : (0 : Int) ≤ (k : Int) := by omega
    by_cases hlt : k < n
    · have j1 : (k : Int) < (n : Int) := by omega
      have hkl : k < ms.length := by have := HN.out; omega
      obtain ⟨b, off, rfl, _, x0, x1, x2, x3⟩ := (HR.out.below HB.out).cells k hkl
      have hok := HR.out.ok _ (List.getElem_mem hkl)
      have hdl := hok.dl
      have hzl := hok.zl
      have HTK : Hid (∀ x ∈ ms.take (k + 1), x ∈ ms.take k ∨ x = ms[k]) := by
        intro x hx
        rw [List.take_succ_eq_append_getElem hkl, List.mem_append] at hx
        simpa using hx
      have HME : Hid (ms[k] ∈ ms) := List.getElem_mem hkl
      clear hok
      generalize ms[k] = m at *
      obtain ⟨kd, a, c, d, nn, z, zc, sv⟩ := m
      simp only at *
      obtain ⟨dl, HDL⟩ : ∃ y, Hid (d.length = y) := ⟨_, rfl⟩
      obtain ⟨zl, HZL⟩ : ∃ y, Hid (sv.length = y) := ⟨_, rfl⟩
      rw [HDL.out] at x1 hdl
      rw [HZL.out] at x3 hzl
      have HBN := Lib.hid (HB.out.trans ((below1 wr (.cells #[vb kd, .slice a dl c, .int .i64 nn, .slice z zl zc] 32)).mono HB.out.size))
      unfold vb at x0 HBN
      by_cases h4 : dl ≤ 400
      · have d1 : decide ((400 : Int) < (dl : Int)) = false := by simp; omega
        by_cases h10 : zl ≤ 10
        · have d2 : decide ((10 : Int) < (zl : Int)) = false := by simp; omega
          have HA2 : Hid (∀ m ∈ ms.take (k + 1), m.d.length ≤ 400 ∧ m.sv.length ≤ 10) := by
            intro x hx
            rcases HTK.out x hx with hx | rfl
            · exact HA.out x hx
            · exact ⟨by show d.length ≤ _; rw [HDL.out]; exact h4, by show sv.length ≤ _; rw [HZL.out]; exact h10⟩
          clear h4 h10
          go_wp2_with fail
          go_roundw
          case rel => exact ⟨k + 1, by omega, by go_num, HBN.out, HA2.out⟩
          case measure => simp [intOf]; omega
        · have d2 : decide ((10 : Int) < (zl : Int)) = true := by simp; omega
          have HF : Hid (fewO ms most = false) := by
            cases hf : fewO ms most
            · rfl
            · have := ((fewO_of hf).1 _ HME.out).2
              rw [show ({ kd := kd, a := a, c := c, d := d, nn := nn, z := z, zc := zc, sv := sv } : Om).sv = sv from rfl, HZL.out] at this
              exact absurd this h10
          clear h4 h10
          go_wp2_with fail
          go_ret
          exact ⟨by rw [HF.out]; rfl, HBN.out⟩
      · have d1 : decide ((400 : Int) < (dl : Int)) = true := by simp; omega
        have HF : Hid (fewO ms most = false) := by
          cases hf : fewO ms most
          · rfl
          · have := ((fewO_of hf).1 _ HME.out).1
            rw [show ({ kd := kd, a := a, c := c, d := d, nn := nn, z := z, zc := zc, sv := sv } : Om).d = d from rfl, HDL.out] at this
            exact absurd this h4
        clear h4
        go_wp2_with fail
        go_ret
        exact ⟨by rw [HF.out]; rfl, HBN.out⟩
    · have HF : Hid (fewO ms most = decide (n ≤ most)) := by
        show _ = _
        have h1 := HA.out
        rw [List.take_of_length_le (by have := HN.out; omega)] at h1
        unfold fewO
        rw [HN.out, show (ms.all fun m => decide (m.d.length ≤ 400) && decide (m.sv.length ≤ 10)) = true by simpa using h1, Bool.true_and]
      go_wp2_with fail
      go_ret
      exact ⟨by rw [HF.out]; rfl, HB.out⟩

/-- what start leaves -/
def StartP (w : World) (n : Nat) (e : Ending) (w' : World) : Prop :=
  ∃ x, e = .returned (.tuple #[.pointer (some ⟨x, 0, none⟩), .bool true]) ∧ Bo w [] x (openD (newD n)) (openJ (newD n)) ((openJ (newD n)).getD j0) w'
theorem calm_new (n : Nat) (h1 : 1 ≤ n) (h2 : n ≤ 65536) : Calm (newD n) := ⟨newD_ok n h1 h2, fun _ => rfl, by simp [newD]⟩
set_option maxRecDepth 100000 in
set_option maxHeartbeats 2000000 in
theorem start_calls (n : Nat) (w : World) (h1 : 1 ≤ n) (h2 : n ≤ 100) : Calls Try.prog 12 #[.int .i64 (n : Int)] w (StartP w n) := by
  have HNC := Lib.hid (new_calls (n : Int) w)
  have hcm := Lib.hid (calm_new n h1 (by omega))
  have HON : Hid ((openD (newD n)).n ≤ 100) := by show _ ≤ _; rw [openD_n]; exact h2
  go_enter Try.func12, Try.ntmps12
  go_wp2_with fail
  (with_reducible refine HNC.out.mono ?_)
  rintro e w1 (⟨hbad, _⟩ | ⟨_, _, g, M, rfl, hd, hM, hb1⟩)
  · exact absurd hbad (by omega)
  rw [Int.toNat_natCast] at hd
  have HD := Lib.hid hd
  have HM := Lib.hid hM
  have HB1 := Lib.hid hb1
  have HRN := Lib.hid (rnew_calls n w1 h1 (by omega))
  clear hd hM hb1 HNC
  go_wp2_with fail
  (with_reducible refine HRN.out.mono ?_)
  rintro e w2 ⟨v, N, rfl, ⟨A, ca, X, cx, P, rfl, hk⟩, hb2, hn⟩
  have HK := Lib.hid hk
  have HB2 := Lib.hid hb2
  have HN := Lib.hid hn
  unfold kval id
  simp only
  clear hk hb2 hn HRN
  have hbo : Bo w [] w2.heap.size (newD n) none j0 (w2.alloc (.cells (bocells g none (newD n) A ca X P.length cx j0 none 0 none 0 0) 49)) := by
    have hb3 := below1 w2 (.cells (bocells g none (newD n) A ca X P.length cx j0 none 0 none 0 0) 49)
    have hn3 := heap_alloc_new w2 (.cells (bocells g none (newD n) A ca X P.length cx j0 none 0 none 0 0) 49)
    have hs1 := HB1.out.size
    have hs2 := HB2.out.size
    have hNl : ∀ y ∈ N, w1.heap.size ≤ y := fun y hy => by rcases HN.out y hy with h | h; cases h; exact h
    have hO1 : OwnF w [] g (newD n) w1 := ⟨M, [], HD.out, HM.out, HB1.out, by simp⟩
    refine ⟨g, none, N, A, ca, X, cx, P, none, 0, none, 0, [], hn3, ⟨HK.out.below hb3, ⟨RB.nil, Nat.le_refl _, Nat.zero_le _, fun hp => by simp [j0] at hp⟩, ⟨Rd.nil, Nat.le_refl _, Nat.zero_le _, fun hp => by simp at hp, fun m hm => by cases hm⟩, rfl⟩, fun hx => (by have := HK.out.nl _ hx; omega), by omega, by simp, .inl ⟨rfl, rfl, hO1.grow (HB2.out.trans (hb3.mono hs2)) (fun y hy => ?_)⟩⟩
    simp only [List.append_nil, List.mem_cons] at hy
    have h3 : (w2.alloc (.cells (bocells g none (newD n) A ca X P.length cx j0 none 0 none 0 0) 49)).heap.size = w2.heap.size + 1 := by simp
    rcases hy with rfl | hy
    · exact .inr ⟨hs2, by omega⟩
    · exact .inr ⟨hNl y hy, by have := HK.out.nl y hy; omega⟩
  have HBO := Lib.hid hbo
  unfold bocells at HBO
  rw [show jptr none = .pointer none from rfl, show (j0.t : Int) = 0 from rfl, show j0.s.length = 0 from rfl, show (j0.e : Int) = 0 from rfl, show j0.x = false from rfl] at HBO
  clear hbo
  go_upto_region 5 with (fail)
  obtain ⟨xb, HXB⟩ : ∃ y, Hid (w2.heap.size = y) := ⟨_, rfl⟩
  rw [HXB.out] at HBO ⊢
  generalize w2.alloc (.cells #[.pointer (some ⟨g, 0, none⟩), .pointer none, .slice A (64 * (newD n).n) ca, .slice X P.length cx, .bool (newD n).x, .int .i64 (newD n).f, .int .i64 0, .slice none 0 0, .slice none 0 0, .int .i64 0, .bool false] 49) = w3 at *
  have HOPN := Lib.hid (bopen_calls w w3 [] xb (newD n) none j0 HBO.out hcm.out h2)
  clear HBO HK HB2 HN
  go_wp2_with fail
  (with_reducible refine HOPN.out.mono ?_)
  rintro e w4 ⟨rfl, hbo, _⟩
  have HBO := Lib.hid hbo
  have HSAME := Lib.hid (bsame_calls w w4 [] xb (openD (newD n)) (openJ (newD n)) ((openJ (newD n)).getD j0) hbo (fun j h => by rw [h]; rfl) HON.out)
  clear hbo HOPN
  go_wp2_with fail
  (with_reducible refine HSAME.out.mono ?_)
  rintro e w5 ⟨rfl, hb5⟩
  have HF : Hid (StartP w n (.returned (.tuple #[.pointer (some ⟨xb, 0, none⟩), .bool true])) w5) := ⟨xb, rfl, Bo2.below HBO.out hb5⟩
  clear hb5 HSAME HBO
  go_wp2_with fail
  go_ret2
  exact HF.out
end Jn
end Go.Proofs.Ytmdpmpfjldgalaa

/- The walk of the law's awake. -/
namespace Go.Proofs.Ytmdpmpfjldgalaa
open Go.RowKit
namespace Jn
open Dk Wi Wr

theorem blk_small (t i : Nat) (d : List UInt8) (h : d.length ≤ 28) : (blockL t i d).length = 64 := by
  have := blockL_len t i d; omega
def D8 : St := openD (newD 8)
def D8a : St := appD D8 newJ [97]
def j8a : Jr := { newJ with rs := [[97]], e := 2 }
def D8b : St := chkD D8a j8a []
def j8b : Jr := ⟨2, [], [], 1, false⟩
theorem play8 : Play D8 newJ := (Play.new 8 (by omega) (by omega)).2.1
theorem half8 : half D8 = 4 := by unfold D8; rw [openD_half]; rfl
theorem app8 : appE D8 newJ [97] = 0 ∧ appJ D8 newJ [97] = j8a ∧ Play D8a j8a ∧ half D8a = 4 := by
  have hb : (apB newJ [97]).length = 64 := blk_small _ _ _ (by simp)
  have hf : apFull D8 newJ [97] = false := by unfold apFull; rw [hb, half8]; rfl
  obtain ⟨h1, h2, h3, h4⟩ := play8.append [97] hf
  rw [hb] at h2 h3
  exact ⟨h1, h2, h3, by unfold D8a; rw [appD_half, half8]⟩
theorem chk8 : chkE D8a j8a [] = 0 ∧ chkJ D8a j8a [] = j8b ∧ Play D8b j8b ∧ half D8b = 4 := by
  obtain ⟨_, _, h, hh⟩ := app8
  have hb : (ckB j8a []).length = 64 := blk_small _ _ _ (by simp)
  have hf : ckFull D8a j8a [] = false := by unfold ckFull; rw [hb, hh]; rfl
  obtain ⟨h1, h2, h3, h4⟩ := h.checkpoint [] hf
  rw [hb] at h2 h3
  exact ⟨h1, h2, h3, by unfold D8b; rw [chkD_half, hh]⟩

section
variable {w0 w : World} {F : List Nat} {g q : Nat} {D : St} {j : Jr}
theorem jo_turn (h : JO w0 F g q D j w) : Calls Try.prog 35 #[.pointer (some ⟨q, 0, none⟩)] w fun e w' => e = .returned (.int .i64 (j.t : Int)) ∧ w = w' := by
  obtain ⟨W, R, _, hi, _⟩ := h; exact turn_calls hi
theorem jo_room (h : JO w0 F g q D j w) (hn : D.n ≤ 100) : Calls Try.prog 25 #[.pointer (some ⟨q, 0, none⟩)] w fun e w' => e = .returned (.int .i64 ((half D - j.e : Nat) : Int)) ∧ Below w.heap.size w w' := by
  obtain ⟨W, R, ho, hi, _⟩ := h; exact room_calls hi ho hn
theorem jo_seen (h : JO w0 F g q D j w) (hn : D.n ≤ 100) : Calls Try.prog 24 #[.pointer (some ⟨q, 0, none⟩)] w (SeenP w j.t j.s j.rs) := by
  obtain ⟨W, R, ho, hi, _⟩ := h; exact seen_calls w hi (by unfold half; omega)
theorem JO.sub {F' : List Nat} (h : JO w0 F g q D j w) (hs : ∀ y ∈ F', y ∈ F) : JO w0 F' g q D j w := h.grow (Below.refl _ _) (fun y hy => .inl (hs y hy))
end

set_option maxRecDepth 100000 in
set_option maxHeartbeats 4000000 in
theorem oawake_calls (w : World) : Calls Try.prog 11 #[] w fun e w' => e = .returned (.bool true) ∧ Below w.heap.size w w' := by
  have HST := Lib.hid (start_calls 8 w (by omega) (by omega))
  rw [show ((8 : Nat) : Int) = 8 from rfl] at HST
  go_enter Try.func11, Try.ntmps11
  go_wp2_with fail
  (with_reducible refine HST.out.mono ?_)
  rintro e w1 ⟨x, rfl, hbo⟩
  obtain ⟨o1, o2, o3⟩ := Play.new 8 (by omega) (by omega)
  rw [o1] at hbo
  obtain ⟨g, p, N, A, ca, X, cx, P, sa, sc, ra, rc, ms, h⟩ := hbo
  obtain ⟨q, HQQ, HJ1⟩ : ∃ q, p = some q ∧ Hid (JO w (x :: (N ++ [])) g q D8 newJ w1) := by
    rcases h.dj with ⟨h1, _⟩ | ⟨j', q, h1, h2, h3⟩
    · cases h1
    · injection h1 with h1; subst h1; exact ⟨q, h2, h3⟩
  subst HQQ
  have HHX := Lib.hid h.hd
  have HBW := Lib.hid h.dj.own.b
  have hxl := h.lt
  have hx1 : w1.cell? ⟨x, 1, none⟩ = some (.pointer (some ⟨q, 0, none⟩)) := (cell_of_row _ _ 1 _ _ _ HHX.out).trans rfl
  have hn8 : D8.n ≤ 100 := by have := o3; show (openD (newD 8)).n ≤ 100; omega
  clear o1 o2 o3 h HST
  have c1 : ∀ u, Below w1.heap.size w1 u → u.cell? ⟨x, 1, none⟩ = some (.pointer (some ⟨q, 0, none⟩)) := fun u hu => (hu.cell (p := ⟨x, 1, none⟩) hxl).trans hx1
  have HR1 : ∀ u, Below w1.heap.size w1 u → Hid (Calls Try.prog 25 #[.pointer (some ⟨q, 0, none⟩)] u fun e w' => e = .returned (.int .i64 3) ∧ Below w1.heap.size w1 w') := fun u hu => by
    refine (jo_room (HJ1.out.below hu) hn8).mono ?_
    rintro e w' ⟨rfl, hb⟩
    exact ⟨by rw [half8]; rfl, hu.trans (hb.mono hu.size)⟩
  have HT1 : ∀ u, Below w1.heap.size w1 u → Hid (Calls Try.prog 35 #[.pointer (some ⟨q, 0, none⟩)] u fun e w' => e = .returned (.int .i64 1) ∧ Below w1.heap.size w1 w') := fun u hu => by
    refine (jo_turn (HJ1.out.below hu)).mono ?_
    rintro e w' ⟨rfl, rfl⟩
    exact ⟨rfl, hu⟩
  go_upto_region 4 with (fail)
  go_region_held3 (fun w' => Below w1.heap.size w1 w') (first | exact (Below.refl _ _).drew | assumption) (first | (go_at_call 25; (with_reducible refine (HR1 _ (by assumption)).out.mono ?_); rintro e w2 ⟨rfl, hb2⟩) | (go_at_call 35; (with_reducible refine (HT1 _ (by assumption)).out.mono ?_); rintro e w3 ⟨rfl, hb3⟩))
  have HB3 : Below w1.heap.size w1 w3 := hb3
  have HJ3 := Lib.hid (HJ1.out.below HB3)
  have c3 := c1 w3 HB3
  have HW3 := Lib.hid (HBW.out.trans (HB3.mono HBW.out.size))
  have hx3 : x < w3.heap.size := Nat.lt_of_lt_of_le hxl HB3.size
  have hb4 := below1 w3 (.cells #[.int .u8 97] 5 (1, 2))
  have hr4 : RB (w3.alloc (.cells #[.int .u8 97] 5 (1, 2))) (some ⟨w3.heap.size, 0, none⟩) [97] := Rd.new w3 [vb 97] 5 (1, 2)
  have hs4 : (w3.alloc (.cells #[.int .u8 97] 5 (1, 2))).heap.size = w3.heap.size + 1 := by simp
  have HJ4 := Lib.hid (HJ3.out.grow (F' := w3.heap.size :: (x :: (N ++ []))) hb4 (fun y hy => by
    simp only [List.mem_cons] at hy
    rcases hy with rfl | hy
    · exact .inr ⟨Nat.le_refl _, by omega⟩
    · exact .inl (by simpa using hy)))
  have HC8 : Hid (Calm D8) := play8.calm
  have HAP := append_calls w _ _ g q D8 newJ (some ⟨w3.heap.size, 0, none⟩) 1 1 [97] HJ4.out rfl (by omega) (fun w' hk _ => hk.rd hr4 (fun _ b off e => by injection e with e; injection e with e; subst e; simp)) hn8 HC8.out
  obtain ⟨e1, e2, hp8, hh8⟩ := app8
  rw [show appD D8 newJ [97] = D8a from rfl, e1, e2] at HAP
  have HAPP := Lib.hid HAP
  have hn8a : D8a.n ≤ 100 := by have h := appD_n D8 newJ [97]; show (appD D8 newJ [97]).n ≤ 100; omega
  have HP8 := Lib.hid hp8
  have HH8 := Lib.hid hh8
  clear HAP e1 e2 hp8 hh8 c1 HR1 HT1 hb2 hb3 hr4 hx1 HHX
  have kc := fun (w : World) (C : Array Value) (n c : Nat) => Lib.run_convert_bytes_const (P := Try.prog) w 29 5 C n c Try.underlying29 Try.underlying5
  have c4 : (w3.alloc (.cells #[.int .u8 97] 5 (1, 2))).cell? ⟨x, 1, none⟩ = some (.pointer (some ⟨q, 0, none⟩)) := (World.cell?_alloc_lt w3 _ ⟨x, 1, none⟩ hx3).trans c3
  have HC4 := Lib.hid c4
  go_wp2_with fail
  (with_reducible refine HAPP.out.mono ?_)
  rintro e w5 ⟨rfl, hj5, hk5⟩
  have HJ5 := Lib.hid hj5
  have c5 : w5.cell? ⟨x, 1, none⟩ = some (.pointer (some ⟨q, 0, none⟩)) := (World.cell?_of_block (a := ⟨x, 1, none⟩) (hk5 x (by simp))).trans HC4.out
  have HRM := jo_room hj5 hn8a
  rw [HH8.out, show ((4 - j8a.e : Nat) : Int) = 2 from rfl] at HRM
  have HRMM := Lib.hid HRM
  clear hj5 hk5 HRM c3 c4 HAPP HJ4 hb4 hs4
  go_wp2_with fail
  (with_reducible refine HRMM.out.mono ?_)
  rintro e w6 ⟨rfl, hb6⟩
  have hx5 : x < w5.heap.size := block_lt_of_cell c5
  have c6 : w6.cell? ⟨x, 1, none⟩ = some (.pointer (some ⟨q, 0, none⟩)) := (hb6.cell (p := ⟨x, 1, none⟩) hx5).trans c5
  have HC6 := Lib.hid c6
  have HCK := checkpoint_calls w w6 _ g q D8a j8a none 0 0 [] (HJ5.out.below hb6) rfl (by omega) (fun w' _ _ => RB.nil) hn8a HP8.out.calm
  obtain ⟨e1, e2, hp8, hh8⟩ := chk8
  rw [show chkD D8a j8a [] = D8b from rfl, e1, e2] at HCK
  have HCKK := Lib.hid HCK
  have hn8b : D8b.n ≤ 100 := by have h := chkD_n D8a j8a []; show (chkD D8a j8a []).n ≤ 100; omega
  have HH9 := Lib.hid hh8
  clear HCK e1 e2 hp8 hh8 hb6 c5 HRMM
  go_wp2_with fail
  (with_reducible refine HCKK.out.mono ?_)
  rintro e w7 ⟨rfl, hj7, hk7⟩
  have HJ7 := Lib.hid hj7
  have c7 : w7.cell? ⟨x, 1, none⟩ = some (.pointer (some ⟨q, 0, none⟩)) := (World.cell?_of_block (a := ⟨x, 1, none⟩) (hk7 x (by simp))).trans HC6.out
  have HTT := jo_turn hj7
  rw [show (j8b.t : Int) = 2 from rfl] at HTT
  have HTTT := Lib.hid HTT
  have HRM := jo_room hj7 hn8b
  rw [HH9.out, show ((4 - j8b.e : Nat) : Int) = 3 from rfl] at HRM
  have HRMM := Lib.hid HRM
  clear hj7 hk7 HTT HRM c6 HCKK
  go_wp2_with fail
  (with_reducible refine HTTT.out.mono ?_)
  rintro e w8 ⟨rfl, rfl⟩
  go_wp2_with fail
  (with_reducible refine HRMM.out.mono ?_)
  rintro e w8 ⟨rfl, hb8⟩
  have HF : Hid (Below w.heap.size w w8) := HJ7.out.own.b.trans (hb8.mono HJ7.out.own.b.size)
  clear hb8 c7
  go_wp2_with fail
  go_ret
  exact ⟨rfl, HF.out⟩
end Jn
end Go.Proofs.Ytmdpmpfjldgalaa
