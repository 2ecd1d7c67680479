/- What the variables of JournalTorn hold; the plain law. -/
import Derived.Test.YtmdpmpfjldgalaaMJoJ
namespace Go.Proofs.Ytmdpmpfjldgalaa
open Go.RowKit
namespace Jn
open Dk Wi Wr

theorem info_op : (Try.prog.info? 32).map (fun i => (i.zero, i.size, i.bytes)) = some (some (.agg #[.int .u8 0, .slice none 0 0, .int .i64 0, .slice none 0 0]), 4, 64) := by kernel_rfl
/-- after a crash a journal opens -/
theorem open_crash (D : St) (sv : List Int) (h1 : 1 ≤ half D) : ∃ j, openJ (crashD D sv) = some j := by
  have hh : half (crashD D sv) = half D := rfl
  unfold openJ
  rw [if_neg (by rw [hh]; omega), if_neg (by show ¬ false = true; simp)]
  cases best (loadD (crashD D sv) 0) (loadD (crashD D sv) 1) with
  | some j => exact ⟨j, rfl⟩
  | none =>
    have hl : (blockL 1 0 []).length = 64 := by have := blockL_len 1 0 []; simp at this; omega
    have hn : half (crashD D sv) + half (crashD D sv) ≤ (crashD D sv).n := by unfold half; omega
    have h := wrJ_good (crashD D sv) (half (crashD D sv)) (2 * half (crashD D sv)) (blockL 1 0 []) rfl rfl rfl (by rw [hl]) (by omega) (by rw [hl, hh]; omega)
    refine ⟨newJ, ?_⟩
    unfold openR
    rw [h]
    simp

/-- what a journal shows -/
structure Tr where
  t : Nat
  s : List UInt8
  rs : List (List UInt8)
/-- block b holds a journal's nine cells, which lean on blocks that are nobody's variables -/
def VB (Q : World → List Nat → Value → Prop) (w1 : World) (F Bs : List Nat) (b : Nat) (w : World) : Prop :=
  ∃ c0 c1 c2 c3 c4 c5 c6 c7 c8 N, w.heap[b]? = some (.cells #[c0, c1, c2, c3, c4, c5, c6, c7, c8] 46 (0, 0)) ∧ Q w N (.agg #[c0, c1, c2, c3, c4, c5, c6, c7, c8]) ∧ ∀ y ∈ N, (y ∈ F ∨ y < w1.heap.size) ∧ y ∉ Bs
def QS (T : Tr) : World → List Nat → Value → Prop := fun w N v => SmV w N v T.t T.s T.rs
def QW (D : St) (j : Jr) : World → List Nat → Value → Prop := fun w N v => IsW w N v D j
def Stab (Q : World → List Nat → Value → Prop) : Prop := ∀ w w' N v, Kept N w w' → Q w N v → Q w' N v
theorem stab_s (T : Tr) : Stab (QS T) := fun _ _ _ _ hk h => SmV.kept h hk
theorem stab_w (D : St) (j : Jr) : Stab (QW D j) := fun _ _ _ _ hk h => IsW.kept h hk
/-- blocks of N that are new since w -/
def fresh (N : List Nat) (w : World) : List Nat := N.filter (fun y => decide (w.heap.size ≤ y))
theorem mem_fresh {N : List Nat} {w : World} {y : Nat} : y ∈ fresh N w ↔ y ∈ N ∧ w.heap.size ≤ y := by simp [fresh]

theorem heap_fst (w : World) (X Y : Obj) : ((w.alloc X).alloc Y).heap[w.heap.size]? = some X := (Below.heap_alloc _ _ _ (by simp)).trans (heap_alloc_new _ _)
section
variable {Q : World → List Nat → Value → Prop} {w1 w w' w3 w4 : World} {F F' Bs N N' : List Nat} {b b' x g q b3 b4 b5 : Nat} {D D' Dm Dm' : St} {j j' jm jm' : Jr} {T T' T'' : Tr} {c0 c1 c2 c3 c4 c5 c6 c7 c8 : Value}
theorem VB.kept (h : VB Q w1 F Bs b w) (hs : Stab Q) (hb : b ∈ F) (hk : Kept F w w') (h1 : Below w1.heap.size w1 w) (h2 : Below w1.heap.size w1 w') : VB Q w1 F Bs b w' := by
  obtain ⟨c0, c1, c2, c3, c4, c5, c6, c7, c8, N, hd, hv, hN⟩ := h
  refine ⟨c0, c1, c2, c3, c4, c5, c6, c7, c8, N, (hk b hb).trans hd, hs _ _ _ _ (fun y hy => ?_) hv, hN⟩
  rcases (hN y hy).1 with h | h
  · exact hk y h
  · exact (h2.block y h).trans (h1.block y h).symm
theorem VB.sub (h : VB Q w1 F Bs b w) (hs : ∀ y ∈ F, y ∈ F') : VB Q w1 F' Bs b w := by
  obtain ⟨c0, c1, c2, c3, c4, c5, c6, c7, c8, N, hd, hv, hN⟩ := h
  exact ⟨c0, c1, c2, c3, c4, c5, c6, c7, c8, N, hd, hv, fun y hy => ⟨(hN y hy).1.imp (hs y) id, (hN y hy).2⟩⟩
theorem VB.chg (h : VB Q w1 F Bs b w) (hs : Stab Q) (hb : b < w.heap.size) (hl : ∀ y ∈ F, y < w.heap.size) (h1 : w1.heap.size ≤ w.heap.size) (hc : Chg [b'] w w') (hb' : b' ∈ Bs) (hne : b ≠ b') : VB Q w1 F Bs b w' := by
  obtain ⟨c0, c1, c2, c3, c4, c5, c6, c7, c8, N, hd, hv, hN⟩ := h
  refine ⟨c0, c1, c2, c3, c4, c5, c6, c7, c8, N, (hc.block b hb (by simpa using hne)).trans hd, hs _ _ _ _ (fun y hy => hc.block y ?_ (fun hm => ?_)) hv, hN⟩
  · rcases (hN y hy).1 with h | h
    · exact hl y h
    · omega
  · simp only [List.mem_singleton] at hm
    subst hm
    exact (hN _ hy).2 hb'
/-- the three variables of the law -/
structure TV (w1 : World) (F : List Nat) (b3 b4 b5 : Nat) (T T' : Tr) (Dm : St) (jm : Jr) (w : World) : Prop where
  m : ∀ b ∈ [b3, b4, b5], b ∈ F ∧ w1.heap.size ≤ b
  d : b3 ≠ b4 ∧ b3 ≠ b5 ∧ b4 ≠ b5
  lt : ∀ y ∈ F, y < w.heap.size
  b : Below w1.heap.size w1 w
  v3 : VB (QS T) w1 F [b3, b4, b5] b3 w
  v4 : VB (QS T') w1 F [b3, b4, b5] b4 w
  v5 : VB (QW Dm jm) w1 F [b3, b4, b5] b5 w
theorem kept_lt (hk : Kept F w w') (hl : ∀ y ∈ F, y < w.heap.size) : ∀ y ∈ F, y < w'.heap.size := IsK_size hk hl
theorem TV.kept (h : TV w1 F b3 b4 b5 T T' Dm jm w) (hk : Kept F w w') (hb : Below w1.heap.size w1 w') : TV w1 F b3 b4 b5 T T' Dm jm w' :=
  ⟨h.m, h.d, kept_lt hk h.lt, hb, h.v3.kept (stab_s _) (h.m _ (by simp)).1 hk h.b hb, h.v4.kept (stab_s _) (h.m _ (by simp)).1 hk h.b hb, h.v5.kept (stab_w _ _) (h.m _ (by simp)).1 hk h.b hb⟩
theorem TV.below (h : TV w1 F b3 b4 b5 T T' Dm jm w) (hb : Below w.heap.size w w') : TV w1 F b3 b4 b5 T T' Dm jm w' := h.kept (Kept.of_below h.lt hb) (h.b.trans (hb.mono h.b.size))
theorem TV.sub (h : TV w1 F b3 b4 b5 T T' Dm jm w) (hs : ∀ y ∈ F, y ∈ F') (hl : ∀ y ∈ F', y < w.heap.size) : TV w1 F' b3 b4 b5 T T' Dm jm w :=
  ⟨fun b hb => ⟨hs b (h.m b hb).1, (h.m b hb).2⟩, h.d, hl, h.b, h.v3.sub hs, h.v4.sub hs, h.v5.sub hs⟩
/-- the model is stored -/
theorem TV.upd5 (h : TV w1 F b3 b4 b5 T T' Dm jm w) (hb : Below w.heap.size w w3) (hc : Chg [b5] w3 w4) (hz : w4.heap[b5]? = some (.cells #[c0, c1, c2, c3, c4, c5, c6, c7, c8] 46 (0, 0)))
    (hw : IsW w3 N' (.agg #[c0, c1, c2, c3, c4, c5, c6, c7, c8]) Dm' jm') (hN : ∀ y ∈ N', ((y ∈ F ∨ y < w1.heap.size) ∧ y ∉ [b3, b4, b5]) ∨ w.heap.size ≤ y) : TV w1 (fresh N' w ++ F) b3 b4 b5 T T' Dm' jm' w4 := by
  have h3 := h.below hb
  have hlb : ∀ b ∈ [b3, b4, b5], b < w.heap.size := fun b hb => h.lt b (h.m b hb).1
  have hN5 : ∀ y ∈ N', y ∉ [b3, b4, b5] := fun y hy hm => by
    rcases hN y hy with h | h
    · exact h.2 hm
    · have := hlb y hm; omega
  have h1 : TV w1 (fresh N' w ++ F) b3 b4 b5 T T' Dm jm w3 := h3.sub (fun y hy => by simp [hy]) (fun y hy => by
    rcases List.mem_append.1 hy with hy | hy
    · exact hw.nl y (mem_fresh.1 hy).1
    · exact h3.lt y hy)
  refine ⟨h1.m, h1.d, fun y hy => Nat.lt_of_lt_of_le (h1.lt y hy) hc.size, h1.b.trans (hc.below h1.b.size (by simpa using (h.m b5 (by simp)).2)), h1.v3.chg (stab_s _) (h1.lt _ (h1.m _ (by simp)).1) h1.lt h1.b.size hc (by simp) h.d.2.1, h1.v4.chg (stab_s _) (h1.lt _ (h1.m _ (by simp)).1) h1.lt h1.b.size hc (by simp) h.d.2.2,
    ⟨_, _, _, _, _, _, _, _, _, N', hz, hw.chg hc (fun y hy hm => ?_), fun y hy => ⟨?_, hN5 y hy⟩⟩⟩
  · simp only [List.mem_singleton] at hm
    subst hm
    exact hN5 _ hy (by simp)
  · rcases hN y hy with h | h
    · exact h.1.imp (fun h => by simp [h]) id
    · exact .inl (List.mem_append_left _ (mem_fresh.2 ⟨hy, h⟩))
/-- what would be is stored -/
theorem TV.upd4 (h : TV w1 F b3 b4 b5 T T' Dm jm w) (hb : Below w.heap.size w w3) (hc : Chg [b4] w3 w4) (hz : w4.heap[b4]? = some (.cells #[c0, c1, c2, c3, c4, c5, c6, c7, c8] 46 (0, 0)))
    (hw : SmV w3 N' (.agg #[c0, c1, c2, c3, c4, c5, c6, c7, c8]) T''.t T''.s T''.rs) (hl : ∀ y ∈ N', y < w3.heap.size) (hN : ∀ y ∈ N', ((y ∈ F ∨ y < w1.heap.size) ∧ y ∉ [b3, b4, b5]) ∨ w.heap.size ≤ y) : TV w1 (fresh N' w ++ F) b3 b4 b5 T T'' Dm jm w4 := by
  have h3 := h.below hb
  have hlb : ∀ b ∈ [b3, b4, b5], b < w.heap.size := fun b hb => h.lt b (h.m b hb).1
  have hN5 : ∀ y ∈ N', y ∉ [b3, b4, b5] := fun y hy hm => by
    rcases hN y hy with h | h
    · exact h.2 hm
    · have := hlb y hm; omega
  have h1 : TV w1 (fresh N' w ++ F) b3 b4 b5 T T' Dm jm w3 := h3.sub (fun y hy => by simp [hy]) (fun y hy => by
    rcases List.mem_append.1 hy with hy | hy
    · exact hl y (mem_fresh.1 hy).1
    · exact h3.lt y hy)
  refine ⟨h1.m, h1.d, fun y hy => Nat.lt_of_lt_of_le (h1.lt y hy) hc.size, h1.b.trans (hc.below h1.b.size (by simpa using (h.m b4 (by simp)).2)), h1.v3.chg (stab_s _) (h1.lt _ (h1.m _ (by simp)).1) h1.lt h1.b.size hc (by simp) h.d.1,
    ⟨_, _, _, _, _, _, _, _, _, N', hz, stab_s T'' _ _ _ _ (fun y hy => hc.block y (hl y hy) (fun hm => ?_)) hw, fun y hy => ⟨?_, hN5 y hy⟩⟩, h1.v5.chg (stab_w _ _) (h1.lt _ (h1.m _ (by simp)).1) h1.lt h1.b.size hc (by simp) (Ne.symm h.d.2.2)⟩
  · simp only [List.mem_singleton] at hm
    subst hm
    exact hN5 _ hy (by simp)
  · rcases hN y hy with h | h
    · exact h.1.imp (fun h => by simp [h]) id
    · exact .inl (List.mem_append_left _ (mem_fresh.2 ⟨hy, h⟩))
/-- with the pair -/
structure TW (w1 : World) (x g q : Nat) (F : List Nat) (b3 b4 b5 : Nat) (D : St) (j : Jr) (T T' : Tr) (Dm : St) (jm : Jr) (w : World) : Prop where
  pj : PJ w1 x g q F D j w
  tv : TV w1 F b3 b4 b5 T T' Dm jm w
  hx : x ∉ [b3, b4, b5]
theorem TW.below (h : TW w1 x g q F b3 b4 b5 D j T T' Dm jm w) (hb : Below w.heap.size w w') : TW w1 x g q F b3 b4 b5 D j T T' Dm jm w' := ⟨h.pj.below hb, h.tv.below hb, h.hx⟩
theorem TW.next (h : TW w1 x g q F b3 b4 b5 D j T T' Dm jm w) (hp : PJ w1 x g q F D' j' w') (hk : Kept F w w') : TW w1 x g q F b3 b4 b5 D' j' T T' Dm jm w' := ⟨hp, h.tv.kept hk hp.b, h.hx⟩
theorem PJ.put9 (h : PJ w1 x g q F D j w) (hb : Below w.heap.size w w3) (hc : Chg [b] w3 w4) (hl : ∀ y ∈ N', y < w3.heap.size) (hbF : b ∈ F) (hb1 : w1.heap.size ≤ b) (hne : x ≠ b) : PJ w1 x g q (fresh N' w ++ F) D j w4 :=
  (h.grow hb (F' := fresh N' w ++ F) (fun y hy => by
    rcases List.mem_append.1 hy with hy | hy
    · exact .inr ⟨(mem_fresh.1 hy).2, hl y (mem_fresh.1 hy).1⟩
    · exact .inl hy) (by have := h.xF; simp [this])).wr hc (fun y hy => by
      simp only [List.mem_singleton] at hy
      subst hy
      exact ⟨by simp [hbF], hb1⟩) (by simpa using hne)
theorem TW.upd5 (h : TW w1 x g q F b3 b4 b5 D j T T' Dm jm w) (hb : Below w.heap.size w w3) (hc : Chg [b5] w3 w4) (hz : w4.heap[b5]? = some (.cells #[c0, c1, c2, c3, c4, c5, c6, c7, c8] 46 (0, 0)))
    (hw : IsW w3 N' (.agg #[c0, c1, c2, c3, c4, c5, c6, c7, c8]) Dm' jm') (hN : ∀ y ∈ N', ((y ∈ F ∨ y < w1.heap.size) ∧ y ∉ [b3, b4, b5]) ∨ w.heap.size ≤ y) : TW w1 x g q (fresh N' w ++ F) b3 b4 b5 D j T T' Dm' jm' w4 :=
  ⟨h.pj.put9 hb hc hw.nl (h.tv.m b5 (by simp)).1 (h.tv.m b5 (by simp)).2 (fun e => h.hx (by simp [e])), h.tv.upd5 hb hc hz hw hN, h.hx⟩
theorem TW.upd4 (h : TW w1 x g q F b3 b4 b5 D j T T' Dm jm w) (hb : Below w.heap.size w w3) (hc : Chg [b4] w3 w4) (hz : w4.heap[b4]? = some (.cells #[c0, c1, c2, c3, c4, c5, c6, c7, c8] 46 (0, 0)))
    (hw : SmV w3 N' (.agg #[c0, c1, c2, c3, c4, c5, c6, c7, c8]) T''.t T''.s T''.rs) (hl : ∀ y ∈ N', y < w3.heap.size) (hN : ∀ y ∈ N', ((y ∈ F ∨ y < w1.heap.size) ∧ y ∉ [b3, b4, b5]) ∨ w.heap.size ≤ y) : TW w1 x g q (fresh N' w ++ F) b3 b4 b5 D j T T'' Dm jm w4 :=
  ⟨h.pj.put9 hb hc hl (h.tv.m b4 (by simp)).1 (h.tv.m b4 (by simp)).2 (fun e => h.hx (by simp [e])), h.tv.upd4 hb hc hz hw hl hN, h.hx⟩
theorem chg_set4 (w : World) (R : Nat) (a b c d : Value) : Chg [R] w ((((w.setCell ⟨R, 0, none⟩ a).setCell ⟨R, 1, none⟩ b).setCell ⟨R, 2, none⟩ c).setCell ⟨R, 3, none⟩ d) :=
  ((((Chg.refl [R] w).setCell (p := ⟨R, 0, none⟩) (.inl List.mem_cons_self) a).setCell (p := ⟨R, 1, none⟩) (.inl List.mem_cons_self) b).setCell (p := ⟨R, 2, none⟩) (.inl List.mem_cons_self) c).setCell (p := ⟨R, 3, none⟩) (.inl List.mem_cons_self) d
/-- the model's disk is stored -/
theorem TW.updD {N5 N6 : List Nat} {A A' X X' sa ra : Option Addr} {ca ca' cx cx' sc rc : Nat} {P P' : List Pm} {ms : List Rm} (h : TW w1 x g q F b3 b4 b5 D j T T' Dm jm w) (hb : Below w.heap.size w w3)
    (hd : w.heap[b5]? = some (.cells #[.slice A (64 * Dm.n) ca, .slice X P.length cx, .bool Dm.x, .int .i64 Dm.f, .int .i64 (jm.t : Int), .slice sa jm.s.length sc, .slice ra ms.length rc, .int .i64 (jm.e : Int), .bool jm.x] 46 (0, 0)))
    (h5 : IsW' w N5 Dm jm A ca X cx P sa sc ra rc ms) (hN5 : ∀ y ∈ N5, (y ∈ F ∨ y < w1.heap.size) ∧ y ∉ [b3, b4, b5]) (hk : IsK' w3 N6 Dm' A' ca' X' cx' P') (hN6 : ∀ y ∈ N6, ((y ∈ F ∨ y < w1.heap.size) ∧ y ∉ [b3, b4, b5]) ∨ w.heap.size ≤ y)
    {e0 e1 e2 e3 : Value} (h0 : e0 = .slice A' (64 * Dm'.n) ca') (h1 : e1 = .slice X' P'.length cx') (h2 : e2 = .bool Dm'.x) (h3 : e3 = .int .i64 Dm'.f) :
    TW w1 x g q (fresh (N6 ++ N5) w ++ F) b3 b4 b5 D j T T' Dm' jm ((((w3.setCell ⟨b5, 0, none⟩ e0).setCell ⟨b5, 1, none⟩ e1).setCell ⟨b5, 2, none⟩ e2).setCell ⟨b5, 3, none⟩ e3) := by
  subst h0 h1 h2 h3
  have hl : b5 < w.heap.size := (Array.getElem?_eq_some_iff.1 hd).1
  have hk5 : Kept N5 w w3 := Kept.of_below h5.k.nl hb
  refine h.upd5 hb (chg_set4 w3 b5 _ _ _ _) (heap_set49 ((hb.block _ hl).trans hd) _ _ _ _) (N' := N6 ++ N5) ⟨A', ca', X', cx', P', sa, sc, ra, rc, ms, rfl, ⟨hk.sub (fun y hy => by simp [hy]) (fun y hy => ?_), h5.st.sub' hk5 (fun y hy => by simp [hy]), h5.rr.sub' hk5 (fun y hy => by simp [hy]), h5.rs⟩⟩ (fun y hy => ?_)
  · rcases List.mem_append.1 hy with hy | hy
    · exact hk.nl y hy
    · exact Nat.lt_of_lt_of_le (h5.k.nl y hy) hb.size
  · rcases List.mem_append.1 hy with hy | hy
    · exact hN6 y hy
    · exact .inl (hN5 y hy)
/-- the three variables are made -/
theorem TW.start {w2 w6 w8 : World} {N3 NM : List Nat} {a0 a1 a2 a3 a4 a5 a6 a7 a8 : Value} (h : PJ w1 x g q F D j w2) (h6 : Below w2.heap.size w2 w6) (h8 : Below w6.heap.size w6 w8)
    (hb3 : w6.heap.size ≤ b3 ∧ b3 < w8.heap.size) (hb4 : w6.heap.size ≤ b4 ∧ b4 < w8.heap.size) (hb5 : w6.heap.size ≤ b5 ∧ b5 < w8.heap.size) (hd : b3 ≠ b4 ∧ b3 ≠ b5 ∧ b4 ≠ b5)
    (hN3 : ∀ y ∈ N3, w2.heap.size ≤ y ∧ y < w6.heap.size) (hs : SmV w6 N3 (.agg #[c0, c1, c2, c3, c4, c5, c6, c7, c8]) T.t T.s T.rs) (hw : IsW w2 NM (.agg #[a0, a1, a2, a3, a4, a5, a6, a7, a8]) Dm jm) (hNM : ∀ y ∈ NM, y ∈ F)
    (hd3 : w8.heap[b3]? = some (.cells #[c0, c1, c2, c3, c4, c5, c6, c7, c8] 46 (0, 0))) (hd4 : w8.heap[b4]? = some (.cells #[c0, c1, c2, c3, c4, c5, c6, c7, c8] 46 (0, 0)))
    (hd5 : w8.heap[b5]? = some (.cells #[a0, a1, a2, a3, a4, a5, a6, a7, a8] 46 (0, 0))) : TW w1 x g q (b3 :: b4 :: b5 :: (N3 ++ F)) b3 b4 b5 D j T T Dm jm w8 := by
  have hs6 := h6.size
  have hs8 := h8.size
  have hb28 : Below w2.heap.size w2 w8 := h6.trans (h8.mono hs6)
  have hlF : ∀ y ∈ F, y < w2.heap.size := h.jo.own.lt
  have hxl := h.xl
  have h1 := h.b.size
  have hF : ∀ y ∈ b3 :: b4 :: b5 :: (N3 ++ F), y ∈ F ∨ (w2.heap.size ≤ y ∧ y < w8.heap.size) := fun y hy => by
    simp only [List.mem_cons, List.mem_append] at hy
    rcases hy with rfl | rfl | rfl | hy | hy
    · exact .inr ⟨by omega, by omega⟩
    · exact .inr ⟨by omega, by omega⟩
    · exact .inr ⟨by omega, by omega⟩
    · exact .inr ⟨(hN3 y hy).1, by have := (hN3 y hy).2; omega⟩
    · exact .inl hy
  have hn3 : ∀ y ∈ N3, (y ∈ b3 :: b4 :: b5 :: (N3 ++ F) ∨ y < w1.heap.size) ∧ y ∉ [b3, b4, b5] := fun y hy => ⟨.inl (by simp [hy]), fun hm => by
    have := (hN3 y hy).2
    simp only [List.mem_cons, List.not_mem_nil, or_false] at hm
    rcases hm with rfl | rfl | rfl <;> omega⟩
  refine ⟨h.grow hb28 hF (by have := h.xF; simp [this]), ⟨fun b hb => ?_, hd, fun y hy => ?_, h.b.trans (hb28.mono h1), ⟨_, _, _, _, _, _, _, _, _, N3, hd3, hs.below h8, hn3⟩, ⟨_, _, _, _, _, _, _, _, _, N3, hd4, hs.below h8, hn3⟩,
    ⟨_, _, _, _, _, _, _, _, _, NM, hd5, hw.below hb28, fun y hy => ⟨.inl (by simp [hNM y hy]), fun hm => ?_⟩⟩⟩, fun hm => ?_⟩
  · simp only [List.mem_cons, List.not_mem_nil, or_false] at hb
    rcases hb with rfl | rfl | rfl
    · exact ⟨by simp, by omega⟩
    · exact ⟨by simp, by omega⟩
    · exact ⟨by simp, by omega⟩
  · rcases hF y hy with h | h
    · have := hlF y h; omega
    · exact h.2
  · have := hlF y (hNM y hy)
    simp only [List.mem_cons, List.not_mem_nil, or_false] at hm
    rcases hm with rfl | rfl | rfl <;> omega
  · simp only [List.mem_cons, List.not_mem_nil, or_false] at hm
    rcases hm with rfl | rfl | rfl <;> omega
/-- a record more in what would be -/
theorem TW.push4 {w10 : World} {N4 N3 NL : List Nat} {sa ra A X10 : Option Addr} {sc rc c c10 t' : Nat} {s l : List UInt8} {ms : List Rm} {u : Value} (h : TW w1 x g q F b3 b4 b5 D j T T' Dm jm w) (hb : Below w.heap.size w w10)
    (hd : w.heap[b4]? = some (.cells #[c0, c1, c2, c3, .int .i64 (t' : Int), .slice sa s.length sc, c6, c7, c8] 46 (0, 0))) (hs : InR w N4 ⟨sa, sc, s⟩) (hN4 : ∀ y ∈ N4, (y ∈ F ∨ y < w1.heap.size) ∧ y ∉ [b3, b4, b5])
    (hr : RsR w N3 ra rc ms) (hN3 : ∀ y ∈ N3, (y ∈ F ∨ y < w1.heap.size) ∧ y ∉ [b3, b4, b5]) (hR : InR w1 NL ⟨A, c, l⟩) (hRl : ∀ y ∈ NL, y < w1.heap.size) (hu : u = .slice A l.length c)
    (ho : w10.ownsRow w.heap.size 29 1 (.slice X10 (ms.length + 1) c10) (ms.length + 1) (ms.map rval ++ [u])) :
    ∃ F' T'', TW w1 x g q F' b3 b4 b5 D j T T'' Dm jm (w10.setCell ⟨b4, 6, none⟩ (.slice X10 (ms.length + 1) c10)) := by
  subst hu
  have hl4 : b4 < w.heap.size := (Array.getElem?_eq_some_iff.1 hd).1
  have hlN : ∀ N : List Nat, (∀ y ∈ N, (y ∈ F ∨ y < w1.heap.size) ∧ y ∉ [b3, b4, b5]) → ∀ y ∈ N, y < w.heap.size := fun N hN y hy => by
    rcases (hN y hy).1 with h1 | h1
    · exact h.tv.lt y h1
    · exact Nat.lt_of_lt_of_le h1 h.tv.b.size
  have hcs : Chg [b4] w10 (w10.setCell ⟨b4, 6, none⟩ (.slice X10 (ms.length + 1) c10)) := (Chg.refl _ _).setCell (p := ⟨b4, 6, none⟩) (.inl (by simp)) _
  have hX : ∀ y ∈ bl X10, w.heap.size ≤ y ∧ y < w10.heap.size := fun y hy => by
    obtain ⟨off, rfl⟩ := mem_bl hy
    exact own_cut (k := 0) (c' := c10) ho (by rw [cutA_zero])
  obtain ⟨_, _, e0, hk1, hk2, _, hrd⟩ := own_form ho
  cases e0
  have hk4 : Kept N4 w w10 := Kept.of_below (hlN _ hN4) hb
  have hk3 : Kept N3 w w10 := Kept.of_below (hlN _ hN3) hb
  have hw10 : Below w1.heap.size w1 w10 := h.tv.b.trans (hb.mono h.tv.b.size)
  refine ⟨_, ⟨t', s, ms.map (·.d) ++ [l]⟩, h.upd4 hb hcs (heap_setCell_same _ _ _ _ _ _ ((hb.block _ hl4).trans hd)) (N' := bl X10 ++ (N4 ++ (N3 ++ NL))) ⟨_, _, _, _, _, _, X10, c10, ms ++ [⟨A, c, l⟩], _, _, by rw [List.length_append]; rfl, (hs.kept hk4).sub (fun y hy => by simp [hy]), ⟨?_, by rw [List.length_append]; exact hk1, hk2, fun _ b off e => by rw [e]; simp [bl], fun m hm => ?_⟩, by rw [List.map_append]; rfl⟩ (fun y hy => ?_) (fun y hy => ?_)⟩
  · rw [List.map_append]
    exact hrd
  · rcases List.mem_append.1 hm with hm | hm
    · exact ((hr.el m hm).kept hk3).sub (fun y hy => by simp [hy])
    · simp only [List.mem_singleton] at hm
      subst hm
      exact (hR.below hw10).sub (fun y hy => by simp [hy])
  · simp only [List.mem_append] at hy
    rcases hy with hy | hy | hy | hy
    · exact (hX y hy).2
    · exact Nat.lt_of_lt_of_le (hlN _ hN4 y hy) hb.size
    · exact Nat.lt_of_lt_of_le (hlN _ hN3 y hy) hb.size
    · exact Nat.lt_of_lt_of_le (hRl y hy) hw10.size
  · simp only [List.mem_append] at hy
    rcases hy with hy | hy | hy | hy
    · exact .inr (hX y hy).1
    · exact .inl (hN4 y hy)
    · exact .inl (hN3 y hy)
    · exact .inl ⟨.inr (hRl y hy), fun hm => by have h1 := (h.tv.m y hm).2; have h2 := hRl y hy; omega⟩
theorem TW.startA {w4 w5 w6 : World} {N3 NM : List Nat} {a0 a1 a2 a3 a4 a5 a6 a7 a8 : Value} (h : PJ w1 x g q F D j w4) (h5 : Below w4.heap.size w4 w5) (h6 : Below w5.heap.size w5 w6) (hb3 : w5.heap.size = b3) (hx6 : w6.heap[b3]? = some (.cells #[c0, c1, c2, c3, c4, c5, c6, c7, c8] 46 (0, 0)))
    (hN3 : ∀ y ∈ N3, w4.heap.size ≤ y ∧ y < w5.heap.size) (hs : SmV w5 N3 (.agg #[c0, c1, c2, c3, c4, c5, c6, c7, c8]) T.t T.s T.rs) (hw : IsW w4 NM (.agg #[a0, a1, a2, a3, a4, a5, a6, a7, a8]) Dm jm) (hNM : ∀ y ∈ NM, y ∈ F) :
    TW w1 x g q (b3 :: w6.heap.size :: (w6.heap.size + 1) :: (N3 ++ F)) b3 (w6.heap.size) ((w6.heap.size + 1)) D j T T Dm jm ((w6.alloc (.cells #[c0, c1, c2, c3, c4, c5, c6, c7, c8] 46)).alloc (.cells #[a0, a1, a2, a3, a4, a5, a6, a7, a8] 46)).drew ∧ Below w6.heap.size w6 ((w6.alloc (.cells #[c0, c1, c2, c3, c4, c5, c6, c7, c8] 46)).alloc (.cells #[a0, a1, a2, a3, a4, a5, a6, a7, a8] 46)).drew := by
  subst hb3
  have hb := below2 w6 (.cells #[c0, c1, c2, c3, c4, c5, c6, c7, c8] 46) (.cells #[a0, a1, a2, a3, a4, a5, a6, a7, a8] 46)
  have hs3 : w5.heap.size < w6.heap.size := (Array.getElem?_eq_some_iff.1 hx6).1
  have hz : ((w6.alloc (.cells #[c0, c1, c2, c3, c4, c5, c6, c7, c8] 46)).alloc (.cells #[a0, a1, a2, a3, a4, a5, a6, a7, a8] 46)).heap.size = w6.heap.size + 2 := by simp
  refine ⟨TW.below (TW.start (w6 := w5) (T := T) h h5 (h6.trans (hb.mono h6.size)) ⟨Nat.le_refl _, by omega⟩ ⟨by omega, by omega⟩ ⟨by omega, by omega⟩ ⟨by omega, by omega, by omega⟩ hN3 hs hw hNM ((hb.block _ hs3).trans hx6) (heap_fst _ _ _) (heap_alloc2_new _ _ _)) (Go.Proofs.Ytmdpmpfjldgalaa.below_drew _), hb.drew⟩
theorem TW.startB {w4 w5 w6 : World} {N3 NM : List Nat} {a0 a1 a2 a3 a4 a5 a6 a7 a8 : Value} (h : PJ w1 x g q F D j w4) (h5 : Below w4.heap.size w4 w5) (h6 : Below w5.heap.size w5 w6) (hb3 : w5.heap.size = b3) (hx6 : w6.heap[b3]? = some (.cells #[c0, c1, c2, c3, c4, c5, c6, c7, c8] 46 (0, 0)))
    (hN3 : ∀ y ∈ N3, w4.heap.size ≤ y ∧ y < w5.heap.size) (hs : SmV w5 N3 (.agg #[c0, c1, c2, c3, c4, c5, c6, c7, c8]) T.t T.s T.rs) (hw : IsW w4 NM (.agg #[a0, a1, a2, a3, a4, a5, a6, a7, a8]) Dm jm) (hNM : ∀ y ∈ NM, y ∈ F) :
    TW w1 x g q (b3 :: (w6.heap.size + 1) :: w6.heap.size :: (N3 ++ F)) b3 ((w6.heap.size + 1)) (w6.heap.size) D j T T Dm jm ((w6.alloc (.cells #[a0, a1, a2, a3, a4, a5, a6, a7, a8] 46)).alloc (.cells #[c0, c1, c2, c3, c4, c5, c6, c7, c8] 46)).drew ∧ Below w6.heap.size w6 ((w6.alloc (.cells #[a0, a1, a2, a3, a4, a5, a6, a7, a8] 46)).alloc (.cells #[c0, c1, c2, c3, c4, c5, c6, c7, c8] 46)).drew := by
  subst hb3
  have hb := below2 w6 (.cells #[a0, a1, a2, a3, a4, a5, a6, a7, a8] 46) (.cells #[c0, c1, c2, c3, c4, c5, c6, c7, c8] 46)
  have hs3 : w5.heap.size < w6.heap.size := (Array.getElem?_eq_some_iff.1 hx6).1
  have hz : ((w6.alloc (.cells #[a0, a1, a2, a3, a4, a5, a6, a7, a8] 46)).alloc (.cells #[c0, c1, c2, c3, c4, c5, c6, c7, c8] 46)).heap.size = w6.heap.size + 2 := by simp
  refine ⟨TW.below (TW.start (w6 := w5) (T := T) h h5 (h6.trans (hb.mono h6.size)) ⟨Nat.le_refl _, by omega⟩ ⟨by omega, by omega⟩ ⟨by omega, by omega⟩ ⟨by omega, by omega, by omega⟩ hN3 hs hw hNM ((hb.block _ hs3).trans hx6) (heap_alloc2_new _ _ _) (heap_fst _ _ _)) (Go.Proofs.Ytmdpmpfjldgalaa.below_drew _), hb.drew⟩
end
end Jn
end Go.Proofs.Ytmdpmpfjldgalaa
