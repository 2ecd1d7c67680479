/- A pair whose journal is open; the journal opened again beside it. -/
import Derived.Test.YtmdpmpfjldgalaaMN
namespace Go.Proofs.Ytmdpmpfjldgalaa
open Go.RowKit
namespace Jn
open Dk Wi Wr

/-- block x names the disk g and the journal q, and is left alone -/
structure PJ (w0 : World) (x g q : Nat) (F : List Nat) (D : St) (j : Jr) (w : World) : Prop where
  jo : JO w0 F g q D j w
  c0 : w.cell? ⟨x, 0, none⟩ = some (.pointer (some ⟨g, 0, none⟩))
  c1 : w.cell? ⟨x, 1, none⟩ = some (.pointer (some ⟨q, 0, none⟩))
  xF : x ∈ F
/-- the same, with a second journal q2 on the disk -/
structure Two (w0 : World) (x g q q2 : Nat) (D : St) (j j2 : Jr) (w : World) : Prop where
  o : ∃ F W R, x ∈ F ∧ JO w0 F g q2 D j2 w ∧ IsJ w q g W R (half D) j
  c0 : w.cell? ⟨x, 0, none⟩ = some (.pointer (some ⟨g, 0, none⟩))
  c1 : w.cell? ⟨x, 1, none⟩ = some (.pointer (some ⟨q, 0, none⟩))
section
variable {w0 w w' : World} {F : List Nat} {x g q q2 N : Nat} {D D' : St} {j j' j2 : Jr}
theorem PlayB.pj (h : PlayB w0 x N w) : ∃ g q F D j, PJ w0 x g q F D j w ∧ Play D j ∧ D.n = N := by
  obtain ⟨D, j, ⟨g, p, N', A, ca, X, cx, P, sa, sc, ra, rc, ms, h⟩, hp, hn⟩ := h
  rcases h.dj with ⟨h1, _⟩ | ⟨j', q, h1, h2, h3⟩
  · cases h1
  · injection h1 with h1
    subst h1 h2
    exact ⟨g, q, _, D, j, ⟨h3, (cell_of_row _ _ 0 _ _ _ h.hd).trans rfl, (cell_of_row _ _ 1 _ _ _ h.hd).trans rfl, by simp⟩, hp, hn⟩
theorem PJ.xl (h : PJ w0 x g q F D j w) : x < w.heap.size := block_lt_of_cell h.c0
theorem PJ.b (h : PJ w0 x g q F D j w) : Below w0.heap.size w0 w := h.jo.own.b
theorem PJ.below (h : PJ w0 x g q F D j w) (hb : Below w.heap.size w w') : PJ w0 x g q F D j w' :=
  ⟨h.jo.below hb, (hb.cell (p := ⟨x, 0, none⟩) h.xl).trans h.c0, (hb.cell (p := ⟨x, 1, none⟩) h.xl).trans h.c1, h.xF⟩
theorem PJ.next (h : PJ w0 x g q F D j w) (hj : JO w0 F g q D' j' w') (hk : Kept F w w') : PJ w0 x g q F D' j' w' :=
  ⟨hj, (World.cell?_of_block (a := ⟨x, 0, none⟩) (hk x h.xF)).trans h.c0, (World.cell?_of_block (a := ⟨x, 1, none⟩) (hk x h.xF)).trans h.c1, h.xF⟩
theorem PJ.grow {F' : List Nat} (h : PJ w0 x g q F D j w) (hb : Below w.heap.size w w') (hF : ∀ y ∈ F', y ∈ F ∨ (w.heap.size ≤ y ∧ y < w'.heap.size)) (hx : x ∈ F') : PJ w0 x g q F' D j w' :=
  ⟨h.jo.grow hb hF, (hb.cell (p := ⟨x, 0, none⟩) h.xl).trans h.c0, (hb.cell (p := ⟨x, 1, none⟩) h.xl).trans h.c1, hx⟩
theorem PJ.crash_calls (h : PJ w0 x g q F D j w) (Z : Option Addr) (zn zc : Nat) (sv : List Int) (hz : sv.length = zn) (hr : Rd w0 Z (sv.map (Value.int .i64))) :
    Calls Try.prog 21 #[.pointer (some ⟨g, 0, none⟩), .slice Z zn zc] w fun e w' => e = .returned (.tuple #[]) ∧ PJ w0 x g q F (crashD D sv) j w' ∧ Kept F w w' :=
  (h.jo.crash_calls Z zn zc sv hz hr).mono fun _ _ ⟨a, b, c⟩ => ⟨a, h.next b c, c⟩
theorem PJ.fail_calls (h : PJ w0 x g q F D j w) (n : Int) (hn : n ≤ 9223372036854775807) :
    Calls Try.prog 26 #[.pointer (some ⟨g, 0, none⟩), .int .i64 n] w fun e w' => e = .returned (.tuple #[]) ∧ PJ w0 x g q F (failD D n) j w' ∧ Kept F w w' :=
  (h.jo.fail_calls n hn).mono fun _ _ ⟨a, b, c⟩ => ⟨a, h.next b c, c⟩
theorem PJ.open_calls (h : PJ w0 x g q F D j w) (hj : openJ D = some j2) (hc : Calm D) (hn : D.n ≤ 100) :
    Calls Try.prog 22 #[.pointer (some ⟨g, 0, none⟩)] w fun e w' => ∃ q2, e = .returned (.tuple #[.pointer (some ⟨q2, 0, none⟩), .int .i64 0]) ∧ Two w0 x g q q2 (openD D) j j2 w' ∧ Kept F w w' := by
  obtain ⟨W, R, h1, h2, h3, h4⟩ := h.jo
  refine (Jn.open_calls w0 w (W ++ (R ++ F)) g D h1 hn hc).mono ?_
  rintro e w' ⟨hk, ⟨h5, _⟩ | ⟨j', gj, h5, rfl, h6⟩⟩
  · rw [hj] at h5; cases h5
  · rw [hj] at h5
    injection h5 with h5
    subst h5
    rw [openE_some hj]
    exact ⟨gj, rfl, ⟨⟨_, W, R, by have := h.xF; simp [this], h6, by rw [openD_half]; exact h2.kept (fun y hy => hk y (by rcases List.mem_append.1 hy with hy | hy <;> simp [hy]))⟩,
      (World.cell?_of_block (a := ⟨x, 0, none⟩) (hk x (by have := h.xF; simp [this]))).trans h.c0, (World.cell?_of_block (a := ⟨x, 1, none⟩) (hk x (by have := h.xF; simp [this]))).trans h.c1⟩, hk.sub (fun y hy => by simp [hy])⟩
theorem Two.b (h : Two w0 x g q q2 D j j2 w) : Below w0.heap.size w0 w := by obtain ⟨F, W, R, _, h1, _⟩ := h.o; exact h1.own.b
theorem Two.xl (h : Two w0 x g q q2 D j j2 w) : x < w.heap.size := block_lt_of_cell h.c0
theorem Two.below (h : Two w0 x g q q2 D j j2 w) (hb : Below w.heap.size w w') : Two w0 x g q q2 D j j2 w' := by
  obtain ⟨F, W, R, h0, h1, h2⟩ := h.o
  exact ⟨⟨F, W, R, h0, h1.below hb, h2.below hb⟩, (hb.cell (p := ⟨x, 0, none⟩) h.xl).trans h.c0, (hb.cell (p := ⟨x, 1, none⟩) h.xl).trans h.c1⟩
theorem Two.seen2 (h : Two w0 x g q q2 D j j2 w) (hn : D.n ≤ 100) : Calls Try.prog 24 #[.pointer (some ⟨q2, 0, none⟩)] w fun e w' => ∃ v N, e = .returned v ∧ SmV w' N v j2.t j2.s j2.rs ∧ Below w.heap.size w w' := by
  obtain ⟨F, W, R, h0, h1, h2⟩ := h.o
  exact (jo_seen h1 hn).mono fun _ _ ⟨v, N, a, b, c, _⟩ => ⟨v, N, a, b, c⟩
theorem Two.seen1 (h : Two w0 x g q q2 D j j2 w) (hn : D.n ≤ 100) : Calls Try.prog 24 #[.pointer (some ⟨q, 0, none⟩)] w fun e w' => ∃ v N, e = .returned v ∧ SmV w' N v j.t j.s j.rs ∧ Below w.heap.size w w' := by
  obtain ⟨F, W, R, h0, h1, h2⟩ := h.o
  exact (seen_calls w h2 (by unfold half; omega)).mono fun _ _ ⟨v, N, a, b, c, _⟩ => ⟨v, N, a, b, c⟩
theorem Two.room2 (h : Two w0 x g q q2 D j j2 w) (hn : D.n ≤ 100) : Calls Try.prog 25 #[.pointer (some ⟨q2, 0, none⟩)] w fun e w' => e = .returned (.int .i64 ((half D - j2.e : Nat) : Int)) ∧ Below w.heap.size w w' := by
  obtain ⟨F, W, R, h0, h1, h2⟩ := h.o
  exact jo_room h1 hn
theorem Two.room1 (h : Two w0 x g q q2 D j j2 w) (hn : D.n ≤ 100) : Calls Try.prog 25 #[.pointer (some ⟨q, 0, none⟩)] w fun e w' => e = .returned (.int .i64 ((half D - j.e : Nat) : Int)) ∧ Below w.heap.size w w' := by
  obtain ⟨F, W, R, h0, h1, h2⟩ := h.o
  exact room_calls h2 h1.own hn
theorem Two.rs (h : Two w0 x g q q2 D j j2 w) (hn : D.n ≤ 100) : j.rs.length ≤ 1000 := by
  obtain ⟨F, W, R, h0, h1, h2⟩ := h.o
  obtain ⟨_, _, _, _, _, _, h3⟩ := h2
  have h4 := h3.ok.r
  have h5 := h3.ok.e
  unfold half at h5
  omega
end
end Jn
end Go.Proofs.Ytmdpmpfjldgalaa
