/- Two disks side by side. -/
import Derived.Test.YtoallpinpeolfaaDlD
namespace Go.Proofs.Ytoallpinpeolfaa
open Go.RowKit
namespace Dk

/-- two disks that were made since w0; the blocks F are neither's -/
def Pair (w0 : World) (F : List Nat) (g c : Nat) (D1 D2 : St) (w : World) : Prop :=
  ∃ M1 E1 M2 E2, IsD w g M1 E1 D1 ∧ IsD w c M2 E2 D2 ∧ (∀ x ∈ M1, w0.heap.size ≤ x) ∧ (∀ x ∈ M2, w0.heap.size ≤ x) ∧ Below w0.heap.size w0 w ∧ (∀ x ∈ M1, x ∉ M2 ∧ x ∉ E2) ∧ (∀ x ∈ M2, x ∉ E1) ∧ ∀ x ∈ F, x ∉ M1 ∧ x ∉ E1 ∧ x ∉ M2 ∧ x ∉ E2 ∧ x < w.heap.size
section
variable {w0 w w' : World} {F : List Nat} {g c : Nat} {D1 D2 : St}
theorem Pair.swap (h : Pair w0 F g c D1 D2 w) : Pair w0 F c g D2 D1 w := by
  obtain ⟨M1, E1, M2, E2, h1, h2, h3, h4, h5, h6, h7, h8⟩ := h
  exact ⟨M2, E2, M1, E1, h2, h1, h4, h3, h5, fun x hx => ⟨fun hm => (h6 x hm).1 hx, h7 x hx⟩, fun x hx => (h6 x hx).2, fun x hx => ⟨(h8 x hx).2.2.1, (h8 x hx).2.2.2.1, (h8 x hx).1, (h8 x hx).2.1, (h8 x hx).2.2.2.2⟩⟩
theorem Pair.b (h : Pair w0 F g c D1 D2 w) : Below w0.heap.size w0 w := by obtain ⟨_, _, _, _, _, _, _, _, h, _⟩ := h; exact h
theorem Pair.one (h : Pair w0 F g c D1 D2 w) : OwnF w0 F g D1 w := by
  obtain ⟨M1, E1, M2, E2, h1, h2, h3, h4, h5, h6, h7, h8⟩ := h
  exact ⟨M1, E1, h1, h3, h5, fun x hx => ⟨(h8 x hx).1, (h8 x hx).2.1, (h8 x hx).2.2.2.2⟩⟩
theorem Pair.two (h : Pair w0 F g c D1 D2 w) : OwnF w0 F c D2 w := h.swap.one
theorem Pair.lt (h : Pair w0 F g c D1 D2 w) : ∀ x ∈ F, x < w.heap.size := h.one.lt
theorem Pair.grow {F' : List Nat} (h : Pair w0 F g c D1 D2 w) (hb : Below w.heap.size w w') (hF : ∀ x ∈ F', x ∈ F ∨ (w.heap.size ≤ x ∧ x < w'.heap.size)) : Pair w0 F' g c D1 D2 w' := by
  obtain ⟨M1, E1, M2, E2, h1, h2, h3, h4, h5, h6, h7, h8⟩ := h
  refine ⟨M1, E1, M2, E2, h1.below hb, h2.below hb, h3, h4, h5.trans (hb.mono h5.size), h6, h7, fun x hx => ?_⟩
  rcases hF x hx with hx | hx
  · have := h8 x hx
    exact ⟨this.1, this.2.1, this.2.2.1, this.2.2.2.1, Nat.lt_of_lt_of_le this.2.2.2.2 hb.size⟩
  · exact ⟨fun hm => by have := h1.ml x hm; omega, fun hm => by have := h1.el x hm; omega, fun hm => by have := h2.ml x hm; omega, fun hm => by have := h2.el x hm; omega, hx.2⟩
theorem Pair.below (h : Pair w0 F g c D1 D2 w) (hb : Below w.heap.size w w') : Pair w0 F g c D1 D2 w' := h.grow hb fun _ hx => .inl hx
theorem Pair.sub {F' : List Nat} (h : Pair w0 F g c D1 D2 w) (hs : ∀ x ∈ F', x ∈ F) : Pair w0 F' g c D1 D2 w := by
  obtain ⟨M1, E1, M2, E2, h1, h2, h3, h4, h5, h6, h7, h8⟩ := h
  exact ⟨M1, E1, M2, E2, h1, h2, h3, h4, h5, h6, h7, fun x hx => h8 x (hs x hx)⟩
theorem Pair.wr {S : List Nat} (h : Pair w0 F g c D1 D2 w) (hc : Chg S w w') (hS : ∀ x ∈ S, x ∈ F ∧ w0.heap.size ≤ x) : Pair w0 F g c D1 D2 w' := by
  obtain ⟨M1, E1, M2, E2, h1, h2, h3, h4, h5, h6, h7, h8⟩ := h
  refine ⟨M1, E1, M2, E2, h1.chg hc (fun x hx => (h8 x (hS x hx).1).1) (fun x hx => (h8 x (hS x hx).1).2.1), h2.chg hc (fun x hx => (h8 x (hS x hx).1).2.2.1) (fun x hx => (h8 x (hS x hx).1).2.2.2.1), h3, h4, h5.trans (hc.below h5.size (fun x hx => (hS x hx).2)), h6, h7, fun x hx => ?_⟩
  have := h8 x hx
  exact ⟨this.1, this.2.1, this.2.2.1, this.2.2.2.1, Nat.lt_of_lt_of_le this.2.2.2.2 hc.size⟩
/-- a step of the first disk -/
theorem pair_step (h : Pair w0 F g c D1 D2 w) (m : Cm) (hm : m.ok w0) (hp : D1.p.length ≤ 1000) :
    Calls Try.prog 20 #[.pointer (some ⟨g, 0, none⟩), m.val] w fun e w' =>
      ∃ X n cx, e = .returned (.tuple #[.slice X n cx, .int .i64 (stE D1 m.c)]) ∧ Pair w0 F g c (stD D1 m.c) D2 w' ∧ Kept F w w' := by
  obtain ⟨M1, E1, M2, E2, h1, h2, h3, h4, h5, h6, h7, h8⟩ := h
  refine (step_calls g M1 E1 D1 m w h1 (hm.below h5) hp (fun hsv b off e hb => ?_)).mono ?_
  · obtain ⟨b', off', e', hb', _⟩ := Rd.cells hm.rd (by rw [List.length_map]; exact List.length_pos_iff.2 hsv)
    rw [e] at e'; cases e'
    have := h3 b hb
    omega
  · rintro e w' ⟨X, n, cx, rfl, _, _, _, M', E', k1, k2, k3, k4⟩
    refine ⟨X, n, cx, rfl, ⟨M', E', M2, E2, k1, h2.chg k2 (fun x hx => (h6 x hx).1) (fun x hx => (h6 x hx).2), fun x hx => ?_, h4, h5.trans (k2.below h5.size h3), fun x hx => ?_, fun x hx he => ?_, fun x hx => ?_⟩, fun x hx => k2.block x (h8 x hx).2.2.2.2 (h8 x hx).1⟩
    · rcases k3 x hx with h | h
      · exact h3 x h
      · exact Nat.le_trans h5.size h
    · rcases k3 x hx with h | h
      · exact h6 x h
      · exact ⟨fun hm => by have := h2.ml x hm; omega, fun hm => by have := h2.el x hm; omega⟩
    · rcases k4 x he with h | h
      · exact h7 x hx h
      · have := h2.ml x hx; omega
    · obtain ⟨a1, a2, a3, a4, a5⟩ := h8 x hx
      refine ⟨fun hm => ?_, fun hm => ?_, a3, a4, Nat.lt_of_lt_of_le a5 k2.size⟩
      · rcases k3 x hm with h | h
        · exact a1 h
        · omega
      · rcases k4 x hm with h | h
        · exact a2 h
        · omega
theorem pair_clone (h : OwnF w0 F g D1 w) (hp : D1.p.length ≤ 1000) :
    Calls Try.prog 27 #[.pointer (some ⟨g, 0, none⟩)] w fun e w' => ∃ c, e = .returned (.pointer (some ⟨c, 0, none⟩)) ∧ Pair w0 F g c D1 D1 w' ∧ Below w.heap.size w w' := by
  obtain ⟨M, E, h1, h2, h3, h4⟩ := h
  refine (diskClone_calls g M E D1 w h1 hp).mono ?_
  rintro e w' ⟨c, M2, rfl, k1, k2, k3⟩
  refine ⟨c, rfl, ⟨M, E, M2, E, h1.below k3, k1, h2, fun x hx => Nat.le_trans h3.size (k2 x hx), h3.trans (k3.mono h3.size), fun x hx => ⟨fun hm => ?_, ?_⟩, fun x hx he => ?_, fun x hx => ?_⟩, k3⟩
  · have := k2 x hm; have := h1.ml x hx; omega
  · obtain ⟨_, _, _, _, _, h⟩ := h1
    exact h.me x hx
  · have := k2 x hx; have := h1.el x he; omega
  · exact ⟨(h4 x hx).1, (h4 x hx).2.1, fun hm => by have := k2 x hm; have := (h4 x hx).2.2; omega, (h4 x hx).2.1, Nat.lt_of_lt_of_le (h4 x hx).2.2 k3.size⟩
end
end Dk
end Go.Proofs.Ytoallpinpeolfaa
