/- Two disks and the reference's two, in blocks of the law. -/
import Derived.Test.YtoallpinpeolfaaDlE
namespace Go.Proofs.Ytoallpinpeolfaa
open Go.RowKit
namespace Dk

structure Half (w0 : World) (g c R S : Nat) (D D2 : St) (w : World) (N : List Nat) (A : Option Addr) (ca : Nat) (X : Option Addr) (cx : Nat) (P : List Pm) (F : List Nat) : Prop where
  pr : Pair w0 (R :: S :: (N ++ F)) g c D D2 w
  rx : w.heap[R]? = some (.cells #[.slice A (64 * D.n) ca, .slice X P.length cx, .bool D.x, .int .i64 D.f] 33 (0, 0))
  ik : IsK' w N D A ca X cx P
  rn : R ∉ N
  rf : R ∉ F
  sn : S ∉ N
  ne : R ≠ S
  bx : w0.heap.size ≤ R
/-- the new state is stored -/
theorem Half.put {w0 : World} {g c R S : Nat} {D D2 D6 : St} {w wn : World} {N F N6 : List Nat} {A X A6 X6 : Option Addr} {ca cx ca6 cx6 : Nat} {P P6 : List Pm} (h : Half w0 g c R S D D2 w N A ca X cx P F)
    (hb : Below w.heap.size w wn) (hi : IsK' wn N6 D6 A6 ca6 X6 cx6 P6) (hN : ∀ x ∈ N6, x ∈ N ∨ w.heap.size ≤ x) :
    Pair w0 (R :: S :: (N6 ++ F)) g c D D2 ((((wn.setCell ⟨R, 0, none⟩ (.slice A6 (64 * D6.n) ca6)).setCell ⟨R, 1, none⟩ (.slice X6 P6.length cx6)).setCell ⟨R, 2, none⟩ (.bool D6.x)).setCell ⟨R, 3, none⟩ (.int .i64 D6.f)) ∧
    ((((wn.setCell ⟨R, 0, none⟩ (.slice A6 (64 * D6.n) ca6)).setCell ⟨R, 1, none⟩ (.slice X6 P6.length cx6)).setCell ⟨R, 2, none⟩ (.bool D6.x)).setCell ⟨R, 3, none⟩ (.int .i64 D6.f)).heap[R]? = some (.cells #[.slice A6 (64 * D6.n) ca6, .slice X6 P6.length cx6, .bool D6.x, .int .i64 D6.f] 33 (0, 0)) ∧
    IsK' ((((wn.setCell ⟨R, 0, none⟩ (.slice A6 (64 * D6.n) ca6)).setCell ⟨R, 1, none⟩ (.slice X6 P6.length cx6)).setCell ⟨R, 2, none⟩ (.bool D6.x)).setCell ⟨R, 3, none⟩ (.int .i64 D6.f)) N6 D6 A6 ca6 X6 cx6 P6 ∧
    R ∉ N6 ∧ S ∉ N6 ∧ Kept (S :: F) w ((((wn.setCell ⟨R, 0, none⟩ (.slice A6 (64 * D6.n) ca6)).setCell ⟨R, 1, none⟩ (.slice X6 P6.length cx6)).setCell ⟨R, 2, none⟩ (.bool D6.x)).setCell ⟨R, 3, none⟩ (.int .i64 D6.f)) ∧
    w.heap.size ≤ ((((wn.setCell ⟨R, 0, none⟩ (.slice A6 (64 * D6.n) ca6)).setCell ⟨R, 1, none⟩ (.slice X6 P6.length cx6)).setCell ⟨R, 2, none⟩ (.bool D6.x)).setCell ⟨R, 3, none⟩ (.int .i64 D6.f)).heap.size := by
  have hl := h.pr.lt
  have hR : R < w.heap.size := hl R (by simp)
  have hS : S < w.heap.size := hl S (by simp)
  have hR6 : R ∉ N6 := fun hx => by
    rcases hN R hx with k | k
    · exact h.rn k
    · omega
  have hS6 : S ∉ N6 := fun hx => by
    rcases hN S hx with k | k
    · exact h.sn k
    · omega
  have hrn := (hb.block R hR).trans h.rx
  have hzz := heap_set4 hrn (.slice A6 (64 * D6.n) ca6) (.slice X6 P6.length cx6) (.bool D6.x) (.int .i64 D6.f)
  have hcz := chg_set4 wn R (.slice A6 (64 * D6.n) ca6) (.slice X6 P6.length cx6) (.bool D6.x) (.int .i64 D6.f)
  refine ⟨(h.pr.grow (F' := R :: S :: (N6 ++ F)) hb (fun x hx => ?_)).wr hcz (by simp; exact h.bx), hzz, hi.kept (fun x hx => hcz.block x (hi.nl x hx) (by simp; rintro rfl; exact hR6 hx)) hcz.size, hR6, hS6, fun x hx => ?_, Nat.le_trans hb.size hcz.size⟩
  · simp only [List.mem_cons, List.mem_append] at hx
    rcases hx with rfl | rfl | hx | hx
    · exact .inl (by simp)
    · exact .inl (by simp)
    · rcases hN x hx with k | k
      · exact .inl (by simp [k])
      · exact .inr ⟨k, hi.nl x hx⟩
    · exact .inl (by simp [hx])
  · have hxl : x < w.heap.size := hl x (by rcases List.mem_cons.1 hx with rfl | hx <;> simp [*])
    have hxR : x ≠ R := by
      rcases List.mem_cons.1 hx with rfl | hx
      · exact fun e => h.ne e.symm
      · rintro rfl; exact h.rf hx
    exact (hcz.block x (Nat.lt_of_lt_of_le hxl hb.size) (by simp; exact hxR)).trans (hb.block x hxl)

/-- the law's state -/
def ST (w0 : World) (g c R S : Nat) (D D2 : St) (w : World) : Prop :=
  ∃ N A ca X cx P N2 A2 ca2 X2 cx2 P2, Half w0 g c R S D D2 w N A ca X cx P N2 ∧ w.heap[S]? = some (.cells #[.slice A2 (64 * D2.n) ca2, .slice X2 P2.length cx2, .bool D2.x, .int .i64 D2.f] 33 (0, 0)) ∧ IsK' w N2 D2 A2 ca2 X2 cx2 P2 ∧ S ∉ N2 ∧ w0.heap.size ≤ S
theorem ST.swap {w0 w : World} {g c R S : Nat} {D D2 : St} (h : ST w0 g c R S D D2 w) : ST w0 c g S R D2 D w := by
  obtain ⟨N, A, ca, X, cx, P, N2, A2, ca2, X2, cx2, P2, h, h1, h2, h3, h4⟩ := h
  have hp : Pair w0 (S :: R :: (N2 ++ N)) c g D2 D w := h.pr.swap.sub (fun x hx => by
    simp only [List.mem_cons, List.mem_append] at hx ⊢
    rcases hx with hx | hx | hx | hx <;> simp [hx])
  exact ⟨N2, A2, ca2, X2, cx2, P2, N, A, ca, X, cx, P, ⟨hp, h1, h2, h3, h.sn, h.rf, fun e => h.ne e.symm, h4⟩, h.rx, h.ik, h.rn, h.bx⟩
end Dk
end Go.Proofs.Ytoallpinpeolfaa
