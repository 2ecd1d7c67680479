/- What a law keeps of a journal: a variable that shows one. -/
import Derived.Test.YtmdpmpfjldgalaaMJoG
namespace Go.Proofs.Ytmdpmpfjldgalaa
open Go.RowKit
namespace Jn
open Dk Wi Wr

/-- block b holds what a journal shows; all that it leans on lies in blocks of F or is older than w1 -/
def WB (w1 : World) (F : List Nat) (b t : Nat) (s : List UInt8) (rs : List (List UInt8)) (w : World) : Prop :=
  ∃ c0 c1 c2 c3 c4 c5 c6 c7 c8 N, w.heap[b]? = some (.cells #[c0, c1, c2, c3, c4, c5, c6, c7, c8] 46 (0, 0)) ∧ SmV w N (.agg #[c0, c1, c2, c3, c4, c5, c6, c7, c8]) t s rs ∧ b ∈ F ∧ (∀ y ∈ N, y ∈ F ∨ y < w1.heap.size) ∧ b ∉ N
section
variable {w0 w1 w w' : World} {F F' : List Nat} {x g q b t : Nat} {s : List UInt8} {rs : List (List UInt8)} {D : St} {j : Jr}
theorem WB.kept (h : WB w1 F b t s rs w) (hk : Kept F w w') (h1 : Below w1.heap.size w1 w) (h2 : Below w1.heap.size w1 w') : WB w1 F b t s rs w' := by
  obtain ⟨c0, c1, c2, c3, c4, c5, c6, c7, c8, N, hd, hv, hb, hN, hbN⟩ := h
  refine ⟨c0, c1, c2, c3, c4, c5, c6, c7, c8, N, (hk b hb).trans hd, hv.kept (fun y hy => ?_), hb, hN, hbN⟩
  rcases hN y hy with h | h
  · exact hk y h
  · exact (h2.block y h).trans (h1.block y h).symm
theorem WB.below (h : WB w1 F b t s rs w) (hb : Below w.heap.size w w') : WB w1 F b t s rs w' := by
  obtain ⟨c0, c1, c2, c3, c4, c5, c6, c7, c8, N, hd, hv, hbF, hN, hbN⟩ := h
  exact ⟨c0, c1, c2, c3, c4, c5, c6, c7, c8, N, (hb.block _ (Array.getElem?_eq_some_iff.1 hd).1).trans hd, hv.below hb, hbF, hN, hbN⟩
theorem WB.sub (h : WB w1 F b t s rs w) (hs : ∀ y ∈ F, y ∈ F') : WB w1 F' b t s rs w := by
  obtain ⟨c0, c1, c2, c3, c4, c5, c6, c7, c8, N, hd, hv, hbF, hN, hbN⟩ := h
  exact ⟨c0, c1, c2, c3, c4, c5, c6, c7, c8, N, hd, hv, hs b hbF, fun y hy => (hN y hy).imp (hs y) id, hbN⟩
/-- an argument's bytes lie in blocks that were there -/
theorem arg_inR {A : Option Addr} {c : Nat} {l : List UInt8} (h : RB w A l) (hc : l.length ≤ c) (hm : c ≤ maxLen) : ∃ N, InR w N ⟨A, c, l⟩ ∧ ∀ y ∈ N, y < w.heap.size := by
  by_cases h0 : 0 < l.length
  · obtain ⟨b, off, rfl, hb, _⟩ := h.cells h0
    exact ⟨[b], ⟨h, hc, hm, fun _ b' off' e => by cases e; simp⟩, by simpa using hb⟩
  · exact ⟨[], ⟨h, hc, hm, fun hp => absurd hp h0⟩, by simp⟩
theorem PJ.append_calls (h : PJ w0 x g q F D j w) (A : Option Addr) (n c : Nat) (d : List UInt8) (hn : d.length = n) (hm : n ≤ 500000) (hr : RB w0 A d) (hD : D.n ≤ 100) (hc : Calm D) :
    Calls Try.prog 28 #[.pointer (some ⟨q, 0, none⟩), .slice A n c] w fun e w' => e = .returned (.int .i64 (appE D j d)) ∧ PJ w0 x g q F (appD D j d) (appJ D j d) w' ∧ Kept F w w' :=
  (Jn.append_calls w0 w F g q D j A n c d h.jo hn hm (fun _ _ hb => RB.below hr hb) hD hc).mono fun _ _ ⟨a, b, c⟩ => ⟨a, h.next b c, c⟩
theorem PJ.checkpoint_calls (h : PJ w0 x g q F D j w) (A : Option Addr) (n c : Nat) (d : List UInt8) (hn : d.length = n) (hm : n ≤ 500000) (hr : RB w0 A d) (hD : D.n ≤ 100) (hc : Calm D) :
    Calls Try.prog 30 #[.pointer (some ⟨q, 0, none⟩), .slice A n c] w fun e w' => e = .returned (.int .i64 (chkE D j d)) ∧ PJ w0 x g q F (chkD D j d) (chkJ D j d) w' ∧ Kept F w w' :=
  (Jn.checkpoint_calls w0 w F g q D j A n c d h.jo hn hm (fun _ _ hb => RB.below hr hb) hD hc).mono fun _ _ ⟨a, b, c⟩ => ⟨a, h.next b c, c⟩
theorem PJ.rsl (h : PJ w0 x g q F D j w) (hn : D.n ≤ 100) : j.rs.length ≤ 1000 := by
  obtain ⟨W, R, _, hi, _⟩ := h.jo
  obtain ⟨_, _, _, _, _, _, h3⟩ := hi
  have h4 := h3.ok.r
  have h5 := h3.ok.e
  unfold half at h5
  omega
/-- an undisturbed journal refuses what does not fit, and else takes it -/
theorem Play.appe (h : Play D j) (r : List UInt8) : (apFull D j r = true ∧ appE D j r = 8 ∧ appD D j r = D ∧ appJ D j r = j) ∨ (apFull D j r = false ∧ appE D j r = 0 ∧ Play (appD D j r) (appJ D j r) ∧ (appD D j r).n = D.n ∧ appJ D j r = { j with rs := j.rs ++ [r], e := j.e + (apB j r).length / 64 }) := by
  have hx : ¬ j.x = true := by rw [h.jx]; simp
  cases hf : apFull D j r with
  | true => exact .inl ⟨rfl, by unfold appE; rw [if_neg hx, if_pos hf], by unfold appD; rw [if_neg hx, if_pos hf], by unfold appJ; rw [if_neg hx, if_pos hf]⟩
  | false =>
    obtain ⟨h1, h2, h3, h4⟩ := h.append r hf
    exact .inr ⟨rfl, h1, by rw [h2]; exact h3, h4, h2⟩
theorem Play.chke (h : Play D j) (s : List UInt8) : chkE D j s = 8 ∨ (chkE D j s = 0 ∧ Play (chkD D j s) (chkJ D j s) ∧ (chkD D j s).n = D.n ∧ chkJ D j s = ⟨j.t + 1, s, [], (ckB j s).length / 64, false⟩) := by
  have hx : ¬ j.x = true := by rw [h.jx]; simp
  cases hf : ckFull D j s with
  | true => exact .inl (by unfold chkE; rw [if_neg hx, if_pos hf])
  | false =>
    obtain ⟨h1, h2, h3, h4⟩ := h.checkpoint s hf
    exact .inr ⟨h1, by rw [h2]; exact h3, h4, h2⟩
end
end Jn
end Go.Proofs.Ytmdpmpfjldgalaa
