/- The walk of accept's closure. -/
import Derived.Test.YtjmcmilbkhacdaaTnI
import Derived.BigQuiet
namespace Go.Proofs.Ytjmcmilbkhacdaa
open Go.RowKit Go.Shelf
open Wi Wr
namespace Tc
theorem Chg.drewr {S : List Nat} {w w' : World} (h : Chg S w w') : Chg S w w'.drew := h.drew
theorem IsC.drewN {B g q r n : Nat} {w : World} {E : Nat → Option Bs} (h : IsC B w g q r n E) (hB : B ≤ w.heap.size) (z : Nat) : IsC B (w.drewN z) g q r n E :=
  h.st (Chg.of_below (Below.refl _ _ |> fun h => blw_drewN h z) []) (by simp) (Fz.of_below hB (blw_drewN (Below.refl _ _) z))
def NextP (B g q r n : Nat) (E : Nat → Option Bs) (w : World) (e : Ending) (w' : World) : Prop :=
  (E (r + 1) = none ∧ e = .returned (.tuple #[.slice none 0 0, .bool false]) ∧ Below w.heap.size w w') ∨
  ∃ x, E (r + 1) = some x ∧ e = .returned (.tuple #[bv x, .bool true]) ∧ IsC B w' g q (r + 1) n (upd E (r + 1) none) ∧ Chg (cS g q) w w'
set_option maxRecDepth 100000 in
set_option maxHeartbeats 4000000 in
theorem next_calls (B b0 g q r n : Nat) (E : Nat → Option Bs) (w : World) (hb0 : w.heap[b0]? = some (Obj.cells #[.pointer (some ⟨g, 0, none⟩)] 26 (0, 0))) (h : IsC B w g q r n E) (hB : B ≤ w.heap.size) (hr : r ≤ 100000000) :
    Calls Try.prog 38 #[.pointer (some ⟨b0, 0, none⟩)] w (NextP B g q r n E w) := by
  have HI := Lib.hid h
  have b1 : w.cell? ⟨b0, 0, none⟩ = some (.pointer (some ⟨g, 0, none⟩)) := (cell_of_row _ _ 0 _ _ _ hb0).trans rfl
  have c2 : w.cell? ⟨g, 2, none⟩ = some (.int .i64 (r : Int)) := (cell_of_row _ _ 2 _ _ _ h.hd).trans rfl
  have c4 : w.cell? ⟨g, 4, none⟩ = some (.map (some q)) := (cell_of_row _ _ 4 _ _ _ h.hd).trans rfl
  have f2 : w.frozen? ⟨g, 2, none⟩ = false := frozen_of_row _ _ 2 _ _ h.hd
  have hlk : ∀ z, (Instr.lookup 43 (.map (some q)) (.int .i64 ((r + 1 : Nat) : Int)) true).run Try.prog (w.drewN z) = .ok (.tuple #[((E (r + 1)).map bv).getD (.slice none 0 0), .bool (E (r + 1)).isSome]) (w.drewN z) := fun z => (h.drewN hB z).mp.look (r + 1) (by omega)
  have hw1 : IntKind.i64.wrap ((r : Int) + 1) = ((r + 1 : Nat) : Int) := by rw [IntWalk.i64_in _ (by omega)]; omega
  have hw2 : wrap64 ((r : Int) + 1) = ((r + 1 : Nat) : Int) := by unfold wrap64; omega
  have hgb : g ≠ b0 := fun e => by subst e; have := h.hd; rw [hb0] at this; injection this with this; injection this with _ this; exact absurd this (by decide)
  unfold NextP
  obtain ⟨r1, HR1⟩ : ∃ y, Hid (r + 1 = y) := ⟨_, Lib.hid rfl⟩
  rw [HR1.out] at hw1 hw2 hlk ⊢
  have HB0 := Lib.hid hb0
  obtain ⟨y, HY⟩ : ∃ y, Hid (E r1 = y) := ⟨_, Lib.hid rfl⟩
  rw [HY.out] at hlk ⊢
  clear h hb0
  cases y with
  | none =>
    have hlk : ∀ z, (Instr.lookup 43 (.map (some q)) (.int .i64 (r1 : Int)) true).run Try.prog (w.drewN z) = .ok (.tuple #[.slice none 0 0, .bool false]) (w.drewN z) := hlk
    go_enter Try.func38, Try.ntmps38
    go_upto_region 1 with (fail)
    go_quiet (fail)
    go_wp2_with fail
    go_ret2
    exact .inl ⟨trivial, rfl, blw_drewN (Below.refl _ _) _⟩
  | some x =>
    go_enter Try.func38, Try.ntmps38
    go_upto_region 1 with (fail)
    go_quiet (fail)
    have hbq : Below w.heap.size w (w.drewN nq) := blw_drewN (Below.refl _ _) _
    have HQ := Lib.hid (HI.out.drewN hB nq)
    have HBQ := Lib.hid ((hbq.block b0 (Array.getElem?_eq_some_iff.1 HB0.out).1).trans HB0.out)
    have hBq : B ≤ (w.drewN nq).heap.size := Nat.le_trans hB hbq.size
    have HBE := Lib.hid hbq
    clear hlk b1 c2 c4 f2 hbq
    generalize w.drewN nq = wq at *
    have b1 : wq.cell? ⟨b0, 0, none⟩ = some (.pointer (some ⟨g, 0, none⟩)) := (cell_of_row _ _ 0 _ _ _ HBQ.out).trans rfl
    have c2 : wq.cell? ⟨g, 2, none⟩ = some (.int .i64 (r : Int)) := (cell_of_row _ _ 2 _ _ _ HQ.out.hd).trans rfl
    have f2 : wq.frozen? ⟨g, 2, none⟩ = false := frozen_of_row _ _ 2 _ _ HQ.out.hd
    have hc1 : Chg [g] wq (wq.setCell ⟨g, 2, none⟩ (.int .i64 (r1 : Int))) := (Chg.refl [g] wq).setCell (p := ⟨g, 2, none⟩) (.inl (by simp)) _
    have hk1 : (wq.setCell ⟨g, 2, none⟩ (.int .i64 (r1 : Int))).heap[g]? = some (Obj.cells #[.int .i64 0, .int .i64 0, .int .i64 (r1 : Int), .slice none 0 0, .map (some q)] 45 (0, 0)) := heap_setCell_same _ _ _ _ _ _ HQ.out.hd
    have hf1 : Fz B wq (wq.setCell ⟨g, 2, none⟩ (.int .i64 (r1 : Int))) := (NB.cell HQ.out.hd HQ.out.gB (by decide)).fz hBq hc1
    have HE1 := Lib.hid (HQ.out.mp.st hc1 (by simp; exact fun e => HQ.out.ne e.symm) hf1)
    have HK1 := Lib.hid hk1
    have HC1 := Lib.hid hc1
    have HB1 := Lib.hid (hc1.blk HBQ.out (by simp; exact fun e => hgb e.symm))
    clear hc1 hk1 hf1
    go_upto_region 4 with (fail)
    clear b1 c2 f2
    generalize wq.setCell _ _ = w2 at *
    have hB2 : B ≤ w2.heap.size := Nat.le_trans hBq HC1.out.size
    have b1 : w2.cell? ⟨b0, 0, none⟩ = some (.pointer (some ⟨g, 0, none⟩)) := (cell_of_row _ _ 0 _ _ _ HB1.out).trans rfl
    have c2 : w2.cell? ⟨g, 2, none⟩ = some (.int .i64 (r1 : Int)) := (cell_of_row _ _ 2 _ _ _ HK1.out).trans rfl
    have c4 : w2.cell? ⟨g, 4, none⟩ = some (.map (some q)) := (cell_of_row _ _ 4 _ _ _ HK1.out).trans rfl
    obtain ⟨w3, hdl, he3, hmt⟩ := IsE.del (w := w2.drew) (HE1.out.st ((Chg.refl [] w2).drew) (by simp) (Fz.of_below hB2 (Below.refl _ _).drew)) hB2 r1 (by have := HR1.out; omega)
    have HE3 := Lib.hid he3
    have hc3 : Chg [q] w2 w3 := ((Chg.refl [q] w2).drew).trans' (Chg.of_grown hmt.grown (fun y hy => by injection hy with hy; simp [hy]))
    have HK3 := Lib.hid (hc3.blk HK1.out (by simp; exact HQ.out.ne))
    have HC3 := Lib.hid (((Chg.of_below HBE.out (cS g q)).trans' (HC1.out.mono (by simp [cS]))).trans' (hc3.mono (by simp [cS])))
    clear he3 hmt hc3
    go_region
    all_goals
      clear hdl
      go_wp2_with fail
      go_ret2
      exact .inr ⟨x, rfl, rfl, ⟨HK3.out, HI.out.gB, HE3.out⟩, HC3.out⟩
end Tc
end Go.Proofs.Ytjmcmilbkhacdaa
