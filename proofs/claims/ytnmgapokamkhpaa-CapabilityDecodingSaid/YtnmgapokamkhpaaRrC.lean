/- The walks of refmeshref02's fail, Uint, Int and Done of the reader. -/
import Derived.Test.YtnmgapokamkhpaaRrB
import Derived.Test.YtnmgapokamkhpaaWrK
namespace Go.Proofs.Ytnmgapokamkhpaa
open Go.RowKit
namespace Wi
open Wr
variable {D : Nat}

/-- block g holds a reader of the reference; what is left lies below it -/
def IsRr (D : Nat) (w : World) (g : Nat) (r : Rs) : Prop :=
  ∃ A c, w.heap[g]? = some (.cells #[.slice A r.l.length c, .int .i64 r.e] 58 (0, 0)) ∧ r.l.length ≤ c ∧ c ≤ maxLen ∧ RB w A r.l ∧ (0 < r.l.length → ∀ b off, A = some ⟨b, off, none⟩ → b < D) ∧ D ≤ g
theorem IsRr.chg {w w' : World} {g : Nat} {r : Rs} {S : List Nat} (h : IsRr D w g r) (hc : Chg S w w') (hS : ∀ x ∈ S, D ≤ x ∧ x ≠ g) : IsRr D w' g r := by
  obtain ⟨A, c, h1, h2, h3, h4, h5, h6⟩ := h
  exact ⟨A, c, hc.blk h1 (fun hm => (hS g hm).2 rfl), h2, h3, RB.chg h4 hc fun hp b off e hm => by have h8 := (hS b hm).1; have h7 := h5 hp b off e; omega, h5, h6⟩
theorem IsRr.below {w w' : World} {g : Nat} {r : Rs} (h : IsRr D w g r) (hb : Below w.heap.size w w') : IsRr D w' g r :=
  h.chg (Chg.of_below hb []) (by simp)
theorem IsRr.dle {w : World} {g : Nat} {r : Rs} (h : IsRr D w g r) : D ≤ g := by
  obtain ⟨A, c, _, _, _, _, _, h6⟩ := h; exact h6
theorem IsRr.lt {w : World} {g : Nat} {r : Rs} (h : IsRr D w g r) : g < w.heap.size := by
  obtain ⟨A, c, h1, _⟩ := h; exact (Array.getElem?_eq_some_iff.1 h1).1
/-- cut down -/
theorem IsRr.cut {w w' : World} {g : Nat} {A : Option Addr} {c k : Nat} {l : List UInt8} (hr : RB w A l) (hlc : l.length ≤ c) (hcm : c ≤ maxLen) (hne : 0 < l.length → ∀ b off, A = some ⟨b, off, none⟩ → b < D) (hD : D ≤ g)
    (hc : Chg [g] w w') (hk : k ≤ l.length) (hg : w'.heap[g]? = some (.cells #[.slice (cutA A k c) (l.length - k) (c - k), .int .i64 0] 58 (0, 0))) : IsRr D w' g ⟨l.drop k, 0⟩ := by
  have hdl : (l.drop k).length = l.length - k := by simp
  have hbl : 0 < (l.drop k).length → ∀ b off, cutA A k c = some ⟨b, off, none⟩ → b < D := by
    intro hpos b off e
    have hl0 : 0 < l.length := by rw [hdl] at hpos; omega
    obtain ⟨b0, o0, rfl, _⟩ := RB.cells hr hl0
    have := cutA_some e
    subst this
    exact hne hl0 b o0 rfl
  exact ⟨cutA A k c, c - k, by simp only [hdl]; exact hg, by simp only [hdl]; omega, by omega, RB.chg (RB.cut hr k c hlc) hc (fun hp b off e => by have := hbl hp b off e; simp; omega), hbl, hD⟩

def FailP (D g : Nat) (k : Int) (w : World) (e : Ending) (w' : World) : Prop := e = .returned (.tuple #[]) ∧ IsRr D w' g (failR k) ∧ Chg [g] w w'
theorem rfail_calls (g : Nat) (s : Value) (er : Int) (k : Int) (w : World) (hD : D ≤ g) (h : w.heap[g]? = some (.cells #[s, .int .i64 er] 58 (0, 0))) :
    Calls Try.prog 34 #[.pointer (some ⟨g, 0, none⟩), .int .i64 k] w (FailP D g k w) := by
  have f0 : w.frozen? ⟨g, 0, none⟩ = false := frozen_of_row _ _ _ _ _ h
  have f1 : w.frozen? ⟨g, 1, none⟩ = false := frozen_of_row _ _ _ _ _ h
  have c0 : w.cell? ⟨g, 0, none⟩ = some s := (cell_of_row _ _ 0 _ _ _ h).trans rfl
  have c1 : w.cell? ⟨g, 1, none⟩ = some (.int .i64 er) := (cell_of_row _ _ 1 _ _ _ h).trans rfl
  have HF : Hid (FailP D g k w (.returned (.tuple #[])) ((w.setCell ⟨g, 0, none⟩ (.slice none 0 0)).setCell ⟨g, 1, none⟩ (.int .i64 k))) := by
    refine ⟨rfl, ⟨none, 0, heap_setCell_same _ _ _ _ _ _ (heap_setCell_same _ _ _ _ _ _ h), Nat.le_refl _, by simp [maxLen], RB.nil, (fun h => by cases h), hD⟩, ?_⟩
    exact ((Chg.refl [g] w).setCell (p := ⟨g, 0, none⟩) (.inl (by simp)) _).setCell (p := ⟨g, 1, none⟩) (.inl (by simp)) _
  clear h
  go_enter Try.func34, Try.ntmps34
  go_wp2_with fail
  go_end0
  exact HF.out

def RuP (D : Nat) (w : World) (g : Nat) (r : Rs) (e : Ending) (w' : World) : Prop :=
  e = .returned (.int .u64 ((uintR r).1 : Int)) ∧ IsRr D w' g (uintR r).2 ∧ Chg [g] w w'

theorem elem_u8s : Try.prog.elem 36 = 5 := by kernel_rfl

set_option maxRecDepth 100000 in
set_option maxHeartbeats 1000000 in
theorem rdUint_calls (g : Nat) (r : Rs) (w : World) (h : IsRr D w g r) : Calls Try.prog 23 #[.pointer (some ⟨g, 0, none⟩)] w (RuP D w g r) := by
  have HI := Lib.hid h
  obtain ⟨l, er⟩ := r
  obtain ⟨A, c, hg, hlc, hcm, hr, hne, hD⟩ := h
  simp only at hg hlc hr hne
  have c0 : w.cell? ⟨g, 0, none⟩ = some (.slice A l.length c) := (cell_of_row _ _ 0 _ _ _ hg).trans rfl
  have c1 : w.cell? ⟨g, 1, none⟩ = some (.int .i64 er) := (cell_of_row _ _ 1 _ _ _ hg).trans rfl
  have HG := Lib.hid hg
  have HR := Lib.hid hr
  have HNE := Lib.hid hne
  have hcm' := hcm
  unfold maxLen at hcm'
  clear hg hr hne
  by_cases he : er = 0
  · subst he
    have HN := Lib.hid (number_calls A l.length c l w rfl HR.out hlc hcm)
    obtain ⟨n, HLn⟩ : ∃ n, Hid (n = l.length) := ⟨_, rfl⟩
    rw [← HLn.out] at c0 HN hlc
    cases hp : parse l with
    | none =>
      have HP := Lib.hid hp
      have HNR : Hid (numR l = (0, -1)) := by show _ = _; unfold numR; rw [hp]
      have HF : Hid (∀ w', IsRr D w' g (failR 11) → Chg [g] w w' → RuP D w g ⟨l, 0⟩ (.returned (.int .u64 0)) w') := by
        intro w' h1 h2
        unfold RuP; rw [uintR_none ⟨l, 0⟩ rfl HP.out]; exact ⟨rfl, h1, h2⟩
      clear hp
      go_enter Try.func23, Try.ntmps23
      go_wp2_with fail
      refine HN.out.mono ?_
      rintro e w1 ⟨rfl, hc1⟩
      rw [HNR.out]
      have HFA := Lib.hid (rfail_calls g _ _ 11 w1 hD (hc1.blk HG.out (by simp)))
      have HC1 : Hid (Chg [g] w w1) := hc1.mono (by simp)
      clear hc1 c0 c1
      go_wp2_with fail
      refine HFA.out.mono ?_
      rintro e w2 ⟨rfl, hr2, hc2⟩
      have HZ := Lib.hid (HF.out w2 hr2 (HC1.out.trans' hc2))
      clear hr2 hc2
      go_wp2_with fail
      go_ret
      exact HZ.out
    | some p =>
      obtain ⟨v, k⟩ := p
      have hps := parse_some l v k hp
      have hkn : k ≤ n := by rw [HLn.out]; exact hps.2.2.1
      have HP := Lib.hid hp
      have HNR : Hid (numR l = (v, (k : Int))) := by show _ = _; unfold numR; rw [hp]
      have HF : Hid (∀ w', Chg [g] w w' → w'.heap[g]? = some (.cells #[.slice (cutA A k c) (n - k) (c - k), .int .i64 0] 58 (0, 0)) → RuP D w g ⟨l, 0⟩ (.returned (.int .u64 (v : Int))) w') := by
        intro w' h1 h2
        rw [HLn.out] at h2
        unfold RuP; rw [uintR_some ⟨l, 0⟩ rfl HP.out]
        exact ⟨rfl, IsRr.cut HR.out (by rw [← HLn.out]; exact hlc) hcm HNE.out hD h1 (by rw [← HLn.out]; exact hkn) h2, h1⟩
      have hcut := fun w' => run_cut_l (P := Try.prog) Try.underlying36 elem_u8s size_u8 A n c k hkn w'
      clear hp hps
      have d0 : decide ((k : Int) < 0) = false := by simp
      go_enter Try.func23, Try.ntmps23
      go_wp2_with fail
      refine HN.out.mono ?_
      rintro e w1 ⟨rfl, hc1⟩
      rw [HNR.out]
      have hg1 := hc1.blk HG.out (by simp)
      rw [← HLn.out] at hg1
      have HG1 := Lib.hid hg1
      have d0' : w1.cell? ⟨g, 0, none⟩ = some (.slice A n c) := (cell_of_row _ _ 0 _ _ _ hg1).trans rfl
      have f0 : w1.frozen? ⟨g, 0, none⟩ = false := frozen_of_row _ _ _ _ _ hg1
      have HC1 : Hid (Chg [g] w w1) := hc1.mono (by simp)
      clear hc1 c0 c1 hg1
      go_wp2_with fail
      go_ret
      exact HF.out _ (HC1.out.trans' ((Chg.refl [g] w1).setCell (p := ⟨g, 0, none⟩) (.inl (by simp)) _)) (heap_setCell_same _ _ _ _ _ _ HG1.out)
  · have q1 : (er != 0) = true := by simpa using he
    have HF : Hid (RuP D w g ⟨l, er⟩ (.returned (.int .u64 0)) w) := by
      unfold RuP; rw [uintR_err ⟨l, er⟩ he]; exact ⟨rfl, HI.out, Chg.refl _ _⟩
    clear he
    go_enter Try.func23, Try.ntmps23
    go_wp2_with fail
    go_ret
    exact HF.out
end Wi
end Go.Proofs.Ytnmgapokamkhpaa
