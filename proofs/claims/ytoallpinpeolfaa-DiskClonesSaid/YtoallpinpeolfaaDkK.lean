/- A slice of calls; the walk of refmeshref19.Few. -/
import Derived.Test.YtoallpinpeolfaaDkJ
namespace Go.Proofs.Ytoallpinpeolfaa
open Go.RowKit
namespace Dk

/-- a slice of calls reads -/
structure RdM (w : World) (A : Option Addr) (ms : List Cm) : Prop where
  rd : Rd w A (ms.map Cm.cells).flatten
  ok : ∀ m ∈ ms, m.ok w
theorem RdM.below {w w' : World} {A : Option Addr} {ms : List Cm} (h : RdM w A ms) (hb : Below w.heap.size w w') : RdM w' A ms := ⟨Rd.below h.rd hb, fun m hm => (h.ok m hm).below hb⟩
theorem mflat_get (cs : List Cm) (i j : Nat) (hi : i < cs.length) (hj : j < 5) : (cs.map Cm.cells).flatten[i * 5 + j]? = (cs[i].cells)[j]? := by
  induction cs generalizing i with
  | nil => simp at hi
  | cons c cs ih =>
    rw [List.map_cons, List.flatten_cons]
    have hl : c.cells.length = 5 := rfl
    cases i with
    | zero => rw [List.getElem?_append_left (by omega)]; simp
    | succ i =>
      rw [List.getElem?_append_right (by omega), show (i + 1) * 5 + j - c.cells.length = i * 5 + j by omega, ih i (by simpa using hi)]
      rfl
theorem RdM.cells {w : World} {A : Option Addr} {ms : List Cm} (h : RdM w A ms) (i : Nat) (hi : i < ms.length) : ∃ b off, A = some ⟨b, off, none⟩ ∧ b < w.heap.size ∧
    w.cell? ⟨b, off + i * 5, none⟩ = some (.int .i64 ms[i].c.kind) ∧ w.cell? ⟨b, off + i * 5 + 1, none⟩ = some (.int .i64 ms[i].c.sec) ∧ w.cell? ⟨b, off + i * 5 + 2, none⟩ = some (.int .i64 ms[i].c.n) ∧
    w.cell? ⟨b, off + i * 5 + 3, none⟩ = some (vb ms[i].c.seed) ∧ w.cell? ⟨b, off + i * 5 + 4, none⟩ = some (.slice ms[i].a ms[i].c.sv.length ms[i].cap) := by
  obtain ⟨b, off, e, h0⟩ := h.rd (i * 5) _ (mflat_get ms i 0 hi (by omega))
  refine ⟨b, off, e, block_lt_of_cell h0, h0, ?_, ?_, ?_, ?_⟩
  · obtain ⟨b', off', e', h1⟩ := h.rd (i * 5 + 1) _ (mflat_get ms i 1 hi (by omega))
    rw [e] at e'; cases e'; rw [Nat.add_assoc]; exact h1
  · obtain ⟨b', off', e', h1⟩ := h.rd (i * 5 + 2) _ (mflat_get ms i 2 hi (by omega))
    rw [e] at e'; cases e'; rw [Nat.add_assoc]; exact h1
  · obtain ⟨b', off', e', h1⟩ := h.rd (i * 5 + 3) _ (mflat_get ms i 3 hi (by omega))
    rw [e] at e'; cases e'; rw [Nat.add_assoc]; exact h1
  · obtain ⟨b', off', e', h1⟩ := h.rd (i * 5 + 4) _ (mflat_get ms i 4 hi (by omega))
    rw [e] at e'; cases e'; rw [Nat.add_assoc]; exact h1

/-- few and small -/
def fewB (ms : List Cm) (most : Nat) : Bool := ms.all (fun m => decide (m.c.sv.length ≤ 20)) && decide (ms.length ≤ most)
theorem fewB_of {ms : List Cm} {most : Nat} (h : fewB ms most = true) : (∀ m ∈ ms, m.c.sv.length ≤ 20) ∧ ms.length ≤ most := by
  unfold fewB at h
  simpa using h
set_option maxRecDepth 100000 in
theorem few_calls (A : Option Addr) (n ca most : Nat) (ms : List Cm) (w : World) (hn : ms.length = n) (hr : RdM w A ms) (hnm : n ≤ 9223372036854775807) :
    Calls Try.prog 9 #[.slice A n ca, .int .i64 (most : Int)] w fun e w' => e = .returned (.bool (fewB ms most)) ∧ w = w' := by
  have HN := Lib.hid hn
  have HR := Lib.hid hr
  clear hn hr
  go_enter Try.func9, Try.ntmps9
  go_wp2_with fail
  go_loop [5] (fun i => ∃ k : Nat, k ≤ n ∧ i = .int .i64 k ∧ ∀ m ∈ ms.take k, m.c.sv.length ≤ 20) (fun i => n - (intOf i).toNat)
  case atStart => exact ⟨0, by omega, rfl, by simp⟩
  case round =>
    obtain ⟨k, hk, rfl, hall⟩ := hrel
    have HA := Lib.hid hall
    clear hall
    have j0 : (0 : Int) ≤ (k : Int) := by omega
    by_cases hlt : k < n
    · have j1 : (k : Int) < (n : Int) := by omega
      have hkl : k < ms.length := by have := HN.out; omega
      obtain ⟨b, off, rfl, _, _, _, _, _, x4⟩ := HR.out.cells k hkl
      obtain ⟨m, HM⟩ : ∃ x, Hid (ms[k] = x) := ⟨ms[k], rfl⟩
      rw [HM.out] at x4
      have hsl := (HR.out.ok _ (List.getElem_mem hkl)).sl
      rw [HM.out] at hsl
      by_cases h20 : m.c.sv.length ≤ 20
      · have d1 : decide ((20 : Int) < (m.c.sv.length : Int)) = false := by simp; omega
        have HA2 : Hid (∀ m ∈ ms.take (k + 1), m.c.sv.length ≤ 20) := by
          intro x hx
          rw [List.take_succ_eq_append_getElem hkl, List.mem_append] at hx
          rcases hx with hx | hx
          · exact HA.out x hx
          · simp only [List.mem_singleton] at hx; rw [hx, HM.out]; exact h20
        generalize m.c.sv.length = sl at *
        go_wp2_with fail
        go_round
        case rel => exact ⟨k + 1, by omega, by go_num, HA2.out⟩
        case measure => simp [intOf]; omega
      · have d1 : decide ((20 : Int) < (m.c.sv.length : Int)) = true := by simp; omega
        have HF : Hid (fewB ms most = false) := by
          cases hf : fewB ms most
          · rfl
          · have := (fewB_of hf).1 ms[k] (List.getElem_mem hkl); rw [HM.out] at this; exact absurd this h20
        generalize m.c.sv.length = sl at *
        go_wp2_with fail
        go_ret
        exact ⟨by rw [HF.out]; rfl, rfl⟩
    · have HF : Hid (fewB ms most = decide (n ≤ most)) := by
        show _ = _
        have h1 := HA.out
        rw [List.take_of_length_le (by have := HN.out; omega)] at h1
        unfold fewB
        rw [HN.out, show (ms.all fun m => decide (m.c.sv.length ≤ 20)) = true by simpa using h1, Bool.true_and]
      go_wp2_with fail
      go_ret
      exact ⟨by rw [HF.out]; rfl, rfl⟩

/-- the state after calls -/
def runs (D : St) (cs : List Cm) : St := cs.foldl (fun D m => stD D m.c) D
theorem runs_snoc (D : St) (cs : List Cm) (k : Nat) (hk : k < cs.length) : runs D (cs.take (k + 1)) = stD (runs D (cs.take k)) cs[k].c := by
  unfold runs; rw [List.take_succ_eq_append_getElem hk, List.foldl_append]; rfl
theorem runs_n (D : St) (cs : List Cm) : (runs D cs).n = D.n := by
  induction cs generalizing D with
  | nil => rfl
  | cons c cs ih => exact (ih _).trans (stD_n D c.c)
theorem runs_p (D : St) (cs : List Cm) : (runs D cs).p.length ≤ D.p.length + cs.length := by
  induction cs generalizing D with
  | nil => exact Nat.le_refl _
  | cons c cs ih => have h1 := ih (stD D c.c); have h2 := stD_p D c.c; rw [List.length_cons]; show (runs (stD D c.c) cs).p.length ≤ _; omega
end Dk
end Go.Proofs.Ytoallpinpeolfaa
