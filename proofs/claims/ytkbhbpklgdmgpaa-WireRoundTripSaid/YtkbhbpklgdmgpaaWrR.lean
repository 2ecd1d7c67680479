/- Items in memory; the walks of refmeshlaw02.long and WireAppends. -/
import Derived.Test.YtkbhbpklgdmgpaaWrQ
import Derived.Test.YtkbhbpklgdmgpaaOpenR
namespace Go.Proofs.Ytkbhbpklgdmgpaa
open Go.RowKit
namespace Wi
open Wr

/-- rows of one width, one after another -/
theorem flat_at {α : Type} (g : α → List Value) (s : Nat) (hg : ∀ x, (g x).length = s) (cs : List α) (i j : Nat) (hi : i < cs.length) (hj : j < s) : (cs.map g).flatten[i * s + j]? = (g cs[i])[j]? := by
  induction cs generalizing i with
  | nil => simp at hi
  | cons c cs ih =>
    rw [List.map_cons, List.flatten_cons]
    have hl := hg c
    cases i with
    | zero => rw [List.getElem?_append_left (by omega)]; simp
    | succ i =>
      rw [List.getElem?_append_right (by rw [hl, Nat.succ_mul]; omega), show (i + 1) * s + j - (g c).length = i * s + j by rw [hl, Nat.succ_mul]; omega, ih i (by simpa using hi)]
      rfl
theorem rd_rows {α : Type} {g : α → List Value} {s : Nat} (hg : ∀ x, (g x).length = s) (hs : 0 < s) {w : World} {A : Option Addr} {cs : List α} (h : Rd w A (cs.map g).flatten) (hn : 0 < cs.length) :
    ∃ b off, A = some ⟨b, off, none⟩ ∧ b < w.heap.size ∧ ∀ i (hi : i < cs.length) j v, j < s → (g cs[i])[j]? = some v → w.cell? ⟨b, off + i * s + j, none⟩ = some v := by
  have hpos : 0 < (cs.map g).flatten.length := by
    have h0 := flat_at g s hg cs 0 0 hn hs
    rcases Nat.eq_zero_or_pos (cs.map g).flatten.length with h | h
    · rw [List.getElem?_eq_none (by omega)] at h0
      have := hg cs[0]
      rw [List.getElem?_eq_getElem (by omega)] at h0; cases h0
    · exact h
  obtain ⟨b, off, e, hlt, hc⟩ := Rd.cells h hpos
  exact ⟨b, off, e, hlt, fun i hi j v hj hv => by rw [Nat.add_assoc]; exact hc _ _ ((flat_at g s hg cs i j hi hj).trans hv)⟩

/-- the slice reads as items -/
def RdI (w : World) (A : Option Addr) (cs : List It) : Prop := Rd w A (cs.map It.cells).flatten
theorem RdI.below {w w' : World} {A : Option Addr} {cs : List It} (h : RdI w A cs) (hb : Below w.heap.size w w') : RdI w' A cs := Rd.below h hb
theorem RdI.cells {w : World} {A : Option Addr} {cs : List It} (h : RdI w A cs) (hn : 0 < cs.length) : ∃ b off, A = some ⟨b, off, none⟩ ∧ b < w.heap.size ∧ ∀ i (hi : i < cs.length) j v, j < 7 → (cs[i].cells)[j]? = some v → w.cell? ⟨b, off + i * 7 + j, none⟩ = some v :=
  rd_rows (g := It.cells) (s := 7) (fun _ => rfl) (by decide) h hn

/-- long reports -/
def longB (cs : List It) : Bool := cs.any (fun x => decide (5000 < x.s.size)) || decide (30 < cs.length)
theorem longB_short {cs : List It} (h : longB cs = false) : cs.length ≤ 30 ∧ ∀ x ∈ cs, x.s.size ≤ 5000 := by
  unfold longB at h
  rw [Bool.or_eq_false_iff, List.any_eq_false, decide_eq_false_iff_not] at h
  exact ⟨by omega, fun x hx => by have := h.1 x hx; simp at this; omega⟩

set_option maxRecDepth 100000 in
set_option maxHeartbeats 1000000 in
theorem long_calls (A : Option Addr) (n cap : Nat) (cs : List It) (w : World) (hn : cs.length = n) (hnc : n ≤ cap) (hcm : cap ≤ maxLen) (hr : RdI w A cs) (hss : ∀ x ∈ cs, x.s.size ≤ maxLen) :
    Calls Try.prog 13 #[.slice A n cap] w fun e w' => e = .returned (.bool (longB cs)) ∧ w = w' := by
  unfold maxLen at hcm
  have HN := Lib.hid hn
  have HR := Lib.hid hr
  have HSS := Lib.hid hss
  clear hn hr hss
  go_enter Try.func13, Try.ntmps13
  go_wp2_with fail
  go_loop [3] (fun i => ∃ k : Nat, k ≤ n ∧ i = .int .i64 k ∧ ∀ x ∈ cs.take k, x.s.size ≤ 5000) (fun i => n - (intOf i).toNat)
  case atStart => exact ⟨0, by omega, rfl, by simp⟩
  case round =>
    obtain ⟨k, hk, rfl, hsm⟩ := hrel
    have HSM := Lib.hid hsm
    clear hsm
    by_cases hlt : k < n
    · have hkl : k < cs.length := by rw [HN.out]; exact hlt
      obtain ⟨b, off, rfl, hb, hc⟩ := HR.out.cells (by omega)
      obtain ⟨x, HX⟩ : ∃ x, Hid (x = cs[k]) := ⟨cs[k], rfl⟩
      have c3 : w.cell? ⟨b, off + k * 7 + 3, none⟩ = some (.string x.s) := hc k hkl 3 _ (by omega) (by rw [HX.out]; rfl)
      have hxs : x.s.size ≤ 9223372036854775807 := by have := HSS.out cs[k] (List.getElem_mem _); rw [HX.out]; unfold maxLen at this; exact this
      clear hc
      by_cases hbig : 5000 < x.s.size
      · have HF : Hid (longB cs = true) := by
          show _ = _
          unfold longB
          rw [List.any_eq_true.2 ⟨cs[k], List.getElem_mem _, by rw [← HX.out]; simpa using hbig⟩]; rfl
        have d1 : decide ((5000 : Int) < (x.s.size : Int)) = true := by simp; omega
        go_wp2_with fail
        go_ret
        exact ⟨by rw [HF.out]; rfl, rfl⟩
      · have d1 : decide ((5000 : Int) < (x.s.size : Int)) = false := by simp; omega
        go_wp2_with fail
        go_round
        case rel =>
          refine ⟨k + 1, by omega, by go_num, ?_⟩
          intro y hy
          rw [List.take_succ_eq_append_getElem hkl] at hy
          rcases List.mem_append.1 hy with h | h
          · exact HSM.out y h
          · rw [List.mem_singleton] at h; rw [h, ← HX.out]; omega
        case measure => simp [intOf]; omega
    · have hkn : k = n := by omega
      have HF : Hid (longB cs = decide ((30 : Int) < (n : Int))) := by
        show _ = _
        have h1 : cs.any (fun x => decide (5000 < x.s.size)) = false := by
          rw [List.any_eq_false]
          intro x hx
          have := HSM.out x (by rw [List.take_of_length_le (by rw [HN.out]; omega)]; exact hx)
          simp; omega
        unfold longB
        rw [h1, HN.out, Bool.false_or, decide_eq_decide]; omega
      by_cases h30 : 30 < n
      · have d1 : decide ((30 : Int) < (n : Int)) = true := by simp; omega
        clear hkn
        go_wp2_with fail
        go_ret
        exact ⟨by rw [HF.out, d1]; rfl, rfl⟩
      · have d1 : decide ((30 : Int) < (n : Int)) = false := by simp; omega
        clear hkn
        go_wp2_with fail
        go_ret
        exact ⟨by rw [HF.out, d1]; rfl, rfl⟩
end Wi
end Go.Proofs.Ytkbhbpklgdmgpaa
