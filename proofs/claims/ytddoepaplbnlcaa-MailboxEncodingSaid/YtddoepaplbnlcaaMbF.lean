/- The walks of valid, and of slices.IndexFunc over numbers and over messages. -/
import Derived.Test.YtddoepaplbnlcaaMbE
import Derived.Shelf.Abstract
namespace Go.Proofs.Ytddoepaplbnlcaa
open Go.RowKit Go.Shelf
namespace Mb

def badB (h : Int) : Bool := !good h
theorem bad_calls (h : Int) (w : World) : Calls Try.prog 65 #[.int .i64 h] w fun e w' => e = .returned (.bool (badB h)) ∧ w = w' := by
  by_cases h1 : h < 1
  · have HV : Hid (badB h = true) := Lib.hid (by unfold badB good; rw [decide_eq_false (by omega)]; rfl)
    go_enter Try.func65, Try.ntmps65
    go_wp2
    go_ret
    exact ⟨by rw [HV.out]; rfl, rfl⟩
  · by_cases h2 : 4294967296 < h
    · have HV : Hid (badB h = true) := Lib.hid (by unfold badB good; rw [decide_eq_false (by omega)]; rfl)
      have d : decide (h < 1) = false := by simpa using h1
      go_enter Try.func65, Try.ntmps65
      go_wp2
      go_ret
      exact ⟨by rw [HV.out]; rfl, rfl⟩
    · have HV : Hid (badB h = false) := Lib.hid (by unfold badB good; rw [decide_eq_true (by omega)]; rfl)
      have d : decide (h < 1) = false := by simpa using h1
      have d2 : decide (4294967296 < h) = false := by simpa using h2
      go_enter Try.func65, Try.ntmps65
      go_wp2
      go_ret
      exact ⟨by rw [HV.out]; rfl, rfl⟩
/-- the first that is such, or -1 -/
def idxI {α : Type} (l : List α) (p : α → Bool) : Int := match l.findIdx? p with
  | none => -1
  | some i => (i : Int)
theorem idxI_none {α : Type} {l : List α} {p : α → Bool} (h : ∀ x ∈ l, p x = false) : idxI l p = -1 := by
  unfold idxI
  rw [List.findIdx?_eq_none_iff.2 h]
theorem idxI_some {α : Type} {l : List α} {p : α → Bool} {k : Nat} (hk : k < l.length) (h : ∀ x ∈ l.take k, p x = false) (hp : p l[k] = true) : idxI l p = k := by
  unfold idxI
  have : l.findIdx? p = some k := List.findIdx?_eq_some_iff_getElem.2 ⟨hk, hp, fun j hj => by
    have := h l[j] (by rw [List.mem_take_iff_getElem]; exact ⟨j, by omega, rfl⟩)
    simp [this]⟩
  rw [this]
theorem idxI_any {α : Type} (l : List α) (p : α → Bool) : decide (0 ≤ idxI l p) = l.any p := by
  unfold idxI
  cases hf : l.findIdx? p with
  | none =>
    have := List.findIdx?_eq_none_iff.1 hf
    have h2 : l.any p = false := by rw [List.any_eq_false]; intro x hx; simp [this x hx]
    rw [h2]; rfl
  | some i =>
    obtain ⟨h1, h2, _⟩ := List.findIdx?_eq_some_iff_getElem.1 hf
    have h3 : l.any p = true := by rw [List.any_eq_true]; exact ⟨_, List.getElem_mem h1, h2⟩
    rw [h3]; simp
theorem take_more {α : Type} {l : List α} {P : α → Prop} {k : Nat} (hk : k < l.length) (h : ∀ x ∈ l.take k, P x) (hp : P l[k]) : ∀ x ∈ l.take (k + 1), P x := by
  intro x hx
  rw [List.take_succ_eq_append_getElem hk, List.mem_append, List.mem_singleton] at hx
  rcases hx with hx | rfl
  · exact h x hx
  · exact hp
theorem enters_bad : ∀ (args : Array Value) (w' : World), (callFunc 65 args).run Try.prog w' = .ok (.enter 65 args) w' := enters_of Try.func65 (by kernel_rfl) rfl
theorem indexBad_calls (A : Option Addr) (n c : Nat) (l : List Int) (w : World) (hn : l.length = n) (hr : Rd w A (l.map (Value.int .i64))) (hm : n ≤ 9223372036854775807) :
    Calls Try.prog 88 #[.slice A n c, .func (.func 65) #[] #[]] w fun e w' => e = .returned (.int .i64 (idxI l badB)) ∧ w = w' := by
  have HN := Lib.hid hn
  have HR := Lib.hid hr
  have HC := enters_bad
  clear hn hr
  go_enter Try.func88, Try.ntmps88
  go_wp2_with fail
  go_loop [8] (fun i => ∃ k : Nat, k ≤ n ∧ i = .int .i64 k ∧ ∀ x ∈ l.take k, badB x = false) (fun i => n - (intOf i).toNat)
  case atStart => exact ⟨0, by omega, rfl, by simp⟩
  case round =>
    obtain ⟨k, hk, rfl, hall⟩ := hrel
    have HA := Lib.hid hall
    clear hall
    by_cases hlt : k < n
    · have j1 : (k : Int) < (n : Int) := by omega
      have j0 : (0 : Int) ≤ (k : Int) := by omega
      have hkl : k < l.length := by have := HN.out; omega
      obtain ⟨b, off, e, hc⟩ := HR.out k _ (by rw [List.getElem?_map, List.getElem?_eq_getElem hkl]; rfl)
      subst e
      have HB := Lib.hid (bad_calls l[k] w)
      have HT := Lib.hid (take_more (P := fun x => badB x = false) hkl HA.out)
      have HS := Lib.hid (idxI_some (p := badB) hkl HA.out)
      generalize l[k] = z at *
      cases hb : badB z with
      | true =>
        have HS2 := Lib.hid (HS.out hb)
        rw [hb] at HB
        clear hb HT HS
        go_wp2_with (refine HB.out.mono ?_; rintro e w' ⟨rfl, rfl⟩)
        go_ret
        exact ⟨by rw [HS2.out]; rfl, rfl⟩
      | false =>
        have HT2 := Lib.hid (HT.out hb)
        rw [hb] at HB
        clear hb HT HS
        go_wp2_with (refine HB.out.mono ?_; rintro e w' ⟨rfl, rfl⟩)
        go_round
        case rel => exact ⟨k + 1, by omega, by go_num, HT2.out⟩
        case measure => simp [intOf]; omega
    · obtain rfl : k = n := by omega
      have HE : Hid (idxI l badB = -1) := Lib.hid (idxI_none (by rw [← List.take_of_length_le (Nat.le_of_eq HN.out)]; exact HA.out))
      go_wp2_with fail
      go_ret
      exact ⟨by rw [HE.out]; rfl, rfl⟩
theorem containsBad_calls (A : Option Addr) (n c : Nat) (l : List Int) (w : World) (hn : l.length = n) (hr : Rd w A (l.map (Value.int .i64))) (hm : n ≤ 9223372036854775807) :
    Calls Try.prog 67 #[.slice A n c, .func (.func 65) #[] #[]] w fun e w' => e = .returned (.bool (l.any badB)) ∧ w = w' := by
  have HC := Lib.hid (indexBad_calls A n c l w hn hr hm)
  have HD := Lib.hid (idxI_any l badB)
  clear hn hr
  generalize idxI l badB = z at *
  go_enter Try.func67, Try.ntmps67
  go_wp2_with (refine HC.out.mono ?_; rintro e w' ⟨rfl, rfl⟩)
  all_goals go_ret
  all_goals exact ⟨by rw [← HD.out]; rfl, rfl⟩
end Mb
end Go.Proofs.Ytddoepaplbnlcaa
