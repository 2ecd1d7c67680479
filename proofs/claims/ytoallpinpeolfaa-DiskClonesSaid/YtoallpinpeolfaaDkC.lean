/- The walks of slices.Clone at bytes and at writes, and of write.apply. -/
import Derived.Test.YtoallpinpeolfaaDkB
namespace Go.Proofs.Ytoallpinpeolfaa
open Go.RowKit
namespace Dk

theorem nil_of_none {w : World} {vs : List Value} (h : Rd w none vs) : vs = [] := by
  cases vs with
  | nil => rfl
  | cons x l => obtain ⟨_, _, e, _⟩ := h 0 x rfl; cases e

/-- a new slice of bytes -/
def NewL (w : World) (l : List UInt8) (e : Ending) (w' : World) : Prop :=
  ∃ X c, e = .returned (.slice X l.length c) ∧ w'.ownsRow w.heap.size 5 1 (.slice X l.length c) l.length (l.map vb) ∧ Below w.heap.size w w'

set_option maxRecDepth 100000 in
set_option maxHeartbeats 1000000 in
theorem cloneB_calls (A : Option Addr) (n c : Nat) (l : List UInt8) (w : World) (hn : l.length = n) (hr : RB w A l) (hm : n ≤ 100000000) :
    Calls Try.prog 34 #[.slice A n c] w (NewL w l) := by
  subst hn
  have HR := Lib.hid hr
  cases A with
  | none =>
    have hl : l = [] := by have := nil_of_none hr; simpa using this
    subst hl
    have hq := fun w' => Lib.run_eql_slice_nil (P := Try.prog) w' 30 5 none 0 c 0 0 Try.underlying30
    clear hr
    go_enter Try.func34, Try.ntmps34
    go_wp2_with fail
    go_ret
    exact ⟨none, 0, rfl, ⟨rfl, .inl ⟨rfl, rfl⟩⟩, Below.refl _ _⟩
  | some a =>
    have hq := fun n w' => Lib.run_eql_slice_nil (P := Try.prog) w' 30 5 (some a) n c 0 0 Try.underlying30
    obtain ⟨n, HN⟩ : ∃ n, Hid (l.length = n) := ⟨_, rfl⟩
    rw [HN.out] at hm
    have HE : Hid (∀ X cX w5, w5.ownsRow w.heap.size 5 1 (.slice X n cX) n (l.map vb) → Below w.heap.size w w5 → NewL w l (.returned (.slice X n cX)) w5) := by
      intro X cX w5 h1 h2; rw [← HN.out] at h1 ⊢; exact ⟨X, cX, rfl, h1, h2⟩
    rw [HN.out]
    clear hr
    go_enter Try.func34, Try.ntmps34
    go_wp2_with (at_builtin; refine wpList_apps _ rfl (.tmp 5) (.tmp 6) 30 rfl w.heap.size 5 (.int .u8 0) 1 Try.underlying30 info_u8 rfl (.slice (some ⟨w.heap.size, 0, none⟩) 0 0) 0 [] rfl (own_empty _ _ _ _ rfl (Nat.le_refl _)) (some a) n c (l.map vb) rfl (by simp; exact HN.out) (Rd.alloc HR.out _) (vb_one _) (by simp only [maxLen]; omega) (by omega) (by simp) ?_; intro X cX w5 hown5 happ5; have HO5 := Lib.hid hown5; have HP5 := Lib.hid happ5; clear hown5 happ5)
    go_ret
    have hb5 : Below w.heap.size w w5 := (below1 w _).trans (HP5.out.below (own_empty w.heap.size _ _ _ rfl (Nat.le_refl _)) (by simp))
    have := HO5.out
    rw [Nat.zero_add, List.nil_append] at this
    have hx := HE.out X cX w5 this hb5
    simpa using hx

set_option maxRecDepth 100000 in
set_option maxHeartbeats 1000000 in
theorem cloneW_calls (A : Option Addr) (n c : Nat) (l : List Value) (w : World) (hn : l.length = n * 2) (hr : Rd w A l) (h1 : ∀ u ∈ l, u.oneCell' = true) (hm : n ≤ 100000) :
    Calls Try.prog 39 #[.slice A n c] w fun e w' => ∃ X cX, e = .returned (.slice X n cX) ∧ w'.ownsRow w.heap.size 74 2 (.slice X n cX) n l ∧ Below w.heap.size w w' := by
  have HR := Lib.hid hr
  have HN := Lib.hid hn
  have H1 := Lib.hid h1
  clear hn h1
  cases A with
  | none =>
    have hl := nil_of_none hr
    subst hl
    obtain rfl : n = 0 := by have := HN.out; simp at this; omega
    have hq := fun w' => Lib.run_eql_slice_nil (P := Try.prog) w' 65 74 none 0 c 0 0 Try.underlying65
    clear hr
    go_enter Try.func39, Try.ntmps39
    go_wp2_with fail
    go_ret
    exact ⟨none, 0, rfl, ⟨rfl, .inl ⟨rfl, rfl⟩⟩, Below.refl _ _⟩
  | some a =>
    have hq := fun w' => Lib.run_eql_slice_nil (P := Try.prog) w' 65 74 (some a) n c 0 0 Try.underlying65
    clear hr
    go_enter Try.func39, Try.ntmps39
    go_wp2_with (at_builtin; refine wpList_appS _ rfl (.tmp 5) (.tmp 6) 65 rfl w.heap.size 74 (.agg #[.int .i64 0, .slice none 0 0]) 2 32 Try.underlying65 info_wr rfl (by omega) (.slice (some ⟨w.heap.size, 0, none⟩) 0 0) 0 [] rfl (World.ownsRow_made _ _ 0 (Nat.le_refl _) (by simp [maxLen]) rfl) (some a) n c l rfl HN.out (Rd.alloc HR.out _) H1.out (by simp only [maxLen]; omega) (by omega) (by simp) ?_; intro X cX w5 hown5 happ5; have HO5 := Lib.hid hown5; have HP5 := Lib.hid happ5; clear hown5 happ5)
    go_ret
    have hb5 : Below w.heap.size w w5 := (below1 w _).trans (HP5.out.belowS (World.ownsRow_made (size := 2) _ _ 0 (Nat.le_refl _) (by simp [maxLen]) rfl) (by simp))
    have := HO5.out
    rw [Nat.zero_add, List.nil_append] at this
    exact ⟨X, cX, by simp, this, hb5⟩
end Dk
end Go.Proofs.Ytoallpinpeolfaa
