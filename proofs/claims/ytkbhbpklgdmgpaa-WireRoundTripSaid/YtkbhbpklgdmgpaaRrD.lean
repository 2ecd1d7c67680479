/- The walks of refmeshref02's Int, Count, String, Bool, Done of the reader. -/
import Derived.Test.YtkbhbpklgdmgpaaRrC
namespace Go.Proofs.Ytkbhbpklgdmgpaa
open Go.RowKit
namespace Wi
open Wr
variable {D : Nat}

theorem run_cut_u {P : Program} {t e : TypeId} (ht : P.underlying t = some (.slice e)) (he : P.elem t = e) (hs : (P.info? e).map (·.size) = some 1) (A : Option Addr) (n cap lo : Nat) (h1 : lo ≤ n) (w : World) :
    (Instr.slice t (.slice A n cap) (some (.int .u64 lo)) none none).run P w = .ok (.slice (cutA A lo cap) (n - lo) (cap - lo)) w := by
  subst he
  rw [run_slice_l w t A n cap ht .u64 lo (by omega) (by omega)]
  obtain ⟨i, hi', hsz⟩ := Option.map_eq_some_iff.1 hs
  simp [sizeOf, typeInfo, hi', hsz, sliced, cutA]

/-- Count -/
def countR (most : Int) (r : Rs) : Nat × Rs :=
  if (uintR r).2.e ≠ 0 then (0, (uintR r).2) else if most < 0 ∨ most < ((uintR r).1 : Int) then (0, failR 8) else if (uintR r).2.l.length < (uintR r).1 then (0, failR 11) else uintR r
/-- Bool -/
def boolR (r : Rs) : Bool × Rs :=
  if r.e ≠ 0 then (false, r) else match r.l with
    | [] => (false, failR 11)
    | x :: t => if 1 < x.toNat then (false, failR 11) else (decide (x.toNat = 1), ⟨t, 0⟩)

def RP (D : Nat) (w : World) (g : Nat) (v : Value) (r2 : Rs) (e : Ending) (w' : World) : Prop := e = .returned v ∧ IsRr D w' g r2 ∧ Chg [g] w w'


set_option maxRecDepth 100000 in
theorem rdInt_calls (g : Nat) (r : Rs) (w : World) (h : IsRr D w g r) : Calls Try.prog 44 #[.pointer (some ⟨g, 0, none⟩)] w (RP D w g (.int .i64 (unzig (uintR r).1)) (uintR r).2) := by
  have HU := Lib.hid (rdUint_calls g r w h); unfold RuP at HU; have hlt := uintR_lt r
  clear h
  generalize (uintR r).1 = n at *
  generalize (uintR r).2 = r2 at *
  have HF : Hid (∀ z : Int, z = unzig n → ∀ w', IsRr D w' g r2 → Chg [g] w w' → RP D w g (.int .i64 (unzig n)) r2 (.returned (.int .i64 z)) w') := by
    rintro z rfl w' h1 h2; exact ⟨rfl, h1, h2⟩
  by_cases hp : n % 2 = 1
  · have d : (((n : Int) % 2) == 1) = true := by rw [beq_iff_eq]; omega
    have HZ : Hid (-((n : Int) / 2) - 1 = unzig n) := by show _ = _; unfold unzig; rw [if_neg (by omega)]; omega
    have b1 : (n : Int) / 2 ≤ 9223372036854775807 := by omega
    have b2 : 0 ≤ (n : Int) / 2 := by omega
    clear hp
    go_enter Try.func44, Try.ntmps44
    go_wp2_with fail
    refine HU.out.mono ?_
    rintro e w1 ⟨rfl, hr, hc⟩
    have HR := Lib.hid hr
    have HC := Lib.hid hc
    clear hr hc HU
    go_wp2_with fail
    go_ret
    exact HF.out _ HZ.out _ HR.out HC.out
  · have d : (((n : Int) % 2) == 1) = false := by rw [beq_eq_false_iff_ne]; omega
    have HZ : Hid ((n : Int) / 2 = unzig n) := by show _ = _; unfold unzig; rw [if_pos (by omega)]; omega
    have b1 : (n : Int) / 2 ≤ 9223372036854775807 := by omega
    have b2 : 0 ≤ (n : Int) / 2 := by omega
    clear hp
    go_enter Try.func44, Try.ntmps44
    go_wp2_with fail
    refine HU.out.mono ?_
    rintro e w1 ⟨rfl, hr, hc⟩
    have HR := Lib.hid hr
    have HC := Lib.hid hc
    clear hr hc HU
    go_wp2_with fail
    go_ret
    exact HF.out _ HZ.out _ HR.out HC.out

set_option maxRecDepth 100000 in
set_option maxHeartbeats 1000000 in
theorem rdCount_calls (g : Nat) (r : Rs) (most : Int) (w : World) (h : IsRr D w g r) (hm1 : -9223372036854775808 ≤ most) (hm2 : most ≤ 9223372036854775807) :
    Calls Try.prog 48 #[.pointer (some ⟨g, 0, none⟩), .int .i64 most] w (RP D w g (.int .i64 ((countR most r).1 : Int)) (countR most r).2) := by
  have HU := Lib.hid (rdUint_calls g r w h); unfold RuP at HU; have hlt := uintR_lt r
  obtain ⟨cr, HCR⟩ : ∃ x, Hid (x = countR most r) := ⟨_, rfl⟩
  have HCR' := HCR.out
  unfold countR at HCR'
  rw [show uintR r = ((uintR r).1, (uintR r).2) from rfl] at HCR'
  rw [← HCR.out]
  clear HCR h
  generalize (uintR r).1 = n at *; generalize (uintR r).2 = r2 at *; obtain ⟨l2, e2⟩ := r2
  simp only at HCR'
  by_cases he : e2 = 0
  · subst he
    rw [if_neg (by simp)] at HCR'
    by_cases h1 : most < 0 ∨ most < (n : Int)
    · rw [if_pos h1] at HCR'
      subst HCR'
      by_cases hz : most < 0
      · have d1 : decide (most < 0) = true := by simpa using hz
        go_enter Try.func48, Try.ntmps48
        go_wp2_with fail
        refine HU.out.mono ?_; rintro e w1 ⟨rfl, hr, hc⟩; have HR := Lib.hid hr; have HC := Lib.hid hc; obtain ⟨A, c, hg, hlc, hcm, hrb, hne, hD⟩ := hr; simp only at hg hlc hrb hne; have c0 : w1.cell? ⟨g, 0, none⟩ = some (.slice A l2.length c) := (cell_of_row _ _ 0 _ _ _ hg).trans rfl; have c1 : w1.cell? ⟨g, 1, none⟩ = some (.int .i64 0) := (cell_of_row _ _ 1 _ _ _ hg).trans rfl; have HG := Lib.hid hg; have HRB := Lib.hid hrb; have HNE := Lib.hid hne; have hcm' := hcm; unfold maxLen at hcm'; clear hg hrb hne hc HU
        have HFA := Lib.hid (rfail_calls g _ _ 8 w1 hD HG.out)
        go_wp2_with fail
        refine HFA.out.mono ?_
        rintro e w2 ⟨rfl, hr2, hc2⟩
        have HZ : Hid (RP D w g (.int .i64 0) (failR 8) (.returned (.int .i64 0)) w2) := ⟨rfl, hr2, HC.out.trans' hc2⟩
        clear hr2 hc2
        go_wp2_with fail
        go_ret
        exact HZ.out
      · have d1 : decide (most < 0) = false := by simpa using hz
        have hz' : 0 ≤ most := by omega
        have d2 : decide (most < (n : Int)) = true := by simp; omega
        clear hz
        go_enter Try.func48, Try.ntmps48
        go_wp2_with fail
        refine HU.out.mono ?_; rintro e w1 ⟨rfl, hr, hc⟩; have HR := Lib.hid hr; have HC := Lib.hid hc; obtain ⟨A, c, hg, hlc, hcm, hrb, hne, hD⟩ := hr; simp only at hg hlc hrb hne; have c0 : w1.cell? ⟨g, 0, none⟩ = some (.slice A l2.length c) := (cell_of_row _ _ 0 _ _ _ hg).trans rfl; have c1 : w1.cell? ⟨g, 1, none⟩ = some (.int .i64 0) := (cell_of_row _ _ 1 _ _ _ hg).trans rfl; have HG := Lib.hid hg; have HRB := Lib.hid hrb; have HNE := Lib.hid hne; have hcm' := hcm; unfold maxLen at hcm'; clear hg hrb hne hc HU
        have HFA := Lib.hid (rfail_calls g _ _ 8 w1 hD HG.out)
        go_wp2_with fail
        refine HFA.out.mono ?_
        rintro e w2 ⟨rfl, hr2, hc2⟩
        have HZ : Hid (RP D w g (.int .i64 0) (failR 8) (.returned (.int .i64 0)) w2) := ⟨rfl, hr2, HC.out.trans' hc2⟩
        clear hr2 hc2
        go_wp2_with fail
        go_ret
        exact HZ.out
    · rw [if_neg h1] at HCR'
      have hz' : 0 ≤ most := by omega
      have hz2 : (n : Int) ≤ most := by omega
      have d1 : decide (most < 0) = false := by simp; omega
      have d2 : decide (most < (n : Int)) = false := by simp; omega
      by_cases h2 : l2.length < n
      · rw [if_pos h2] at HCR'
        subst HCR'
        have d3 : decide ((l2.length : Int) < (n : Int)) = true := by simp; omega
        have d3' : decide (l2.length < n) = true := by simp; omega
        clear h1
        go_enter Try.func48, Try.ntmps48
        go_wp2_with fail
        refine HU.out.mono ?_; rintro e w1 ⟨rfl, hr, hc⟩; have HR := Lib.hid hr; have HC := Lib.hid hc; obtain ⟨A, c, hg, hlc, hcm, hrb, hne, hD⟩ := hr; simp only at hg hlc hrb hne; have c0 : w1.cell? ⟨g, 0, none⟩ = some (.slice A l2.length c) := (cell_of_row _ _ 0 _ _ _ hg).trans rfl; have c1 : w1.cell? ⟨g, 1, none⟩ = some (.int .i64 0) := (cell_of_row _ _ 1 _ _ _ hg).trans rfl; have HG := Lib.hid hg; have HRB := Lib.hid hrb; have HNE := Lib.hid hne; have hcm' := hcm; unfold maxLen at hcm'; clear hg hrb hne hc HU
        have HFA := Lib.hid (rfail_calls g _ _ 11 w1 hD HG.out)
        go_wp2_with fail
        refine HFA.out.mono ?_
        rintro e w2 ⟨rfl, hr2, hc2⟩
        have HZ : Hid (RP D w g (.int .i64 0) (failR 11) (.returned (.int .i64 0)) w2) := ⟨rfl, hr2, HC.out.trans' hc2⟩
        clear hr2 hc2
        go_wp2_with fail
        go_ret
        exact HZ.out
      · rw [if_neg h2] at HCR'
        subst HCR'
        have d3 : decide ((l2.length : Int) < (n : Int)) = false := by simp; omega
        have d3' : decide (l2.length < n) = false := by simp; omega
        clear h1
        go_enter Try.func48, Try.ntmps48
        go_wp2_with fail
        refine HU.out.mono ?_; rintro e w1 ⟨rfl, hr, hc⟩; have HR := Lib.hid hr; have HC := Lib.hid hc; obtain ⟨A, c, hg, hlc, hcm, hrb, hne, hD⟩ := hr; simp only at hg hlc hrb hne; have c0 : w1.cell? ⟨g, 0, none⟩ = some (.slice A l2.length c) := (cell_of_row _ _ 0 _ _ _ hg).trans rfl; have c1 : w1.cell? ⟨g, 1, none⟩ = some (.int .i64 0) := (cell_of_row _ _ 1 _ _ _ hg).trans rfl; have HG := Lib.hid hg; have HRB := Lib.hid hrb; have HNE := Lib.hid hne; have hcm' := hcm; unfold maxLen at hcm'; clear hg hrb hne hc HU
        have HZ : Hid (RP D w g (.int .i64 (n : Int)) ⟨l2, 0⟩ (.returned (.int .i64 (n : Int))) w1) := ⟨rfl, HR.out, HC.out⟩
        go_wp2_with fail
        go_ret
        exact HZ.out
  · rw [if_pos he] at HCR'
    subst HCR'
    have q1 : (e2 != 0) = true := by simpa using he
    clear he
    go_enter Try.func48, Try.ntmps48
    go_wp2_with fail
    refine HU.out.mono ?_; rintro e w1 ⟨rfl, hr, hc⟩; have HR := Lib.hid hr; have HC := Lib.hid hc; obtain ⟨A, c, hg, hlc, hcm, hrb, hne, hD⟩ := hr; simp only at hg hlc hrb hne; have c0 : w1.cell? ⟨g, 0, none⟩ = some (.slice A l2.length c) := (cell_of_row _ _ 0 _ _ _ hg).trans rfl; have c1 : w1.cell? ⟨g, 1, none⟩ = some (.int .i64 e2) := (cell_of_row _ _ 1 _ _ _ hg).trans rfl; have HG := Lib.hid hg; have HRB := Lib.hid hrb; have HNE := Lib.hid hne; have hcm' := hcm; unfold maxLen at hcm'; clear hg hrb hne hc HU
    have HZ : Hid (RP D w g (.int .i64 0) ⟨l2, e2⟩ (.returned (.int .i64 0)) w1) := ⟨rfl, HR.out, HC.out⟩
    go_wp2_with fail
    go_ret
    exact HZ.out

set_option maxRecDepth 100000 in
set_option maxHeartbeats 1000000 in
theorem rdString_calls (g : Nat) (r : Rs) (w : World) (h : IsRr D w g r) :
    Calls Try.prog 45 #[.pointer (some ⟨g, 0, none⟩)] w (RP D w g (.string ⟨(stringR r).1.toArray⟩) (stringR r).2) := by
  have HU := Lib.hid (rdUint_calls g r w h); unfold RuP at HU; have hlt := uintR_lt r
  obtain ⟨cr, HCR⟩ : ∃ x, Hid (x = stringR r) := ⟨_, rfl⟩
  have HCR' := HCR.out
  unfold stringR at HCR'
  rw [← HCR.out]
  clear HCR h
  generalize (uintR r).1 = n at *; generalize (uintR r).2 = r2 at *; obtain ⟨l2, e2⟩ := r2
  simp only at HCR'
  by_cases he : e2 = 0
  · subst he
    rw [if_neg (by simp)] at HCR'
    by_cases h1 : 4096 < n
    · rw [if_pos h1] at HCR'
      subst HCR'
      have d2 : decide ((4096 : Int) < (n : Int)) = true := by simp; omega
      go_enter Try.func45, Try.ntmps45
      go_wp2_with fail
      refine HU.out.mono ?_; rintro e w1 ⟨rfl, hr, hc⟩; have HR := Lib.hid hr; have HC := Lib.hid hc; obtain ⟨A, c, hg, hlc, hcm, hrb, hne, hD⟩ := hr; simp only at hg hlc hrb hne; have c0 : w1.cell? ⟨g, 0, none⟩ = some (.slice A l2.length c) := (cell_of_row _ _ 0 _ _ _ hg).trans rfl; have c1 : w1.cell? ⟨g, 1, none⟩ = some (.int .i64 0) := (cell_of_row _ _ 1 _ _ _ hg).trans rfl; have HG := Lib.hid hg; have HRB := Lib.hid hrb; have HNE := Lib.hid hne; have hcm' := hcm; unfold maxLen at hcm'; clear hg hrb hne hc HU
      have HFA := Lib.hid (rfail_calls g _ _ 8 w1 hD HG.out)
      go_wp2_with fail
      refine HFA.out.mono ?_
      rintro e w2 ⟨rfl, hr2, hc2⟩
      have HZ : Hid (RP D w g (.string ⟨#[]⟩) (failR 8) (.returned (.string ⟨#[]⟩)) w2) := ⟨rfl, hr2, HC.out.trans' hc2⟩
      clear hr2 hc2
      go_wp2_with fail
      go_ret
      exact HZ.out
    · rw [if_neg h1] at HCR'
      have d2 : decide ((4096 : Int) < (n : Int)) = false := by simp; omega
      by_cases h2 : l2.length < n
      · rw [if_pos h2] at HCR'
        subst HCR'
        have d3 : decide ((l2.length : Int) < (n : Int)) = true := by simp; omega
        have d3' : decide (l2.length < n) = true := by simp; omega
        go_enter Try.func45, Try.ntmps45
        go_wp2_with fail
        refine HU.out.mono ?_; rintro e w1 ⟨rfl, hr, hc⟩; have HR := Lib.hid hr; have HC := Lib.hid hc; obtain ⟨A, c, hg, hlc, hcm, hrb, hne, hD⟩ := hr; simp only at hg hlc hrb hne; have c0 : w1.cell? ⟨g, 0, none⟩ = some (.slice A l2.length c) := (cell_of_row _ _ 0 _ _ _ hg).trans rfl; have c1 : w1.cell? ⟨g, 1, none⟩ = some (.int .i64 0) := (cell_of_row _ _ 1 _ _ _ hg).trans rfl; have HG := Lib.hid hg; have HRB := Lib.hid hrb; have HNE := Lib.hid hne; have hcm' := hcm; unfold maxLen at hcm'; clear hg hrb hne hc HU
        have HFA := Lib.hid (rfail_calls g _ _ 11 w1 hD HG.out)
        go_wp2_with fail
        refine HFA.out.mono ?_
        rintro e w2 ⟨rfl, hr2, hc2⟩
        have HZ : Hid (RP D w g (.string ⟨#[]⟩) (failR 11) (.returned (.string ⟨#[]⟩)) w2) := ⟨rfl, hr2, HC.out.trans' hc2⟩
        clear hr2 hc2
        go_wp2_with fail
        go_ret
        exact HZ.out
      · rw [if_neg h2] at HCR'
        subst HCR'
        have d3 : decide ((l2.length : Int) < (n : Int)) = false := by simp; omega
        have d3' : decide (l2.length < n) = false := by simp; omega
        go_enter Try.func45, Try.ntmps45
        go_wp2_with fail
        refine HU.out.mono ?_; rintro e w1 ⟨rfl, hr, hc⟩; have HR := Lib.hid hr; have HC := Lib.hid hc; obtain ⟨A, c, hg, hlc, hcm, hrb, hne, hD⟩ := hr; simp only at hg hlc hrb hne; have c0 : w1.cell? ⟨g, 0, none⟩ = some (.slice A l2.length c) := (cell_of_row _ _ 0 _ _ _ hg).trans rfl; have c1 : w1.cell? ⟨g, 1, none⟩ = some (.int .i64 0) := (cell_of_row _ _ 1 _ _ _ hg).trans rfl; have HG := Lib.hid hg; have HRB := Lib.hid hrb; have HNE := Lib.hid hne; have hcm' := hcm; unfold maxLen at hcm'; clear hg hrb hne hc HU
        have f0 : w1.frozen? ⟨g, 0, none⟩ = false := frozen_of_row _ _ _ _ _ HG.out
        have hcv := run_str (P := Try.prog) (w := w1) n c 24 5 9 Try.underlying24 Try.underlying5 Try.underlying9 (by simp; omega) (RB.take HRB.out n)
        have hcut := fun w' => run_cut_u (P := Try.prog) Try.underlying24 elem_u8s size_u8 A l2.length c n (by omega) w'
        have k1 : (n : Int) ≤ (l2.length : Int) := by omega
        have k2 : (n : Int) ≤ (c : Int) := by omega
        have HZ : Hid (∀ sl, sl = Value.slice (cutA A n c) (l2.length - n) (c - n) → RP D w g (.string ⟨(l2.take n).toArray⟩) ⟨l2.drop n, 0⟩ (.returned (.string ⟨(l2.take n).toArray⟩)) (w1.setCell ⟨g, 0, none⟩ sl)) := by
          rintro sl rfl
          have hcs : Chg [g] w1 (w1.setCell ⟨g, 0, none⟩ (.slice (cutA A n c) (l2.length - n) (c - n))) := (Chg.refl [g] w1).setCell (p := ⟨g, 0, none⟩) (.inl (by simp)) _
          exact ⟨rfl, IsRr.cut HRB.out hlc hcm HNE.out hD hcs (by omega) (heap_setCell_same _ _ _ _ _ _ HG.out), HC.out.trans' hcs⟩
        generalize l2.take n = ln at *
        generalize l2.length = m at *
        go_wp2_with fail
        go_ret
        exact HZ.out _ rfl
  · rw [if_pos he] at HCR'
    subst HCR'
    have q1 : (e2 != 0) = true := by simpa using he
    clear he
    go_enter Try.func45, Try.ntmps45
    go_wp2_with fail
    refine HU.out.mono ?_; rintro e w1 ⟨rfl, hr, hc⟩; have HR := Lib.hid hr; have HC := Lib.hid hc; obtain ⟨A, c, hg, hlc, hcm, hrb, hne, hD⟩ := hr; simp only at hg hlc hrb hne; have c0 : w1.cell? ⟨g, 0, none⟩ = some (.slice A l2.length c) := (cell_of_row _ _ 0 _ _ _ hg).trans rfl; have c1 : w1.cell? ⟨g, 1, none⟩ = some (.int .i64 e2) := (cell_of_row _ _ 1 _ _ _ hg).trans rfl; have HG := Lib.hid hg; have HRB := Lib.hid hrb; have HNE := Lib.hid hne; have hcm' := hcm; unfold maxLen at hcm'; clear hg hrb hne hc HU
    have HZ : Hid (RP D w g (.string ⟨#[]⟩) ⟨l2, e2⟩ (.returned (.string ⟨#[]⟩)) w1) := ⟨rfl, HR.out, HC.out⟩
    go_wp2_with fail
    go_ret
    exact HZ.out
end Wi
end Go.Proofs.Ytkbhbpklgdmgpaa
