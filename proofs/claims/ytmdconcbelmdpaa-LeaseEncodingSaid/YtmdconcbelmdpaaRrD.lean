/- The walks of refmeshref02's Int, Count, String, Bool, Done of the reader. -/
import Derived.Test.YtmdconcbelmdpaaRrC
namespace Go.Proofs.Ytmdconcbelmdpaa
open Go.RowKit
namespace Wi
open Wr
variable {D : Nat}

theorem run_cut_u {P : Program} {t e : TypeId} (ht : P.underlying t = some (.slice e)) (he : P.elem t = e) (hs : (P.info? e).map (·.size) = some 1) (A : Option Addr) (n cap lo : Nat) (h1 : lo ≤ n) (w : World) :
    (Instr.slice t (.slice A n cap) (some (.int .u64 lo)) none none).run P w = .ok (.slice (cutA A lo cap) (n - lo) (cap - lo)) w := by
  subst he
  rw [run_slice_l w t A n cap ht .u64 lo (by omega) (by omega)]
  obtain ⟨i, hi', hsz⟩ := Option.map_eq_some_iff.1 hs
  simp [sizeOf, typeInfo, hi', hsz, sliced, cutA]

/-- Count -/
def countR (most : Int) (r : Rs) : Nat × Rs :=
  if (uintR r).2.e ≠ 0 then (0, (uintR r).2) else if most < 0 ∨ most < ((uintR r).1 : Int) then (0, failR 8) else if (uintR r).2.l.length < (uintR r).1 then (0, failR 11) else uintR r
/-- Bool -/
def boolR (r : Rs) : Bool × Rs :=
  if r.e ≠ 0 then (false, r) else match r.l with
    | [] => (false, failR 11)
    | x :: t => if 1 < x.toNat then (false, failR 11) else (decide (x.toNat = 1), ⟨t, 0⟩)

def RP (D : Nat) (w : World) (g : Nat) (v : Value) (r2 : Rs) (e : Ending) (w' : World) : Prop := e = .returned v ∧ IsRr D w' g r2 ∧ Chg [g] w w'


set_option maxRecDepth 100000 in
set_option maxHeartbeats 1000000 in
theorem rdCount_calls (g : Nat) (r : Rs) (most : Int) (w : World) (h : IsRr D w g r) (hm1 : -9223372036854775808 ≤ most) (hm2 : most ≤ 9223372036854775807) :
    Calls Try.prog 39 #[.pointer (some ⟨g, 0, none⟩), .int .i64 most] w (RP D w g (.int .i64 ((countR most r).1 : Int)) (countR most r).2) := by
  have HU := Lib.hid (rdUint_calls g r w h); unfold RuP at HU; have hlt := uintR_lt r
  obtain ⟨cr, HCR⟩ : ∃ x, Hid (x = countR most r) := ⟨_, rfl⟩
  have HCR' := HCR.out
  unfold countR at HCR'
  rw [show uintR r = ((uintR r).1, (uintR r).2) from rfl] at HCR'
  rw [← HCR.out]
  clear HCR h
  generalize (uintR r).1 = n at *; generalize (uintR r).2 = r2 at *; obtain ⟨l2, e2⟩ := r2
  simp only at HCR'
  by_cases he : e2 = 0
  · subst he
    rw [if_neg (by simp)] at HCR'
    by_cases h1 : most < 0 ∨ most < (n : Int)
    · rw [if_pos h1] at HCR'
      subst HCR'
      by_cases hz : most < 0
      · have d1 : decide (most < 0) = true := by simpa using hz
        go_enter Try.func39, Try.ntmps39
        go_wp2_with fail
        refine HU.out.mono ?_; rintro e w1 ⟨rfl, hr, hc⟩; have HR := Lib.hid hr; have HC := Lib.hid hc; obtain ⟨A, c, hg, hlc, hcm, hrb, hne, hD⟩ := hr; simp only at hg hlc hrb hne; have c0 : w1.cell? ⟨g, 0, none⟩ = some (.slice A l2.length c) := (cell_of_row _ _ 0 _ _ _ hg).trans rfl; have c1 : w1.cell? ⟨g, 1, none⟩ = some (.int .i64 0) := (cell_of_row _ _ 1 _ _ _ hg).trans rfl; have HG := Lib.hid hg; have HRB := Lib.hid hrb; have HNE := Lib.hid hne; have hcm' := hcm; unfold maxLen at hcm'; clear hg hrb hne hc HU
        have HFA := Lib.hid (rfail_calls g _ _ 8 w1 hD HG.out)
        go_wp2_with fail
        refine HFA.out.mono ?_
        rintro e w2 ⟨rfl, hr2, hc2⟩
        have HZ : Hid (RP D w g (.int .i64 0) (failR 8) (.returned (.int .i64 0)) w2) := ⟨rfl, hr2, HC.out.trans' hc2⟩
        clear hr2 hc2
        go_wp2_with fail
        go_ret
        exact HZ.out
      · have d1 : decide (most < 0) = false := by simpa using hz
        have hz' : 0 ≤ most := by omega
        have d2 : decide (most < (n : Int)) = true := by simp; omega
        clear hz
        go_enter Try.func39, Try.ntmps39
        go_wp2_with fail
        refine HU.out.mono ?_; rintro e w1 ⟨rfl, hr, hc⟩; have HR := Lib.hid hr; have HC := Lib.hid hc; obtain ⟨A, c, hg, hlc, hcm, hrb, hne, hD⟩ := hr; simp only at hg hlc hrb hne; have c0 : w1.cell? ⟨g, 0, none⟩ = some (.slice A l2.length c) := (cell_of_row _ _ 0 _ _ _ hg).trans rfl; have c1 : w1.cell? ⟨g, 1, none⟩ = some (.int .i64 0) := (cell_of_row _ _ 1 _ _ _ hg).trans rfl; have HG := Lib.hid hg; have HRB := Lib.hid hrb; have HNE := Lib.hid hne; have hcm' := hcm; unfold maxLen at hcm'; clear hg hrb hne hc HU
        have HFA := Lib.hid (rfail_calls g _ _ 8 w1 hD HG.out)
        go_wp2_with fail
        refine HFA.out.mono ?_
        rintro e w2 ⟨rfl, hr2, hc2⟩
        have HZ : Hid (RP D w g (.int .i64 0) (failR 8) (.returned (.int .i64 0)) w2) := ⟨rfl, hr2, HC.out.trans' hc2⟩
        clear hr2 hc2
        go_wp2_with fail
        go_ret
        exact HZ.out
    · rw [if_neg h1] at HCR'
      have hz' : 0 ≤ most := by omega
      have hz2 : (n : Int) ≤ most := by omega
      have d1 : decide (most < 0) = false := by simp; omega
      have d2 : decide (most < (n : Int)) = false := by simp; omega
      by_cases h2 : l2.length < n
      · rw [if_pos h2] at HCR'
        subst HCR'
        have d3 : decide ((l2.length : Int) < (n : Int)) = true := by simp; omega
        have d3' : decide (l2.length < n) = true := by simp; omega
        clear h1
        go_enter Try.func39, Try.ntmps39
        go_wp2_with fail
        refine HU.out.mono ?_; rintro e w1 ⟨rfl, hr, hc⟩; have HR := Lib.hid hr; have HC := Lib.hid hc; obtain ⟨A, c, hg, hlc, hcm, hrb, hne, hD⟩ := hr; simp only at hg hlc hrb hne; have c0 : w1.cell? ⟨g, 0, none⟩ = some (.slice A l2.length c) := (cell_of_row _ _ 0 _ _ _ hg).trans rfl; have c1 : w1.cell? ⟨g, 1, none⟩ = some (.int .i64 0) := (cell_of_row _ _ 1 _ _ _ hg).trans rfl; have HG := Lib.hid hg; have HRB := Lib.hid hrb; have HNE := Lib.hid hne; have hcm' := hcm; unfold maxLen at hcm'; clear hg hrb hne hc HU
        have HFA := Lib.hid (rfail_calls g _ _ 11 w1 hD HG.out)
        go_wp2_with fail
        refine HFA.out.mono ?_
        rintro e w2 ⟨rfl, hr2, hc2⟩
        have HZ : Hid (RP D w g (.int .i64 0) (failR 11) (.returned (.int .i64 0)) w2) := ⟨rfl, hr2, HC.out.trans' hc2⟩
        clear hr2 hc2
        go_wp2_with fail
        go_ret
        exact HZ.out
      · rw [if_neg h2] at HCR'
        subst HCR'
        have d3 : decide ((l2.length : Int) < (n : Int)) = false := by simp; omega
        have d3' : decide (l2.length < n) = false := by simp; omega
        clear h1
        go_enter Try.func39, Try.ntmps39
        go_wp2_with fail
        refine HU.out.mono ?_; rintro e w1 ⟨rfl, hr, hc⟩; have HR := Lib.hid hr; have HC := Lib.hid hc; obtain ⟨A, c, hg, hlc, hcm, hrb, hne, hD⟩ := hr; simp only at hg hlc hrb hne; have c0 : w1.cell? ⟨g, 0, none⟩ = some (.slice A l2.length c) := (cell_of_row _ _ 0 _ _ _ hg).trans rfl; have c1 : w1.cell? ⟨g, 1, none⟩ = some (.int .i64 0) := (cell_of_row _ _ 1 _ _ _ hg).trans rfl; have HG := Lib.hid hg; have HRB := Lib.hid hrb; have HNE := Lib.hid hne; have hcm' := hcm; unfold maxLen at hcm'; clear hg hrb hne hc HU
        have HZ : Hid (RP D w g (.int .i64 (n : Int)) ⟨l2, 0⟩ (.returned (.int .i64 (n : Int))) w1) := ⟨rfl, HR.out, HC.out⟩
        go_wp2_with fail
        go_ret
        exact HZ.out
  · rw [if_pos he] at HCR'
    subst HCR'
    have q1 : (e2 != 0) = true := by simpa using he
    clear he
    go_enter Try.func39, Try.ntmps39
    go_wp2_with fail
    refine HU.out.mono ?_; rintro e w1 ⟨rfl, hr, hc⟩; have HR := Lib.hid hr; have HC := Lib.hid hc; obtain ⟨A, c, hg, hlc, hcm, hrb, hne, hD⟩ := hr; simp only at hg hlc hrb hne; have c0 : w1.cell? ⟨g, 0, none⟩ = some (.slice A l2.length c) := (cell_of_row _ _ 0 _ _ _ hg).trans rfl; have c1 : w1.cell? ⟨g, 1, none⟩ = some (.int .i64 e2) := (cell_of_row _ _ 1 _ _ _ hg).trans rfl; have HG := Lib.hid hg; have HRB := Lib.hid hrb; have HNE := Lib.hid hne; have hcm' := hcm; unfold maxLen at hcm'; clear hg hrb hne hc HU
    have HZ : Hid (RP D w g (.int .i64 0) ⟨l2, e2⟩ (.returned (.int .i64 0)) w1) := ⟨rfl, HR.out, HC.out⟩
    go_wp2_with fail
    go_ret
    exact HZ.out

end Wi
end Go.Proofs.Ytmdconcbelmdpaa
