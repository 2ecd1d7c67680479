/- Decoding is encoding backwards: no program in sight. -/
import Derived.Test.YtmdconcbelmdpaaLsQ
namespace Go.Proofs.Ytmdconcbelmdpaa
open Go.RowKit
namespace Ls
open Wr Wi

theorem uintR_back (r : Rs) (h : (uintR r).2.e = 0) : r.e = 0 ∧ r.l = enc (uintR r).1 ++ (uintR r).2.l := by
  by_cases he : r.e = 0
  · cases hp : parse r.l with
    | none => rw [uintR_none r he hp] at h; cases h
    | some p =>
      obtain ⟨n, k⟩ := p
      rw [uintR_some r he hp]
      exact ⟨he, (parse_some _ _ _ hp).2.2.2⟩
  · rw [uintR_err r he] at h; exact absurd h he
theorem great_false {b : Bool} {n : Nat} (h : great b n = false) : b = false ∧ n ≤ 1099511627776 := by
  unfold great at h
  rw [Bool.or_eq_false_iff, decide_eq_false_iff_not] at h
  exact ⟨h.1, by omega⟩
theorem mI_small (n : Nat) (h : n ≤ 1099511627776) : u64n (mI n) = n := by
  have : mI n = (n : Int) := by unfold mI wrap64; omega
  rw [this]
  have := u64n_of (n : Int) (by omega) (by omega)
  omega
theorem encB_eq (L M : St) (k : Nat) (h : ∀ j, j < k → L.t j = M.t j ∧ L.r j = M.r j) : encB L k = encB M k := by
  induction k with
  | zero => rfl
  | succ k ih =>
    show encB L k ++ _ = encB M k ++ _
    rw [ih fun j hj => h j (by omega), (h k (by omega)).1, (h k (by omega)).2]
theorem dLoop_back (n : Nat) (r : Rs) (k : Nat) (he : (dLoop n r k).r.e = 0) (hb : (dLoop n r k).b = false) : r.e = 0 ∧ r.l = encB (dLoop n r k).L k ++ (dLoop n r k).r.l := by
  induction k with
  | zero => exact ⟨he, rfl⟩
  | succ k ih =>
    have hs : dLoop n r (k + 1) = dTwo (dOne (dLoop n r k) k) k := rfl
    generalize dLoop n r k = s at *
    rw [hs] at he hb ⊢
    obtain ⟨h1, h2⟩ := uintR_back (uintR s.r).2 he
    obtain ⟨h3, h4⟩ := uintR_back s.r h1
    obtain ⟨g1, g2⟩ := great_false (b := great s.b (uintR s.r).1) hb
    obtain ⟨g3, g4⟩ := great_false g1
    obtain ⟨i1, i2⟩ := ih h3 g3
    refine ⟨i1, ?_⟩
    have e0 : encB (dTwo (dOne s k) k).L (k + 1) = encB (dTwo (dOne s k) k).L k ++ (enc (u64n ((dTwo (dOne s k) k).L.t k)) ++ enc (u64n ((dTwo (dOne s k) k).L.r k))) := rfl
    have e4 : (dTwo (dOne s k) k).r = (uintR (uintR s.r).2).2 := rfl
    have g2' : (uintR (uintR s.r).2).1 ≤ 1099511627776 := g2
    rw [e0, e4, i2, h4, h2]
    have e1 : encB (dTwo (dOne s k) k).L k = encB s.L k := encB_eq _ _ k fun j hj => by
      have hne : ¬ j = k := by omega
      exact ⟨if_neg hne, if_neg hne⟩
    have e2 : (dTwo (dOne s k) k).L.t k = mI (uintR s.r).1 := if_pos rfl
    have e3 : (dTwo (dOne s k) k).L.r k = mI (uintR (uintR s.r).2).1 := if_pos rfl
    rw [e1, e2, e3, mI_small _ g4, mI_small _ g2']
    simp only [List.append_assoc]
theorem countR_back (r : Rs) (h : (countR 8 r).2.e = 0) : r.e = 0 ∧ r.l = enc (countR 8 r).1 ++ (countR 8 r).2.l := by
  unfold countR at h ⊢
  by_cases h1 : (uintR r).2.e ≠ 0
  · rw [if_pos h1] at h; exact absurd h h1
  · rw [if_neg h1] at h ⊢
    by_cases h2 : (8 : Int) < 0 ∨ (8 : Int) < ((uintR r).1 : Int)
    · rw [if_pos h2] at h; cases h
    · rw [if_neg h2] at h ⊢
      by_cases h3 : (uintR r).2.l.length < (uintR r).1
      · rw [if_pos h3] at h; cases h
      · rw [if_neg h3] at h ⊢
        exact uintR_back r h
theorem doneR_zero (r : Rs) (h : doneR r = 0) : r.e = 0 ∧ r.l = [] := by
  unfold doneR at h
  by_cases h1 : r.e = 0 ∧ 0 < r.l.length
  · rw [if_pos h1] at h; cases h
  · rw [if_neg h1] at h
    exact ⟨h, List.eq_nil_of_length_eq_zero (by omega)⟩
theorem encL_setC (L : St) (x : Int) : encL (setC L x) = enc L.m ++ encB (setC L x) L.m ++ enc (u64n x) := rfl
theorem dEnd_L (s : DS) : (dEnd s).L = setC s.L (mI (uintR s.r).1) := rfl
theorem encB_setC (L : St) (x : Int) (k : Nat) : encB (setC L x) k = encB L k := encB_eq _ _ _ fun _ _ => ⟨rfl, rfl⟩
theorem dTwo_t (s : DS) (k : Nat) : (dTwo (dOne s k) k).L.t k = mI (uintR s.r).1 := if_pos rfl
theorem dEnd_enc (s : DS) (m : Nat) (hm : s.L.m = m) (he : (dEnd s).r.e = 0) (hl : (dEnd s).r.l = []) (hb : (dEnd s).b = false) : s.r.e = 0 ∧ s.b = false ∧ encL (dEnd s).L = enc m ++ (encB s.L m ++ s.r.l) := by
  have h1 : (uintR s.r).2.e = 0 := he
  have h2 : (uintR s.r).2.l = [] := hl
  have h3 : great s.b (uintR s.r).1 = false := hb
  obtain ⟨a1, a2⟩ := uintR_back s.r h1
  obtain ⟨g1, g2⟩ := great_false h3
  refine ⟨a1, g1, ?_⟩
  rw [dEnd_L]
  have hmi := mI_small _ g2
  generalize mI (uintR s.r).1 = x at *
  rw [encL_setC, encB_setC, hmi, hm, a2, h2, List.append_nil, List.append_assoc]
theorem mach_small (m : Nat) (h : m ≤ 8) : mach (m : Int) = m := by unfold mach; omega
theorem decD_enc (l : List UInt8) (h : doneR (decD l).r = 0) (hb : (decD l).b = false) : encL (decD l).L = l := by
  obtain ⟨h1, h2⟩ := doneR_zero _ h
  have hd : decD l = dEnd (dLoop (countR 8 ⟨l, 0⟩).1 (countR 8 ⟨l, 0⟩).2 (countR 8 ⟨l, 0⟩).1) := rfl
  rw [hd] at h1 h2 hb ⊢
  have h8 := count8 ⟨l, 0⟩
  have hcb := countR_back ⟨l, 0⟩
  clear hd h
  revert h1 h2 hb h8 hcb
  generalize (countR 8 ⟨l, 0⟩).1 = m
  generalize (countR 8 ⟨l, 0⟩).2 = r1
  intro hb h1 h2 h8 hcb
  obtain ⟨a1, a2, a3⟩ := dEnd_enc _ m ((dLoop_m m r1 m).trans (mach_small m h8)) h1 h2 hb
  obtain ⟨b1, b2⟩ := dLoop_back m r1 m a1 a2
  rw [a3, ← b2]
  exact (hcb b1).2.symm
end Ls
end Go.Proofs.Ytmdconcbelmdpaa
