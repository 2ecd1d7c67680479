/- What was encoded is decoded: no program in sight. -/
import Derived.Test.YtmdconcbelmdpaaLsR
namespace Go.Proofs.Ytmdconcbelmdpaa
open Go.RowKit
namespace Ls
open Wr Wi

/-- the numbers are not negative, and behind the machines they are zero -/
def Neat (L : St) : Prop := (∀ i, 0 ≤ L.t i ∧ 0 ≤ L.r i) ∧ ∀ i, L.m ≤ i → L.t i = 0 ∧ L.r i = 0
theorem neat_fresh (n : Int) : Neat (fresh n) := ⟨fun _ => ⟨Int.le_refl _, Int.le_refl _⟩, fun _ _ => ⟨rfl, rfl⟩⟩
theorem neat_next (L : St) (c : Cl) (h : Neat L) : Neat (next L c) := by
  unfold next
  split
  · unfold hear
    split
    · rename_i hok
      unfold okB hasB at hok
      simp only [Bool.and_eq_true, decide_eq_true_eq] at hok
      obtain ⟨⟨⟨h1, h2⟩, h3⟩, h4⟩ := hok
      refine ⟨fun i => ?_, fun i hi => ?_⟩
      · have := h.1 i
        simp only
        split <;> omega
      · have := h.2 i hi
        have hne : ¬ (i : Int) + 1 = c.cl := by have : L.m ≤ i := hi; omega
        simp only [if_neg hne]
        exact this
    · exact h
  · split
    · exact h
    · exact h
theorem neat_runs (L : St) (cs : List Cl) (h : Neat L) : Neat (runs L cs) := by
  induction cs generalizing L with
  | nil => exact h
  | cons c cs ih => exact ih (next L c) (neat_next L c h)

theorem uintR_fwd (n : Nat) (h : n < 18446744073709551616) (t : List UInt8) : uintR ⟨enc n ++ t, 0⟩ = (n, ⟨t, 0⟩) := by
  rw [uintR_some ⟨enc n ++ t, 0⟩ rfl (parse_enc n h t)]
  simp
theorem mI_of (x : Int) (h0 : 0 ≤ x) (h : x ≤ 1099511627776) : mI (u64n x) = x := by
  have := u64n_of x h0 (by omega)
  unfold mI wrap64; omega
theorem great_of (x : Int) (h0 : 0 ≤ x) (h : x ≤ 1099511627776) : great false (u64n x) = false := by
  have := u64n_of x h0 (by omega)
  unfold great
  rw [Bool.false_or, decide_eq_false_iff_not]; omega
/-- the first k machines' numbers -/
def part (L : St) (n k : Nat) : St := ⟨n, fun j => if j < k then L.t j else 0, fun j => if j < k then L.r j else 0, 0⟩
theorem st_eq {a b : St} (h1 : a.m = b.m) (h2 : ∀ j, a.t j = b.t j) (h3 : ∀ j, a.r j = b.r j) (h4 : a.c = b.c) : a = b := by
  obtain ⟨m, t, r, c⟩ := a
  obtain ⟨m', t', r', c'⟩ := b
  obtain rfl : m = m' := h1
  obtain rfl : t = t' := funext h2
  obtain rfl : r = r' := funext h3
  obtain rfl : c = c' := h4
  rfl
theorem part_step (L : St) (n k : Nat) : setR (setT (part L n k) k (L.t k)) k (L.r k) = part L n (k + 1) := by
  refine st_eq rfl (fun j => ?_) (fun j => ?_) rfl
  · show (if j = k then L.t k else if j < k then L.t j else 0) = if j < k + 1 then L.t j else 0
    by_cases h : j = k
    · subst h; rw [if_pos rfl, if_pos (by omega)]
    · rw [if_neg h]
      by_cases h2 : j < k
      · rw [if_pos h2, if_pos (by omega)]
      · rw [if_neg h2, if_neg (by omega)]
  · show (if j = k then L.r k else if j < k then L.r j else 0) = if j < k + 1 then L.r j else 0
    by_cases h : j = k
    · subst h; rw [if_pos rfl, if_pos (by omega)]
    · rw [if_neg h]
      by_cases h2 : j < k
      · rw [if_pos h2, if_pos (by omega)]
      · rw [if_neg h2, if_neg (by omega)]
theorem dOne_fwd (M : St) (x : Int) (h0 : 0 ≤ x) (h : x ≤ 1099511627776) (T : List UInt8) (k : Nat) : dOne ⟨M, false, ⟨enc (u64n x) ++ T, 0⟩⟩ k = ⟨setT M k x, false, ⟨T, 0⟩⟩ := by
  unfold dOne
  simp only [uintR_fwd _ (u64n_lt x)]
  rw [great_of x h0 h, mI_of x h0 h]
theorem dTwo_fwd (M : St) (x : Int) (h0 : 0 ≤ x) (h : x ≤ 1099511627776) (T : List UInt8) (k : Nat) : dTwo ⟨M, false, ⟨enc (u64n x) ++ T, 0⟩⟩ k = ⟨setR M k x, false, ⟨T, 0⟩⟩ := by
  unfold dTwo
  simp only [uintR_fwd _ (u64n_lt x)]
  rw [great_of x h0 h, mI_of x h0 h]
theorem dEnd_fwd (M : St) (x : Int) (h0 : 0 ≤ x) (h : x ≤ 1099511627776) (T : List UInt8) : dEnd ⟨M, false, ⟨enc (u64n x) ++ T, 0⟩⟩ = ⟨setC M x, false, ⟨T, 0⟩⟩ := by
  unfold dEnd
  simp only [uintR_fwd _ (u64n_lt x)]
  rw [great_of x h0 h, mI_of x h0 h]
theorem dLoop_fwd (L : St) (n : Nat) (hn : n ≤ 8) (hs : ∀ i, i < n → 0 ≤ L.t i ∧ L.t i ≤ 1099511627776 ∧ 0 ≤ L.r i ∧ L.r i ≤ 1099511627776) (k : Nat) (hk : k ≤ n) (T : List UInt8) :
    dLoop n ⟨encB L k ++ T, 0⟩ k = ⟨part L n k, false, ⟨T, 0⟩⟩ := by
  induction k generalizing T with
  | zero =>
    show (⟨fresh n, false, ⟨[] ++ T, 0⟩⟩ : DS) = _
    rw [List.nil_append, show fresh (n : Int) = part L n 0 from st_eq (mach_small n hn) (fun j => by simp [part, fresh]) (fun j => by simp [part, fresh]) rfl]
  | succ k ih =>
    obtain ⟨h1, h2, h3, h4⟩ := hs k (by omega)
    have he : encB L (k + 1) ++ T = encB L k ++ (enc (u64n (L.t k)) ++ (enc (u64n (L.r k)) ++ T)) := by
      show (encB L k ++ (enc (u64n (L.t k)) ++ enc (u64n (L.r k)))) ++ T = _
      simp only [List.append_assoc]
    rw [he]
    show dTwo (dOne (dLoop n _ k) k) k = _
    rw [ih (by omega), dOne_fwd _ _ h1 h2, dTwo_fwd _ _ h3 h4, part_step]
theorem encB_ge (L : St) (k : Nat) : k ≤ (encB L k).length := by
  induction k with
  | zero => simp
  | succ k ih =>
    have h1 := enc_len (u64n (L.t k))
    show _ ≤ (encB L k ++ (enc (u64n (L.t k)) ++ enc (u64n (L.r k)))).length
    rw [List.length_append, List.length_append]; omega
theorem countR_fwd (m : Nat) (hm : m ≤ 8) (T : List UInt8) (hT : m ≤ T.length) : countR 8 ⟨enc m ++ T, 0⟩ = (m, ⟨T, 0⟩) := by
  unfold countR
  rw [uintR_fwd m (by omega)]
  simp only [ne_eq, not_true_eq_false, if_false]
  rw [if_neg (by omega), if_neg (by omega)]
theorem decD_fwd (L : St) (hm : L.m ≤ 8) (hN : Neat L) (hs : ∀ i, i < L.m → L.t i ≤ 1099511627776 ∧ L.r i ≤ 1099511627776) (hc : 0 ≤ L.c) (hc2 : L.c ≤ 1000) :
    decD (encL L) = ⟨L, false, ⟨[], 0⟩⟩ := by
  have he : encL L = enc L.m ++ (encB L L.m ++ (enc (u64n L.c) ++ [])) := by unfold encL; simp only [List.append_assoc, List.append_nil]
  have hl := encB_ge L L.m
  rw [he]
  unfold decD
  rw [countR_fwd L.m hm _ (by rw [List.length_append]; omega)]
  show dEnd (dLoop L.m ⟨encB L L.m ++ (enc (u64n L.c) ++ []), 0⟩ L.m) = _
  rw [dLoop_fwd L L.m hm (fun i hi => ⟨(hN.1 i).1, (hs i hi).1, (hN.1 i).2, (hs i hi).2⟩) L.m (Nat.le_refl _), dEnd_fwd _ _ hc (by omega)]
  have : setC (part L L.m L.m) L.c = L := by
    refine st_eq rfl (fun j => ?_) (fun j => ?_) rfl
    · show (if j < L.m then L.t j else 0) = L.t j
      by_cases h : j < L.m
      · rw [if_pos h]
      · rw [if_neg h, (hN.2 j (by omega)).1]
    · show (if j < L.m then L.r j else 0) = L.r j
      by_cases h : j < L.m
      · rw [if_pos h]
      · rw [if_neg h, (hN.2 j (by omega)).2]
  rw [this]
theorem encL_len (L : St) (hm : L.m ≤ 8) : (encL L).length ≤ 200 := by
  have h1 := encB_len L L.m
  have h2 := enc_le L.m
  have h3 := enc_le (u64n L.c)
  unfold encL
  rw [List.length_append, List.length_append]; omega
theorem doneR_nil : doneR ⟨[], 0⟩ = 0 := rfl
end Ls
end Go.Proofs.Ytmdconcbelmdpaa
