/- The ring of the checksum: products, and the combination of checksums. Plain mathematics. -/
import Derived.Test.YtgmeppjpiljifaaCrc2
namespace Go.Proofs.Ytgmeppjpiljifaa
namespace Crc

/-- the product after n bits of the first factor -/
def mulTo (a b : BitVec 64) : Nat → BitVec 64
  | 0 => 0#64
  | i + 1 => if a.getLsbD (63 - i) then mulTo a b i ^^^ shN i b else mulTo a b i
def mul (a b : BitVec 64) : BitVec 64 := mulTo a b 64

theorem xor_swap (x y u v : BitVec 64) : (x ^^^ y) ^^^ (u ^^^ v) = (x ^^^ u) ^^^ (y ^^^ v) := by
  rw [BitVec.xor_assoc, BitVec.xor_assoc, ← BitVec.xor_assoc y, BitVec.xor_comm y u, BitVec.xor_assoc u]

theorem mulTo_xor (a b c : BitVec 64) (i : Nat) : mulTo a (b ^^^ c) i = mulTo a b i ^^^ mulTo a c i := by
  induction i with
  | zero => simp [mulTo]
  | succ i ih =>
    simp only [mulTo]
    split
    · rw [ih, shN_xor, xor_swap]
    · exact ih
theorem sh_shN (i : Nat) (b : BitVec 64) : sh (shN i b) = shN i (sh b) := (shN_succ i b).symm
theorem mulTo_sh (a b : BitVec 64) (i : Nat) : mulTo a (sh b) i = sh (mulTo a b i) := by
  induction i with
  | zero => simp [mulTo, sh_zero]
  | succ i ih =>
    simp only [mulTo]
    split
    · rw [ih, sh_xor, sh_shN]
    · exact ih

theorem shN_one_top (i : Nat) (h : i ≤ 63) : shN i (1#64 <<< 63) = 1#64 <<< (63 - i) := by
  rw [shN_low i _ (fun j hj => by rw [BitVec.getLsbD_shiftLeft]; simp [show j < 63 by omega])]
  apply BitVec.eq_of_getLsbD_eq
  intro j hj
  simp only [BitVec.getLsbD_ushiftRight, BitVec.getLsbD_shiftLeft, BitVec.getLsbD_one]
  by_cases h0 : j = 63 - i
  · subst h0
    have : i + (63 - i) = 63 := by omega
    simp [this, hj]
  · have e1 : (decide (i + j < 64) && !decide (i + j < 63) && (decide (0 < 64) && decide (i + j - 63 = 0))) = false := by
      by_cases hx : i + j < 63
      · simp [hx]
      · have : ¬ i + j - 63 = 0 := by omega
        simp [this]
    have e2 : (decide (j < 64) && !decide (j < 63 - i) && (decide (0 < 64) && decide (j - (63 - i) = 0))) = false := by
      by_cases hx : j < 63 - i
      · simp [hx]
      · have : ¬ j - (63 - i) = 0 := by omega
        simp [this]
    simpa using e1.trans e2.symm

/-- the first i bits from the top -/
theorem mulTo_one (a : BitVec 64) (i : Nat) (h : i ≤ 64) : mulTo a (1#64 <<< 63) i = (a >>> (64 - i)) <<< (64 - i) := by
  induction i with
  | zero =>
    apply BitVec.eq_of_getLsbD_eq
    intro j hj
    simp [mulTo, hj]
  | succ i ih =>
    have hi := ih (by omega)
    simp only [mulTo]
    rw [hi, shN_one_top i (by omega)]
    apply BitVec.eq_of_getLsbD_eq
    intro j hj
    rcases Nat.lt_trichotomy j (63 - i) with h1 | h1 | h1
    · split <;> simp [BitVec.getLsbD_shiftLeft, BitVec.getLsbD_ushiftRight, BitVec.getLsbD_xor, hj, show j < 64 - i by omega, show j < 64 - (i + 1) by omega, h1]
    · subst h1
      by_cases hb : a.getLsbD (63 - i) = true
      · rw [if_pos hb]
        simp [BitVec.getLsbD_shiftLeft, BitVec.getLsbD_ushiftRight, BitVec.getLsbD_xor, hj, show 63 - i < 64 - i by omega, show ¬ 63 - i < 64 - (i + 1) by omega, show 64 - (i + 1) + (63 - i - (64 - (i + 1))) = 63 - i by omega, hb]
      · rw [if_neg hb]
        have hb' : a[63 - i] = false := by rw [← BitVec.getLsbD_eq_getElem]; simpa using hb
        simp [BitVec.getLsbD_shiftLeft, BitVec.getLsbD_ushiftRight, hj, show 63 - i < 64 - i by omega, show ¬ 63 - i < 64 - (i + 1) by omega, show 64 - (i + 1) + (63 - i - (64 - (i + 1))) = 63 - i by omega, hb']
    · have e1 : 64 - i + (j - (64 - i)) = j := by omega
      have e2 : 64 - (i + 1) + (j - (64 - (i + 1))) = j := by omega
      have e3 : 63 - i + (j - (63 - i)) = j := by omega
      split <;> simp [BitVec.getLsbD_shiftLeft, BitVec.getLsbD_ushiftRight, BitVec.getLsbD_xor, hj, show ¬ j < 64 - i by omega, show ¬ j < 64 - (i + 1) by omega, e1, e2, e3, show ¬ j < 63 - i by omega, show ¬ j - (63 - i) = 0 by omega]
theorem mul_one_right (a : BitVec 64) : mul a (1#64 <<< 63) = a := by
  unfold mul; rw [mulTo_one a 64 (Nat.le_refl _)]; simp

/-- a linear map that goes with the shift is known by what it makes of one -/
theorem linear_known (T : BitVec 64 → BitVec 64) (hx : ∀ a b, T (a ^^^ b) = T a ^^^ T b) (hs : ∀ a, T (sh a) = sh (T a)) (c : BitVec 64) : T c = mul c (T (1#64 <<< 63)) := by
  have h0 : T 0#64 = 0#64 := by
    have := hx 0#64 0#64
    simp at this
    exact this
  have hN : ∀ (i : Nat) (a : BitVec 64), T (shN i a) = shN i (T a) := by
    intro i
    induction i with
    | zero => intro a; rfl
    | succ i ih => intro a; simp only [shN]; rw [ih, hs]
  have key : ∀ i, T (mulTo c (1#64 <<< 63) i) = mulTo c (T (1#64 <<< 63)) i := by
    intro i
    induction i with
    | zero => simp only [mulTo]; exact h0
    | succ i ih =>
      simp only [mulTo]
      split
      · rw [hx, ih, hN]
      · exact ih
  have := key 64
  rw [show mulTo c (1#64 <<< 63) 64 = c from mul_one_right c] at this
  exact this

theorem mul_assoc (p q c : BitVec 64) : mul (mul p q) c = mul p (mul q c) := by
  have h1 := linear_known (fun x => mul (mul p q) x) (fun a b => mulTo_xor _ _ _ _) (fun a => mulTo_sh _ _ _) c
  have h2 := linear_known (fun x => mul p (mul q x)) (fun a b => by show mul p (mul q (a ^^^ b)) = _; unfold mul; rw [mulTo_xor, mulTo_xor]) (fun a => by show mul p (mul q (sh a)) = _; unfold mul; rw [mulTo_sh, mulTo_sh]) c
  simp only [mul_one_right] at h1 h2
  rw [h1, h2]

theorem mul_x8 (c : BitVec 64) : mul (1#64 <<< 55) c = shN 8 c := by
  have h := linear_known (fun x => mul (1#64 <<< 55) x) (fun a b => mulTo_xor _ _ _ _) (fun a => mulTo_sh _ _ _) c
  have h' := linear_known (fun x => shN 8 x) (fun a b => shN_xor 8 a b) (fun a => (sh_shN 8 a).symm) c
  have e : mul (1#64 <<< 55) (1#64 <<< 63) = shN 8 (1#64 <<< 63) := by rw [mul_one_right, shN_one_top 8 (by omega)]
  rw [h, h', e]

/-- the powers of a shift by a byte -/
def pw : Nat → BitVec 64
  | 0 => 1#64 <<< 55
  | j + 1 => mul (pw j) (pw j)
theorem mul_pw (j : Nat) : ∀ c, mul (pw j) c = shN (8 * 2 ^ j) c := by
  induction j with
  | zero => intro c; exact mul_x8 c
  | succ j ih =>
    intro c
    simp only [pw]
    rw [mul_assoc, ih, ih, ← shN_add]
    congr 1
    rw [Nat.pow_succ]; omega

/-- the combination -/
def comb (a b : BitVec 64) (n : Nat) : BitVec 64 := shN (8 * n) a ^^^ b

theorem comb_step (a : BitVec 64) (n j : Nat) :
    shN (8 * (n % 2 ^ (j + 1))) a = if n / 2 ^ j % 2 = 1 then mul (pw j) (shN (8 * (n % 2 ^ j)) a) else shN (8 * (n % 2 ^ j)) a := by
  have h : n % 2 ^ (j + 1) = n % 2 ^ j + 2 ^ j * (n / 2 ^ j % 2) := Nat.mod_pow_succ
  rw [h]
  split
  · rename_i h1
    rw [h1, mul_pw, ← shN_add]
    congr 1
    omega
  · rename_i h1
    have : n / 2 ^ j % 2 = 0 := by omega
    rw [this]; simp

theorem flip_flip (a : BitVec 64) : flip (flip a) = a := by unfold flip; simp
theorem flip_eq (a : BitVec 64) : flip a = flip 0#64 ^^^ a := by
  have h : flip 0#64 = BitVec.allOnes 64 := by decide
  rw [h, BitVec.allOnes_xor]; rfl
theorem sum_append (a b : List UInt8) : sum (a ++ b) = upd (sum a) b := by
  unfold sum upd; rw [flip_flip, run_append]
theorem comb_sum (a b : List UInt8) : comb (sum a) (sum b) b.length = sum (a ++ b) := by
  rw [sum_append]
  unfold comb upd
  rw [flip_eq (sum a), run_state, flip_eq (_ ^^^ _), ← BitVec.xor_assoc, ← flip_eq, BitVec.xor_comm]
  rfl
theorem comb_zero (a : BitVec 64) (n : Nat) : comb a 0#64 n = shN (8 * n) a := by unfold comb; simp
theorem comb_add (a b : BitVec 64) (n m : Nat) : comb (comb a 0#64 n) b m = comb a b (n + m) := by
  rw [comb_zero]; unfold comb; rw [← shN_add]; congr 2; omega

end Crc
end Go.Proofs.Ytgmeppjpiljifaa
