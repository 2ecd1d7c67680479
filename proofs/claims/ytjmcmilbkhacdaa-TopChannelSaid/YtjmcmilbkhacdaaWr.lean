/- Plain mathematics of the encodings: no program in sight. -/
import Derived.WalkKit
namespace Go.Proofs.Ytjmcmilbkhacdaa
namespace Wr

/-- the digits of a number to the base 256, the most significant one first -/
def dg : Nat → Nat → List UInt8
  | 0, _ => []
  | f + 1, n => if n = 0 then [] else dg f (n / 256) ++ [UInt8.ofNat n]
def digits (n : Nat) : List UInt8 := dg 8 n
def enc (n : Nat) : List UInt8 := UInt8.ofNat (digits n).length :: digits n

theorem dg_zero (f : Nat) : dg f 0 = [] := by cases f <;> simp [dg]
theorem dg_more (f n : Nat) (h : n < 256 ^ f) : dg (f + 1) n = dg f n := by
  induction f generalizing n with
  | zero => have : n = 0 := by omega
            subst this; rfl
  | succ f ih =>
    rw [dg]
    conv => rhs; rw [dg]
    by_cases hn : n = 0
    · rw [if_pos hn, if_pos hn]
    · rw [if_neg hn, if_neg hn, ih (n / 256) (by rw [Nat.pow_succ] at h; omega)]
theorem digits_zero : digits 0 = [] := dg_zero 8
theorem digits_step (n : Nat) (h : n < 18446744073709551616) (hn : n ≠ 0) : digits n = digits (n / 256) ++ [UInt8.ofNat n] := by
  unfold digits
  conv => lhs; rw [dg]
  rw [if_neg hn, dg_more 7 (n / 256) (by omega)]

theorem dg_len_le (f n : Nat) : (dg f n).length ≤ f := by
  induction f generalizing n with
  | zero => simp [dg]
  | succ f ih =>
    rw [dg]; split
    · simp
    · have := ih (n / 256); simp; omega
theorem digits_len_le (n : Nat) : (digits n).length ≤ 8 := dg_len_le 8 n

theorem dg_len (f n j : Nat) (h : n < 256 ^ f) : (dg f n).length ≤ j ↔ n < 256 ^ j := by
  induction f generalizing n j with
  | zero => have : n = 0 := by omega
            subst this; simp [dg]; exact Nat.pow_pos (by omega)
  | succ f ih =>
    rw [dg]
    by_cases hn : n = 0
    · rw [if_pos hn, hn]; simp; exact Nat.pow_pos (by omega)
    · rw [if_neg hn]
      cases j with
      | zero => simp; omega
      | succ j =>
        have h1 := ih (n / 256) j (by rw [Nat.pow_succ] at h; omega)
        rw [List.length_append, List.length_singleton, Nat.add_le_add_iff_right, h1, Nat.pow_succ]
        omega
theorem digits_len (n j : Nat) (h : n < 18446744073709551616) : (digits n).length ≤ j ↔ n < 256 ^ j := dg_len 8 n j (by omega)
theorem digits_mono (a b : Nat) (hab : a ≤ b) (hb : b < 18446744073709551616) : (digits a).length ≤ (digits b).length := by
  rw [digits_len a _ (by omega)]
  have := (digits_len b _ hb).1 (Nat.le_refl _)
  omega

theorem snoc_ind {α : Type} {P : List α → Prop} (nil : P []) (snoc : ∀ l x, P l → P (l ++ [x])) (l : List α) : P l := by
  have key : ∀ l : List α, P l.reverse := by
    intro l
    induction l with
    | nil => exact nil
    | cons x l ih => rw [List.reverse_cons]; exact snoc _ _ ih
  simpa using key l.reverse

/-- the value of digits -/
def val (l : List UInt8) : Nat := l.foldl (fun n x => n * 256 + x.toNat) 0
theorem val_snoc (l : List UInt8) (x : UInt8) : val (l ++ [x]) = val l * 256 + x.toNat := by simp [val]
theorem val_lt (l : List UInt8) : val l < 256 ^ l.length := by
  induction l using snoc_ind with
  | nil => simp [val]
  | snoc l x ih =>
    rw [val_snoc, List.length_append, List.length_singleton, Nat.pow_succ]
    have := x.toNat_lt
    omega
theorem dg_val (f n : Nat) (h : n < 256 ^ f) : val (dg f n) = n := by
  induction f generalizing n with
  | zero => have : n = 0 := by omega
            subst this; rfl
  | succ f ih =>
    rw [dg]
    by_cases hn : n = 0
    · rw [if_pos hn, hn]; rfl
    · rw [if_neg hn, val_snoc, ih (n / 256) (by rw [Nat.pow_succ] at h; omega), UInt8.toNat_ofNat']
      omega
theorem digits_val (n : Nat) (h : n < 18446744073709551616) : val (digits n) = n := dg_val 8 n (by omega)

/-- digits without a leading zero are those of their value -/
theorem digits_of (l : List UInt8) (h8 : l.length ≤ 8) (h0 : l.head? ≠ some 0) : digits (val l) = l := by
  induction l using snoc_ind with
  | nil => rfl
  | snoc l x ih =>
    have hl8 : l.length ≤ 7 := by simp at h8; omega
    have hv := val_lt l
    have hp : 256 ^ l.length ≤ 256 ^ 7 := Nat.pow_le_pow_right (by omega) hl8
    have hx := x.toNat_lt
    have hne : val (l ++ [x]) ≠ 0 := by
      rw [val_snoc]
      cases l with
      | nil =>
        simp at h0
        intro hz
        apply h0
        apply UInt8.toNat_inj.1
        simp [val] at hz ⊢
        omega
      | cons y l =>
        have ih' := ih (by simp at h8 ⊢; omega) (by simpa using h0)
        intro hz
        have : val (y :: l) = 0 := by omega
        rw [this, digits_zero] at ih'
        cases ih'
    rw [digits_step _ (by rw [val_snoc]; omega) hne, val_snoc]
    have h1 : (val l * 256 + x.toNat) / 256 = val l := by omega
    have h2 : UInt8.ofNat (val l * 256 + x.toNat) = x := by
      apply UInt8.toNat_inj.1
      rw [UInt8.toNat_ofNat']
      omega
    rw [h1, h2, ih (by omega) (by
      cases l with
      | nil => simp
      | cons y l => simpa using h0)]

theorem digits_head (n : Nat) (h : n < 18446744073709551616) : (digits n).head? ≠ some 0 := by
  have key : ∀ f n, n < 256 ^ f → (dg f n).head? ≠ some 0 := by
    intro f
    induction f with
    | zero => intro n _; simp [dg]
    | succ f ih =>
      intro n hn
      rw [dg]
      by_cases h0 : n = 0
      · rw [if_pos h0]; simp
      · rw [if_neg h0]
        have h1 := ih (n / 256) (by rw [Nat.pow_succ] at hn; omega)
        by_cases he : dg f (n / 256) = []
        · rw [he]
          have hv := dg_val f (n / 256) (by rw [Nat.pow_succ] at hn; omega)
          rw [he] at hv
          have : n / 256 = 0 := hv.symm
          simp only [List.nil_append, List.head?_cons, ne_eq, Option.some.injEq]
          intro hz
          have := congrArg UInt8.toNat hz
          rw [UInt8.toNat_ofNat'] at this
          simp at this
          omega
        · cases hd : dg f (n / 256) with
          | nil => exact absurd hd he
          | cons y t => rw [hd] at h1; simpa using h1
  exact key 8 n (by omega)

/-- the digit at a place -/
theorem dg_at (f n p : Nat) (hp : p < (dg f n).length) : (dg f n)[p] = UInt8.ofNat (n / 256 ^ ((dg f n).length - 1 - p)) := by
  induction f generalizing n p with
  | zero => simp [dg] at hp
  | succ f ih =>
    have hd : dg (f + 1) n = if n = 0 then [] else dg f (n / 256) ++ [UInt8.ofNat n] := rfl
    by_cases hn : n = 0
    · rw [if_pos hn] at hd; simp [hd] at hp
    · rw [if_neg hn] at hd
      have hl : (dg (f + 1) n).length = (dg f (n / 256)).length + 1 := by rw [hd]; simp
      simp only [hl]
      by_cases hpl : p < (dg f (n / 256)).length
      · have e : (dg (f + 1) n)[p] = (dg f (n / 256))[p] := by simp only [hd]; exact List.getElem_append_left hpl
        rw [e, ih (n / 256) p hpl, Nat.div_div_eq_div_mul]
        congr 2
        rw [Nat.mul_comm, ← Nat.pow_succ]
        congr 1; omega
      · have hpe : p = (dg f (n / 256)).length := by omega
        have e : (dg (f + 1) n)[p] = UInt8.ofNat n := by simp only [hd]; subst hpe; simp
        rw [e, hpe]; simp
theorem digits_at (n p : Nat) (hp : p < (digits n).length) : (digits n)[p] = UInt8.ofNat (n / 256 ^ ((digits n).length - 1 - p)) := dg_at 8 n p hp

/-- the number of digits, counted -/
theorem digits_count (n j : Nat) (h : n < 18446744073709551616) (hj : n / 256 ^ j ≠ 0) : (digits (n / 256 ^ j)).length = (digits (n / 256 ^ (j + 1))).length + 1 := by
  have hle : n / 256 ^ j ≤ n := Nat.div_le_self _ _
  rw [digits_step (n / 256 ^ j) (by omega) hj, Nat.div_div_eq_div_mul, ← Nat.pow_succ]
  simp

theorem enc_len (n : Nat) : (enc n).length = (digits n).length + 1 := by simp [enc]
theorem enc_inj (a b : Nat) (ha : a < 18446744073709551616) (hb : b < 18446744073709551616) (h : enc a = enc b) : a = b := by
  unfold enc at h
  injection h with _ h
  rw [← digits_val a ha, ← digits_val b hb, h]
theorem enc_noprefix (a b : Nat) (ha : a < 18446744073709551616) (hb : b < 18446744073709551616) (hne : a ≠ b) : enc a ≠ (enc b).take (enc a).length := by
  intro h
  have h8a := digits_len_le a
  have h8b := digits_len_le b
  have h0 : (enc a).head? = (enc b).head? := by
    rw [h]
    simp [enc]
  simp only [enc, List.head?_cons, Option.some.injEq] at h0
  have hl : (digits a).length = (digits b).length := by
    have := congrArg UInt8.toNat h0
    rw [UInt8.toNat_ofNat', UInt8.toNat_ofNat'] at this
    omega
  apply hne
  apply enc_inj a b ha hb
  rw [h, List.take_of_length_le (by rw [enc_len, enc_len]; omega)]
end Wr
end Go.Proofs.Ytjmcmilbkhacdaa
