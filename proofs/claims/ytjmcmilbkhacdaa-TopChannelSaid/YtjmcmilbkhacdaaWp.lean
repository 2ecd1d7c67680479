/- Plain mathematics of reading: no program in sight. -/
import Derived.Test.YtjmcmilbkhacdaaWr
namespace Go.Proofs.Ytjmcmilbkhacdaa
namespace Wr

/-- the number at the head of some bytes, and the length of its encoding -/
def parse : List UInt8 → Option (Nat × Nat)
  | [] => none
  | k :: t => if 8 < k.toNat then none else if t.length < k.toNat then none else if 0 < k.toNat ∧ t.head? = some 0 then none else some (val (t.take k.toNat), 1 + k.toNat)

theorem parse_cons (k : UInt8) (t : List UInt8) : parse (k :: t) = if 8 < k.toNat then none else if t.length < k.toNat then none else if 0 < k.toNat ∧ t.head? = some 0 then none else some (val (t.take k.toNat), 1 + k.toNat) := rfl
theorem parse_enc (n : Nat) (h : n < 18446744073709551616) (r : List UInt8) : parse (enc n ++ r) = some (n, (enc n).length) := by
  have h8 := digits_len_le n
  have hk : (UInt8.ofNat (digits n).length).toNat = (digits n).length := by rw [UInt8.toNat_ofNat']; exact Nat.mod_eq_of_lt (by omega)
  show parse (UInt8.ofNat (digits n).length :: (digits n ++ r)) = _
  rw [parse_cons, hk, if_neg (by omega), if_neg (by simp), if_neg ?_]
  · rw [List.take_left', digits_val n h, enc_len]
    · congr 2; omega
    · rfl
  · rintro ⟨h1, h2⟩
    apply digits_head n h
    cases hd : digits n with
    | nil => rw [hd] at h1; simp at h1
    | cons y t => rw [hd] at h2; simpa using h2

theorem parse_some (l : List UInt8) (n k : Nat) (h : parse l = some (n, k)) : n < 18446744073709551616 ∧ k = (enc n).length ∧ k ≤ l.length ∧ l = enc n ++ l.drop k := by
  cases l with
  | nil => cases h
  | cons x t =>
    rw [parse_cons] at h
    by_cases h1 : 8 < x.toNat
    · rw [if_pos h1] at h; cases h
    · rw [if_neg h1] at h
      by_cases h2 : t.length < x.toNat
      · rw [if_pos h2] at h; cases h
      · rw [if_neg h2] at h
        by_cases h3 : 0 < x.toNat ∧ t.head? = some 0
        · rw [if_pos h3] at h; cases h
        · rw [if_neg h3] at h
          simp only [Option.some.injEq, Prod.mk.injEq] at h
          obtain ⟨rfl, rfl⟩ := h
          have hl : (t.take x.toNat).length = x.toNat := by simp; omega
          have hd : digits (val (t.take x.toNat)) = t.take x.toNat := by
            apply digits_of _ (by omega)
            intro hh
            apply h3
            cases hx : x.toNat with
            | zero => rw [hx] at hh; simp at hh
            | succ m =>
              refine ⟨by omega, ?_⟩
              cases t with
              | nil => simp at hh
              | cons y t => rw [hx] at hh; simpa using hh
          have hv := val_lt (t.take x.toNat)
          rw [hl] at hv
          have hp : 256 ^ x.toNat ≤ 256 ^ 8 := Nat.pow_le_pow_right (by omega) (by omega)
          refine ⟨by omega, by rw [enc_len, hd, hl]; omega, by simp; omega, ?_⟩
          unfold enc
          rw [hd, hl]
          have : UInt8.ofNat x.toNat = x := by apply UInt8.toNat_inj.1; rw [UInt8.toNat_ofNat']; exact Nat.mod_eq_of_lt x.toNat_lt
          rw [this, Nat.add_comm 1, List.drop_succ_cons]
          simp

/-- a reader: the bytes that are left, and the error -/
structure Rs where
  l : List UInt8
  e : Int
def failR (e : Int) : Rs := ⟨[], e⟩
/-- Uint -/
def uintR (r : Rs) : Nat × Rs :=
  if r.e ≠ 0 then (0, r) else match parse r.l with
    | none => (0, failR 11)
    | some (n, k) => (n, ⟨r.l.drop k, 0⟩)
theorem uintR_lt (r : Rs) : (uintR r).1 < 18446744073709551616 := by
  unfold uintR
  split
  · simp
  · cases h : parse r.l with
    | none => simp
    | some p => obtain ⟨n, k⟩ := p; exact (parse_some _ _ _ h).1
theorem val_take (l : List UInt8) (j : Nat) (h : j < l.length) : val (l.take (j + 1)) = val (l.take j) * 256 + l[j].toNat := by
  rw [List.take_succ_eq_append_getElem h, val_snoc]
end Wr
end Go.Proofs.Ytjmcmilbkhacdaa
