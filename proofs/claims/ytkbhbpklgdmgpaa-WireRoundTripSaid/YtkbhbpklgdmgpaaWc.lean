/- What is read is what was written: no program in sight. -/
import Derived.Test.YtkbhbpklgdmgpaaWl
namespace Go.Proofs.Ytkbhbpklgdmgpaa
open Go.RowKit
namespace Wi
open Wr

theorem unzig_zig (n : Int) : unzig (zig n) = n := by
  unfold unzig zig
  by_cases h : 0 ≤ n
  · rw [if_pos h, if_pos (by omega)]; omega
  · rw [if_neg h, if_neg (by omega)]; omega
theorem zig_unzig (n : Nat) : zig (unzig n) = n := by
  unfold unzig zig
  by_cases h : n % 2 = 0
  · rw [if_pos h, if_pos (by omega)]; omega
  · rw [if_neg h, if_neg (by omega)]; omega
theorem unzig_fits (n : Nat) (h : n < 18446744073709551616) : -9223372036854775808 ≤ unzig n ∧ unzig n ≤ 9223372036854775807 := by
  unfold unzig
  by_cases h : n % 2 = 0
  · rw [if_pos h]; omega
  · rw [if_neg h]; omega

/-- a number read -/
theorem uintR_cases (r : Rs) : ((uintR r).2.e = 0 ∧ r.e = 0 ∧ r.l = enc (uintR r).1 ++ (uintR r).2.l ∧ (uintR r).1 < 18446744073709551616) ∨ ((uintR r).2.e ≠ 0 ∧ (uintR r).1 = 0 ∧ ((uintR r).2 = r ∨ (uintR r).2.l = [])) := by
  by_cases he : r.e = 0
  · cases hp : parse r.l with
    | none => rw [uintR_none r he hp]; exact .inr ⟨by decide, rfl, .inr rfl⟩
    | some p =>
      obtain ⟨n, k⟩ := p
      rw [uintR_some r he hp]
      have h := parse_some _ _ _ hp
      exact .inl ⟨rfl, he, h.2.2.2, h.1⟩
  · rw [uintR_err r he]; exact .inr ⟨he, rfl, .inl rfl⟩

/-- what a read leaves: the bytes of the item, or a failed reader -/
def Canon (r : Rs) (x : It) (r2 : Rs) : Prop :=
  x.fits ∧ x.s.size ≤ 4096 ∧ ((r2.e = 0 ∧ r.e = 0 ∧ r.l = encIt x ++ r2.l) ∨ (r2.e ≠ 0 ∧ (r2 = r ∨ r2.l = []) ∧ (encIt x).length ≤ 2))

theorem encIt0 (x : It) (h : x.kd.toNat % 5 = 0) : encIt x = enc x.n.toNat := by unfold encIt; rw [if_pos h]
theorem encIt1 (x : It) (h : x.kd.toNat % 5 = 1) : encIt x = enc (zig x.i) := by unfold encIt; rw [if_neg (by omega), if_pos h]
theorem encIt2 (x : It) (h : x.kd.toNat % 5 = 2) : encIt x = enc x.s.size ++ strB x.s := by unfold encIt; rw [if_neg (by omega), if_neg (by omega), if_pos h]
theorem encIt3 (x : It) (h : x.kd.toNat % 5 = 3) : encIt x = encID x.m x.q := by unfold encIt; rw [if_neg (by omega), if_neg (by omega), if_neg (by omega), if_pos h]
theorem encIt4 (x : It) (h : x.kd.toNat % 5 = 4) : encIt x = [if x.b then 1 else 0] := by unfold encIt; rw [if_neg (by omega), if_neg (by omega), if_neg (by omega), if_neg (by omega)]

theorem u64n_nat (n : Nat) (h : n < 18446744073709551616) : u64n (n : Int) = n := by
  have := u64n_of (n : Int) (by omega) (by omega); omega
theorem bv_nat (n : Nat) (h : n < 18446744073709551616) : (BitVec.ofNat 64 n).toNat = n := by rw [BitVec.toNat_ofNat]; exact Nat.mod_eq_of_lt (by omega)
theorem size_of (l : List UInt8) : (⟨l.toArray⟩ : ByteArray).size = l.length := by show l.toArray.size = _; simp
theorem strB_of (l : List UInt8) : strB ⟨l.toArray⟩ = l := by show l.toArray.toList = l; simp
theorem enc_zero : (enc 0).length = 1 := by rw [enc_len, digits_zero]; rfl

theorem readR_canon (k : Nat) (hk : k ≤ 4) (r : Rs) : Canon r (readR k 0 r).1 (readR k 0 r).2 := by
  have hu := uintR_cases r
  have hlt := uintR_lt r
  have hcase : k = 0 ∨ k = 1 ∨ k = 2 ∨ k = 3 ∨ k = 4 := by omega
  rcases hcase with rfl | rfl | rfl | rfl | rfl
  · show Canon r ⟨UInt8.ofNat 0, BitVec.ofNat 64 (uintR r).1, 0, ⟨#[]⟩, 0, 0, false⟩ (uintR r).2
    refine ⟨⟨by simp, by simp⟩, by simp [ByteArray.size], ?_⟩
    rw [encIt0 _ rfl, bv_nat _ hlt]
    rcases hu with ⟨h1, h2, h3, _⟩ | ⟨h1, h2, h3⟩
    · exact .inl ⟨h1, h2, h3⟩
    · exact .inr ⟨h1, h3, by rw [h2, enc_zero]; omega⟩
  · show Canon r ⟨UInt8.ofNat 1, 0, unzig (uintR r).1, ⟨#[]⟩, 0, 0, false⟩ (uintR r).2
    refine ⟨unzig_fits _ hlt, by simp [ByteArray.size], ?_⟩
    rw [encIt1 _ rfl, zig_unzig]
    rcases hu with ⟨h1, h2, h3, _⟩ | ⟨h1, h2, h3⟩
    · exact .inl ⟨h1, h2, h3⟩
    · exact .inr ⟨h1, h3, by rw [h2, enc_zero]; omega⟩
  · show Canon r ⟨UInt8.ofNat 2, 0, 0, ⟨(stringR r).1.toArray⟩, 0, 0, false⟩ (stringR r).2
    have hs : (stringR r).1.length ≤ 4096 ∧ (((stringR r).2.e = 0 ∧ r.e = 0 ∧ r.l = enc (stringR r).1.length ++ ((stringR r).1 ++ (stringR r).2.l)) ∨ ((stringR r).2.e ≠ 0 ∧ ((stringR r).2 = r ∨ (stringR r).2.l = []) ∧ (stringR r).1 = [])) := by
      unfold stringR
      rcases hu with ⟨h1, h2, h3, _⟩ | ⟨h1, h2, h3⟩
      · rw [if_neg (by simp [h1])]
        by_cases h4 : 4096 < (uintR r).1
        · rw [if_pos h4]; exact ⟨by simp, .inr ⟨by decide, .inr rfl, rfl⟩⟩
        · rw [if_neg h4]
          by_cases h5 : (uintR r).2.l.length < (uintR r).1
          · rw [if_pos h5]; exact ⟨by simp, .inr ⟨by decide, .inr rfl, rfl⟩⟩
          · rw [if_neg h5]
            have hl : ((uintR r).2.l.take (uintR r).1).length = (uintR r).1 := by simp; omega
            refine ⟨by simp only [hl]; omega, .inl ⟨rfl, h2, ?_⟩⟩
            simp only [hl, List.take_append_drop]; exact h3
      · rw [if_pos h1]; exact ⟨by simp, .inr ⟨h1, h3, rfl⟩⟩
    refine ⟨⟨by simp, by simp⟩, by simp only [size_of]; exact hs.1, ?_⟩
    rw [encIt2 _ rfl]
    simp only [size_of, strB_of]
    rcases hs.2 with ⟨h1, h2, h3⟩ | ⟨h1, h2, h3⟩
    · exact .inl ⟨h1, h2, by rw [List.append_assoc]; exact h3⟩
    · exact .inr ⟨h1, h2, by rw [h3]; simp [enc_zero]⟩
  · show Canon r ⟨UInt8.ofNat 3, 0, 0, ⟨#[]⟩, ((idR r).1.1 : Int), ((idR r).1.2 : Int), false⟩ (idR r).2
    refine ⟨⟨by simp, by simp⟩, by simp [ByteArray.size], ?_⟩
    rw [encIt3 _ rfl]
    have hz : (encID 0 0).length ≤ 2 := by unfold encID; rw [List.length_append, show u64n 0 = 0 from rfl, enc_zero]; decide
    have hu2 := uintR_cases (uintR r).2
    rw [idR_zero r _ _ _ rfl rfl rfl]
    rcases hu2 with ⟨g1, g2, g3, g4⟩ | ⟨g1, g2, g3⟩
    · rw [if_neg (by simp [g1])]
      rcases hu with ⟨h1, h2, h3, h4⟩ | ⟨h1, _⟩
      · by_cases hE : idE (uintR r).1 (uintR (uintR r).2).1 = 0
        · rw [if_pos hE]
          refine .inl ⟨g1, h2, ?_⟩
          show r.l = encID _ _ ++ _
          unfold encID
          rw [u64n_nat _ h4, u64n_nat _ g4, List.append_assoc, ← g3]; exact h3
        · rw [if_neg hE]; exact .inr ⟨by decide, .inr rfl, hz⟩
      · exact absurd g2 h1
    · rw [if_pos g1]
      refine .inr ⟨g1, ?_, hz⟩
      show (uintR (uintR r).2).2 = r ∨ _
      rcases g3 with g3 | g3
      · rw [g3]
        rcases hu with ⟨h1, _⟩ | ⟨_, _, h3⟩
        · rw [g3] at g1; exact absurd h1 g1
        · exact h3
      · exact .inr g3
  · show Canon r ⟨UInt8.ofNat 4, 0, 0, ⟨#[]⟩, 0, 0, (boolR r).1⟩ (boolR r).2
    refine ⟨⟨by simp, by simp⟩, by simp [ByteArray.size], ?_⟩
    rw [encIt4 _ rfl]
    unfold boolR
    by_cases he : r.e ≠ 0
    · rw [if_pos he]; exact .inr ⟨he, .inl rfl, by simp⟩
    · rw [if_neg he]
      have he' : r.e = 0 := by simpa using he
      cases hl : r.l with
      | nil => exact .inr ⟨by decide, .inr rfl, by simp⟩
      | cons y t =>
        by_cases hy : 1 < y.toNat
        · simp only [hy, if_true]; exact .inr ⟨by decide, .inr rfl, by simp⟩
        · simp only [hy, if_false]
          refine .inl ⟨trivial, he', ?_⟩
          have hy01 : y = 0 ∨ y = 1 := by
            have : y.toNat = 0 ∨ y.toNat = 1 := by omega
            rcases this with h | h
            · exact .inl (UInt8.toNat_inj.1 h)
            · exact .inr (UInt8.toNat_inj.1 h)
          rcases hy01 with rfl | rfl <;> rfl

/-- an item can be read -/
def readB (x : It) : Bool :=
  if x.kd.toNat % 5 = 2 then decide (x.s.size ≤ 4096) else if x.kd.toNat % 5 = 3 ∧ ¬ (x.m = 0 ∧ x.q = 0) then decide (1 ≤ x.m ∧ x.m ≤ 8 ∧ 1 ≤ x.q ∧ x.q ≤ 1099511627775) else true

/-- what is read agrees with what was written -/
def Agree (x y : It) : Prop :=
  y.kd = UInt8.ofNat (x.kd.toNat % 5) ∧ (x.kd.toNat % 5 = 0 → y.n = x.n) ∧ (x.kd.toNat % 5 = 1 → y.i = x.i) ∧ (x.kd.toNat % 5 = 2 → y.s = x.s) ∧ (x.kd.toNat % 5 = 3 → y.m = x.m ∧ y.q = x.q) ∧ (x.kd.toNat % 5 = 4 → y.b = x.b)

theorem readR_back (x : It) (hf : x.fits) (hr : readB x = true) (t : List UInt8) (hs : x.s.size < 18446744073709551616) :
    Agree x (readR (x.kd.toNat % 5) 0 ⟨encIt x ++ t, 0⟩).1 ∧ (readR (x.kd.toNat % 5) 0 ⟨encIt x ++ t, 0⟩).2 = ⟨t, 0⟩ := by
  obtain ⟨hf1, hf2⟩ := hf
  have hcase : x.kd.toNat % 5 = 0 ∨ x.kd.toNat % 5 = 1 ∨ x.kd.toNat % 5 = 2 ∨ x.kd.toNat % 5 = 3 ∨ x.kd.toNat % 5 = 4 := by omega
  unfold Agree
  rcases hcase with h | h | h | h | h
  · rw [encIt0 x h, h]
    have hu := uintR_enc x.n.toNat x.n.isLt t
    refine ⟨⟨rfl, fun _ => ?_, fun h => absurd h (by decide), fun h => absurd h (by decide), fun h => absurd h (by decide), fun h => absurd h (by decide)⟩, ?_⟩
    · show BitVec.ofNat 64 (uintR _).1 = x.n
      rw [hu]; exact BitVec.ofNat_toNat .. |>.trans (by simp)
    · show (uintR _).2 = _
      rw [hu]
  · rw [encIt1 x h, h]
    have hu := uintR_enc (zig x.i) (zig_lt _ hf1 hf2) t
    refine ⟨⟨rfl, fun h => absurd h (by decide), fun _ => ?_, fun h => absurd h (by decide), fun h => absurd h (by decide), fun h => absurd h (by decide)⟩, ?_⟩
    · show unzig (uintR _).1 = x.i
      rw [hu]; exact unzig_zig _
    · show (uintR _).2 = _
      rw [hu]
  · rw [encIt2 x h, h]
    have hl := strB_length x.s
    have hsz : x.s.size ≤ 4096 := by unfold readB at hr; rw [if_pos h] at hr; simpa using hr
    have hst : stringR ⟨enc x.s.size ++ strB x.s ++ t, 0⟩ = (strB x.s, ⟨t, 0⟩) := by
      have := stringR_enc (strB x.s) (by omega) t
      rw [hl, if_neg (by omega)] at this
      rw [List.append_assoc]; exact this
    refine ⟨⟨rfl, fun h => absurd h (by decide), fun h => absurd h (by decide), fun _ => ?_, fun h => absurd h (by decide), fun h => absurd h (by decide)⟩, ?_⟩
    · show (⟨(stringR _).1.toArray⟩ : ByteArray) = x.s
      rw [hst]; rfl
    · show (stringR _).2 = _
      rw [hst]
  · rw [encIt3 x h, h]
    have hv : (x.m = 0 ∧ x.q = 0) ∨ (1 ≤ x.m ∧ x.m ≤ 8 ∧ 1 ≤ x.q ∧ x.q ≤ 1099511627775) := by
      unfold readB at hr
      rw [if_neg (by omega)] at hr
      by_cases hz : x.m = 0 ∧ x.q = 0
      · exact .inl hz
      · rw [if_pos ⟨h, hz⟩] at hr; right; simpa using hr
    have hm := u64n_of x.m (by omega) (by omega)
    have hq := u64n_of x.q (by omega) (by omega)
    have hu := uintR_enc (u64n x.m) (u64n_lt _) (enc (u64n x.q) ++ t)
    have hu2 := uintR_enc (u64n x.q) (u64n_lt _) t
    have hid : idR ⟨encID x.m x.q ++ t, 0⟩ = ((u64n x.m, u64n x.q), ⟨t, 0⟩) := by
      unfold encID
      rw [List.append_assoc, idR_zero _ (u64n x.m) (u64n x.q) ⟨t, 0⟩ (by rw [hu]) (by rw [hu]; simp only [hu2]) (by rw [hu]; simp only [hu2]), if_neg (by simp), if_pos]
      unfold idE
      rw [if_pos]
      omega
    refine ⟨⟨rfl, fun h => absurd h (by decide), fun h => absurd h (by decide), fun h => absurd h (by decide), fun _ => ⟨?_, ?_⟩, fun h => absurd h (by decide)⟩, ?_⟩
    · show (((idR _).1.1 : Nat) : Int) = x.m
      rw [hid]; exact hm
    · show (((idR _).1.2 : Nat) : Int) = x.q
      rw [hid]; exact hq
    · show (idR _).2 = _
      rw [hid]
  · rw [encIt4 x h, h]
    refine ⟨⟨rfl, fun h => absurd h (by decide), fun h => absurd h (by decide), fun h => absurd h (by decide), fun h => absurd h (by decide), fun _ => ?_⟩, ?_⟩
    · show (boolR _).1 = x.b
      cases x.b <;> rfl
    · show (boolR _).2 = _
      cases x.b <;> rfl
end Wi
end Go.Proofs.Ytkbhbpklgdmgpaa
