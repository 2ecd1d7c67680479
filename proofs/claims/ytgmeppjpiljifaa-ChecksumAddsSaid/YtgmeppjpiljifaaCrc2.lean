/- The checksum tells changed bytes: plain mathematics. -/
import Derived.Test.YtgmeppjpiljifaaCrc
namespace Go.Proofs.Ytgmeppjpiljifaa
namespace Crc

theorem sh_msb (c : BitVec 64) : (sh c).getLsbD 63 = c.getLsbD 0 := by
  unfold sh
  cases h : c.getLsbD 0
  · simp
  · simp [poly]
theorem sh_eq_zero (c : BitVec 64) (h : sh c = 0#64) : c = 0#64 := by
  have h0 : c.getLsbD 0 = false := by rw [← sh_msb, h]; simp
  have h1 : c >>> 1 = 0#64 := by
    have : sh c = c >>> 1 := by unfold sh; rw [h0]; rfl
    rw [← this]; exact h
  apply BitVec.eq_of_getLsbD_eq
  intro i hi
  cases i with
  | zero => rw [h0]; simp
  | succ i =>
    have := congrArg (fun x => x.getLsbD i) h1
    simp only [BitVec.getLsbD_ushiftRight] at this
    rw [Nat.add_comm]; simpa using this
theorem shN_eq_zero (n : Nat) : ∀ c : BitVec 64, shN n c = 0#64 → c = 0#64 := by
  induction n with
  | zero => intro c h; exact h
  | succ n ih => intro c h; exact sh_eq_zero c (ih _ h)

theorem xor_eq_zero (a b : BitVec 64) : a ^^^ b = 0#64 ↔ a = b := by
  constructor
  · intro h
    have := congrArg (fun x => x ^^^ b) h
    simpa [BitVec.xor_assoc] using this
  · intro h; subst h; simp

theorem ofNat_xor (x y : UInt8) : BitVec.ofNat 64 (x ^^^ y).toNat = BitVec.ofNat 64 x.toNat ^^^ BitVec.ofNat 64 y.toNat := by
  apply BitVec.eq_of_getLsbD_eq
  intro i hi
  simp [hi]

theorem run_state (l : List UInt8) : ∀ s t : BitVec 64, run (s ^^^ t) l = run s l ^^^ shN (8 * l.length) t := by
  induction l with
  | nil => intro s t; rfl
  | cons x l ih =>
    intro s t
    have h1 : byte (s ^^^ t) x = byte s x ^^^ shN 8 t := by
      unfold byte
      rw [← shN_xor]
      congr 1
      rw [BitVec.xor_assoc, BitVec.xor_comm t, ← BitVec.xor_assoc]
    show run (byte (s ^^^ t) x) l = run (byte s x) l ^^^ _
    rw [h1, ih, ← shN_add]
    congr 2
    simp; omega

/-- one byte changed -/
theorem run_set (l : List UInt8) (i : Nat) (y : UInt8) (h : i < l.length) (s : BitVec 64) :
    run s (l.set i y) = run s l ^^^ shN (8 * (l.length - i)) (BitVec.ofNat 64 (l[i] ^^^ y).toNat) := by
  induction l generalizing i s with
  | nil => simp at h
  | cons x l ih =>
    cases i with
    | zero =>
      show run (byte s y) l = run (byte s x) l ^^^ _
      have h1 : byte s y = byte s x ^^^ shN 8 (BitVec.ofNat 64 (x ^^^ y).toNat) := by
        unfold byte
        rw [← shN_xor, ofNat_xor]
        congr 1
        rw [BitVec.xor_assoc, ← BitVec.xor_assoc (BitVec.ofNat 64 x.toNat)]
        simp
      rw [h1, run_state, ← shN_add]
      congr 2
      simp; omega
    | succ i =>
      have := ih i (by simpa using h) (byte s x)
      show run (byte s x) (l.set i y) = run (byte s x) l ^^^ _
      rw [this]
      simp

theorem flip_inj (a b : BitVec 64) (h : flip a = flip b) : a = b := by
  unfold flip at h
  have := congrArg (fun x => ~~~ x) h
  simpa using this

theorem sum_set (l : List UInt8) (i : Nat) (y : UInt8) (h : i < l.length) (hne : l[i] ≠ y) : sum (l.set i y) ≠ sum l := by
  intro hc
  unfold sum upd at hc
  have h1 := flip_inj _ _ hc
  rw [run_set l i y h] at h1
  have h2 : shN (8 * (l.length - i)) (BitVec.ofNat 64 (l[i] ^^^ y).toNat) = 0#64 := by
    generalize run (flip 0#64) l = r at h1
    have := congrArg (fun x => r ^^^ x) h1
    simpa [← BitVec.xor_assoc] using this
  have h3 := shN_eq_zero _ _ h2
  rw [ofNat_xor, xor_eq_zero] at h3
  apply hne
  have h4 := congrArg BitVec.toNat h3
  rw [BitVec.toNat_ofNat, BitVec.toNat_ofNat] at h4
  have hx := l[i].toNat_lt
  have hy := y.toNat_lt
  exact UInt8.toNat_inj.1 (by omega)

theorem leb_bit (c : BitVec 64) (i j : Nat) (hj : j < 8) : (leb c i).toNat.testBit j = c.getLsbD (8 * i + j) := by
  rw [leb_toNat, show (256 : Nat) = 2 ^ 8 from rfl, Nat.testBit_mod_two_pow]
  simp only [hj, decide_true, Bool.true_and]
  rw [Nat.testBit_div_two_pow, BitVec.testBit_toNat, Nat.add_comm]
theorem le8_inj (a b : BitVec 64) (h : le8 a = le8 b) : a = b := by
  apply BitVec.eq_of_getLsbD_eq
  intro i hi
  have h1 : leb a (i / 8) = leb b (i / 8) := by
    have h0 : (le8 a)[i / 8]? = (le8 b)[i / 8]? := by rw [h]
    have h8 : i / 8 < 8 := by omega
    simpa [le8, h8] using h0
  have ha := leb_bit a (i / 8) (i % 8) (Nat.mod_lt _ (by omega))
  have hb := leb_bit b (i / 8) (i % 8) (Nat.mod_lt _ (by omega))
  rw [show 8 * (i / 8) + i % 8 = i by omega] at ha hb
  rw [← ha, ← hb, h1]

theorem opened_sealed (l : List UInt8) : opened (sealed l) = some l := by
  have h : (sealed l).length = l.length + 8 := by simp [sealed, le8_length]
  have h1 : (sealed l).take l.length = l := by simp [sealed]
  have h2 : (sealed l).drop l.length = le8 (sum l) := by simp [sealed]
  have := opened_yes (sealed l) l.length h (by rw [h1, h2])
  rw [this, h1]

/-- a sealed byte string of which one byte is changed is not opened -/
theorem opened_changed (l : List UInt8) (i : Nat) (y : UInt8) (h : i < (sealed l).length) (hne : (sealed l)[i] ≠ y) : opened ((sealed l).set i y) = none := by
  have hlen : (sealed l).length = l.length + 8 := by simp [sealed, le8_length]
  unfold opened
  rw [if_neg (by simp; omega)]
  have hn : ((sealed l).set i y).length - 8 = l.length := by simp; omega
  rw [hn, if_neg]
  intro hc
  by_cases hi : i < l.length
  · have e1 : ((sealed l).set i y).take l.length = l.set i y := by
      unfold sealed
      rw [List.set_append_left _ _ hi, List.take_append_of_le_length (by simp), List.take_of_length_le (by simp)]
    have e2 : ((sealed l).set i y).drop l.length = le8 (sum l) := by
      unfold sealed
      rw [List.set_append_left _ _ hi]
      have : l.length = (l.set i y).length := by simp
      rw [this, List.drop_left]
    rw [e1, e2] at hc
    refine sum_set l i y hi ?_ (le8_inj _ _ hc).symm
    intro he
    apply hne
    rw [← he]
    simp [sealed, hi]
  · have e1 : ((sealed l).set i y).take l.length = l := by
      unfold sealed
      rw [List.set_append_right _ _ (by omega), List.take_left]
    have e2 : ((sealed l).set i y).drop l.length = (le8 (sum l)).set (i - l.length) y := by
      unfold sealed
      rw [List.set_append_right _ _ (by omega), List.drop_left]
    rw [e1, e2] at hc
    apply hne
    have hk : i - l.length < (le8 (sum l)).length := by rw [le8_length]; omega
    have h1 : ((le8 (sum l)).set (i - l.length) y)[i - l.length]? = (le8 (sum l))[i - l.length]? := by rw [hc]
    rw [List.getElem?_set_self hk, List.getElem?_eq_getElem hk] at h1
    simp only [Option.some.injEq] at h1
    rw [h1]
    have h5 : (sealed l)[i]? = some (le8 (sum l))[i - l.length] := by
      unfold sealed
      rw [List.getElem?_append_right (by omega), List.getElem?_eq_getElem hk]
    rw [List.getElem?_eq_getElem h] at h5
    exact Option.some.inj h5

/-! ### bursts -/

theorem shN_pow (q : Nat) (h : q < 64) : shN q (1#64 <<< q) = 1#64 := by
  rw [shN_low q _ (fun i hi => by simp [BitVec.getLsbD_shiftLeft, hi])]
  apply BitVec.eq_of_getLsbD_eq
  intro i hi
  simp only [BitVec.getLsbD_ushiftRight, BitVec.getLsbD_shiftLeft, BitVec.getLsbD_one]
  by_cases h0 : i = 0
  · subst h0; simp [h]
  · simp [h0]

/-- the first i bits of a pattern -/
def msk (p : BitVec 64) (i : Nat) : BitVec 64 := BitVec.ofNat 64 (p.toNat % 2 ^ i)
theorem msk_get (p : BitVec 64) (i j : Nat) (hj : j < 64) : (msk p i).getLsbD j = (decide (j < i) && p.getLsbD j) := by
  unfold msk
  rw [BitVec.getLsbD_ofNat, Nat.testBit_mod_two_pow, BitVec.testBit_toNat]
  simp [hj]
theorem msk_succ (p : BitVec 64) (i : Nat) (h : i < 64) : msk p (i + 1) = msk p i ^^^ (if p.getLsbD i then 1#64 <<< i else 0#64) := by
  apply BitVec.eq_of_getLsbD_eq
  intro j hj
  rw [BitVec.getLsbD_xor, msk_get _ _ _ hj, msk_get _ _ _ hj]
  by_cases hp : p.getLsbD i = true
  · rw [if_pos hp, BitVec.getLsbD_shiftLeft]
    rcases Nat.lt_trichotomy j i with h1 | h1 | h1
    · simp [h1, show j < i + 1 by omega]
    · subst h1; simp [hp, h]
    · simp [show ¬ j < i + 1 by omega, show ¬ j < i by omega]
      intro _ _; omega
  · rw [if_neg hp]
    rcases Nat.lt_trichotomy j i with h1 | h1 | h1
    · simp [h1, show j < i + 1 by omega]
    · subst h1; simp at hp; simp [hp]
    · simp [show ¬ j < i + 1 by omega, show ¬ j < i by omega]

theorem msk_true (p : BitVec 64) (k : Nat) (h : k < 64) (hb : p.getLsbD k = true) : (msk p (k + 1) != 0#64) = true := by
  rw [bne_iff_ne]
  intro hc
  have := congrArg (fun x => x.getLsbD k) hc
  rw [msk_get _ _ _ h] at this
  simp [hb] at this
theorem msk_false (p : BitVec 64) (k : Nat) (h : k < 64) (hb : p.getLsbD k = false) : msk p (k + 1) = msk p k := by
  rw [msk_succ _ _ h, hb]; simp
theorem msk_zero (p : BitVec 64) : msk p 0 = 0#64 := by unfold msk; simp [Nat.mod_one]

/-- a bit of a byte string inverted -/
def inv (l : List UInt8) (p : Nat) : List UInt8 := l.set (p / 8) (l.getD (p / 8) 0 ^^^ (1 <<< UInt8.ofNat (p % 8)))

theorem bit_ofNat (q : Nat) (h : q < 8) : BitVec.ofNat 64 (1 <<< UInt8.ofNat q : UInt8).toNat = 1#64 <<< q := by
  have : q = 0 ∨ q = 1 ∨ q = 2 ∨ q = 3 ∨ q = 4 ∨ q = 5 ∨ q = 6 ∨ q = 7 := by omega
  rcases this with rfl | rfl | rfl | rfl | rfl | rfl | rfl | rfl <;> rfl

theorem run_inv (l : List UInt8) (first j : Nat) (s : BitVec 64) (h : first + j < 8 * l.length) (hj : j < 64) :
    run s (inv l (first + j)) = run s l ^^^ shN (8 * l.length - first) (1#64 <<< j) := by
  have hi : (first + j) / 8 < l.length := by omega
  unfold inv
  rw [run_set _ _ _ hi]
  congr 1
  have e : l[(first + j) / 8] ^^^ (l.getD ((first + j) / 8) 0 ^^^ (1 <<< UInt8.ofNat ((first + j) % 8))) = (1 <<< UInt8.ofNat ((first + j) % 8) : UInt8) := by
    rw [List.getD_eq_getElem?_getD, List.getElem?_eq_getElem hi]
    simp only [Option.getD_some]
    rw [← UInt8.xor_assoc]; simp
  rw [e, bit_ofNat _ (Nat.mod_lt _ (by omega))]
  have e1 : 8 * (l.length - (first + j) / 8) = (first + j) % 8 + (8 * l.length - first - j) := by omega
  have e2 : 8 * l.length - first = j + (8 * l.length - first - j) := by omega
  rw [e1, e2, shN_add, shN_add, shN_pow _ (by omega), shN_pow _ hj]
  congr 1
  omega

/-- the byte string after the first i bits of the pattern -/
def burst (l : List UInt8) (first : Nat) (p : BitVec 64) : Nat → List UInt8
  | 0 => l
  | i + 1 => if p.getLsbD i then inv (burst l first p i) (first + i) else burst l first p i
theorem burst_length (l : List UInt8) (first : Nat) (p : BitVec 64) (i : Nat) : (burst l first p i).length = l.length := by
  induction i with
  | zero => rfl
  | succ i ih => simp only [burst]; split <;> simp [inv, ih]
theorem run_burst (l : List UInt8) (first : Nat) (p : BitVec 64) (s : BitVec 64) (i : Nat) (h : i = 0 ∨ first + (i - 1) < 8 * l.length) (hi : i ≤ 64) :
    run s (burst l first p i) = run s l ^^^ shN (8 * l.length - first) (msk p i) := by
  induction i with
  | zero => 
    have : msk p 0 = 0#64 := by unfold msk; simp [Nat.mod_one]
    rw [this, shN_zero]; simp [burst]
  | succ i ih =>
    have h' : first + i < 8 * l.length := by omega
    have := ih (by omega) (by omega)
    simp only [burst]
    rw [msk_succ p i (by omega)]
    by_cases hp : p.getLsbD i = true
    · rw [if_pos hp, if_pos hp, run_inv _ _ _ _ (by rw [burst_length]; exact h') (by omega), this, burst_length, shN_xor, BitVec.xor_assoc]
    · rw [if_neg hp, if_neg hp, this]; simp
theorem sum_burst (l : List UInt8) (first : Nat) (p : BitVec 64) (i : Nat) (h : i = 0 ∨ first + (i - 1) < 8 * l.length) (hi : i ≤ 64) :
    (sum (burst l first p i) = sum l) ↔ msk p i = 0#64 := by
  constructor
  · intro hc
    have h1 := flip_inj _ _ hc
    rw [run_burst l first p _ i h hi] at h1
    have h2 : shN (8 * l.length - first) (msk p i) = 0#64 := by
      generalize run (flip 0#64) l = r at h1
      have := congrArg (fun x => r ^^^ x) h1
      simpa [← BitVec.xor_assoc] using this
    exact shN_eq_zero _ _ h2
  · intro hz
    unfold sum upd
    rw [run_burst l first p _ i h hi, hz, shN_zero]; simp

end Crc
end Go.Proofs.Ytgmeppjpiljifaa
