/- The plain mathematics of the CRC-64 checksum on lists of bytes: the table form and the bit by bit form agree. No program in sight. -/
namespace Go.Proofs.Ytgmeppjpiljifaa
namespace Crc

def poly : BitVec 64 := 0xC96C5795D7870F42#64

/-- one shift of the state -/
def sh (c : BitVec 64) : BitVec 64 := if c.getLsbD 0 then (c >>> 1) ^^^ poly else c >>> 1

/-- n shifts -/
def shN : Nat → BitVec 64 → BitVec 64
  | 0, c => c
  | n + 1, c => shN n (sh c)

theorem shN_add (a b : Nat) (c : BitVec 64) : shN (a + b) c = shN b (shN a c) := by
  induction a generalizing c with
  | zero => simp [shN]
  | succ a ih => rw [Nat.succ_add]; exact ih (sh c)

theorem shN_succ (n : Nat) (c : BitVec 64) : shN (n + 1) c = sh (shN n c) := shN_add n 1 c

theorem sh_eq (c : BitVec 64) : sh c = (c >>> 1) ^^^ (if c.getLsbD 0 then poly else 0#64) := by
  unfold sh; split <;> simp

theorem sh_xor (a b : BitVec 64) : sh (a ^^^ b) = sh a ^^^ sh b := by
  simp only [sh_eq, BitVec.getLsbD_xor, BitVec.ushiftRight_xor_distrib]
  generalize a >>> 1 = x
  generalize b >>> 1 = y
  cases a.getLsbD 0 <;> cases b.getLsbD 0
  · simp
  · simp [BitVec.xor_assoc]
  · simp; rw [BitVec.xor_assoc, BitVec.xor_comm y poly, ← BitVec.xor_assoc]
  · simp
    rw [BitVec.xor_comm y poly, BitVec.xor_assoc, ← BitVec.xor_assoc poly poly y]
    simp

theorem shN_xor (n : Nat) : ∀ a b : BitVec 64, shN n (a ^^^ b) = shN n a ^^^ shN n b := by
  induction n with
  | zero => intro a b; rfl
  | succ n ih => intro a b; simp only [shN, sh_xor, ih]

theorem sh_zero : sh 0#64 = 0#64 := by decide
theorem shN_zero (n : Nat) : shN n 0#64 = 0#64 := by
  induction n with
  | zero => rfl
  | succ n ih => simp only [shN, sh_zero, ih]

/-- a state whose low n bits are zero is merely moved -/
theorem shN_low (n : Nat) : ∀ c : BitVec 64, (∀ i, i < n → c.getLsbD i = false) → shN n c = c >>> n := by
  induction n with
  | zero => intro c _; simp [shN]
  | succ n ih =>
    intro c h
    have h0 : sh c = c >>> 1 := by unfold sh; rw [h 0 (by omega)]; rfl
    have := ih (c >>> 1) (fun i hi => by rw [BitVec.getLsbD_ushiftRight]; exact h _ (by omega))
    simp only [shN, h0, this]
    rw [← BitVec.shiftRight_add, Nat.add_comm]

/-- the table's entry -/
def tab (i : Nat) : BitVec 64 := shN 8 (BitVec.ofNat 64 i)

/-- one byte, bit by bit -/
def byte (s : BitVec 64) (x : UInt8) : BitVec 64 := shN 8 (s ^^^ BitVec.ofNat 64 x.toNat)
/-- one byte, by the table -/
def byteT (s : BitVec 64) (x : UInt8) : BitVec 64 := tab ((s.toNat % 256) ^^^ x.toNat) ^^^ (s >>> 8)

theorem xor_cancel (a b : BitVec 64) : a ^^^ (a ^^^ b) = b := by
  rw [← BitVec.xor_assoc]; simp

theorem low_split (s : BitVec 64) : s = BitVec.ofNat 64 (s.toNat % 256) ^^^ ((s >>> 8) <<< 8) := by
  apply BitVec.eq_of_getLsbD_eq
  intro i hi
  rw [BitVec.getLsbD_xor, BitVec.getLsbD_ofNat, BitVec.getLsbD_shiftLeft, BitVec.getLsbD_ushiftRight]
  have h256 : (256 : Nat) = 2 ^ 8 := rfl
  rw [h256, Nat.testBit_mod_two_pow]
  by_cases h8 : i < 8
  · simp [h8, hi, BitVec.testBit_toNat]
  · simp [h8, hi]; congr 1; omega

theorem shN8_high (s : BitVec 64) : shN 8 ((s >>> 8) <<< 8) = s >>> 8 := by
  rw [shN_low 8 _ (fun i hi => by rw [BitVec.getLsbD_shiftLeft]; simp [hi])]
  apply BitVec.eq_of_getLsbD_eq
  intro i hi
  simp only [BitVec.getLsbD_ushiftRight, BitVec.getLsbD_shiftLeft]
  by_cases h : 8 + i < 64
  · simp [h]
  · have : s.getLsbD (8 + i) = false := BitVec.getLsbD_of_ge _ _ (by omega)
    simp [h, this]

theorem byte_eq (s : BitVec 64) (x : UInt8) : byteT s x = byte s x := by
  unfold byteT byte tab
  have hx : x.toNat < 256 := x.toNat_lt
  have e : BitVec.ofNat 64 ((s.toNat % 256) ^^^ x.toNat) = BitVec.ofNat 64 (s.toNat % 256) ^^^ BitVec.ofNat 64 x.toNat := by
    apply BitVec.eq_of_getLsbD_eq
    intro i hi
    simp [hi]
  have hs : s ^^^ BitVec.ofNat 64 x.toNat = (BitVec.ofNat 64 ((s.toNat % 256) ^^^ x.toNat)) ^^^ ((s >>> 8) <<< 8) := by
    rw [e]
    have := low_split s
    rw [BitVec.xor_assoc, BitVec.xor_comm (BitVec.ofNat 64 x.toNat), ← BitVec.xor_assoc, ← this]
  rw [hs, shN_xor, shN8_high]

/-- the state after bytes -/
def run (s : BitVec 64) (l : List UInt8) : BitVec 64 := l.foldl byte s
/-- all bits inverted -/
def flip (c : BitVec 64) : BitVec 64 := ~~~ c
/-- the checksum that goes on -/
def upd (c : BitVec 64) (l : List UInt8) : BitVec 64 := flip (run (flip c) l)
def sum (l : List UInt8) : BitVec 64 := upd 0#64 l

theorem run_append (s : BitVec 64) (a b : List UInt8) : run s (a ++ b) = run (run s a) b := List.foldl_append
theorem run_take_succ (s : BitVec 64) (l : List UInt8) (k : Nat) (h : k < l.length) : run s (l.take (k + 1)) = byte (run s (l.take k)) l[k] := by
  rw [List.take_succ_eq_append_getElem h, run_append]; rfl

/-- byte i of a word, the least significant one first -/
def leb (c : BitVec 64) (i : Nat) : UInt8 := UInt8.ofNat (c.toNat / 2 ^ (8 * i))
def le8 (c : BitVec 64) : List UInt8 := (List.range 8).map (leb c)
def sealed (l : List UInt8) : List UInt8 := l ++ le8 (sum l)
theorem le8_length (c : BitVec 64) : (le8 c).length = 8 := by simp [le8]
theorem le8_take_succ (c : BitVec 64) (k : Nat) (h : k < 8) : (le8 c).take (k + 1) = (le8 c).take k ++ [leb c k] := by
  rw [List.take_succ_eq_append_getElem (by simpa [le8] using h)]; simp [le8]
theorem leb_toNat (c : BitVec 64) (i : Nat) : (leb c i).toNat = c.toNat / 2 ^ (8 * i) % 256 := by simp [leb]


/-- the bytes of a sealed byte string -/
def opened (l : List UInt8) : Option (List UInt8) :=
  if l.length < 8 then none else if l.drop (l.length - 8) = le8 (sum (l.take (l.length - 8))) then some (l.take (l.length - 8)) else none

theorem opened_short (l : List UInt8) (h : l.length < 8) : opened l = none := by unfold opened; rw [if_pos h]
theorem opened_yes (l : List UInt8) (n : Nat) (h : l.length = n + 8) (he : l.drop n = le8 (sum (l.take n))) : opened l = some (l.take n) := by
  unfold opened; rw [if_neg (by omega), show l.length - 8 = n by omega, if_pos he]
theorem opened_no (l : List UInt8) (n k : Nat) (h : l.length = n + 8) (hk : k < 8) (he : l[n + k]'(by omega) ≠ leb (sum (l.take n)) k) : opened l = none := by
  unfold opened; rw [if_neg (by omega), show l.length - 8 = n by omega, if_neg]
  intro hc
  apply he
  have h1 : (l.drop n)[k]? = (le8 (sum (l.take n)))[k]? := by rw [hc]
  rw [List.getElem?_drop, List.getElem?_eq_getElem (by omega), List.getElem?_eq_getElem (by simp [le8_length]; omega)] at h1
  simpa [le8] using h1
theorem match_succ (l : List UInt8) (n k : Nat) (c : BitVec 64) (h : l.length = n + 8) (hk : k < 8) (hp : (l.drop n).take k = (le8 c).take k) (he : l[n + k]'(by omega) = leb c k) :
    (l.drop n).take (k + 1) = (le8 c).take (k + 1) := by
  rw [le8_take_succ _ _ hk, ← hp, List.take_succ_eq_append_getElem (by simp; omega), ← he]; simp
theorem match_all (l : List UInt8) (n : Nat) (c : BitVec 64) (h : l.length = n + 8) (hp : (l.drop n).take 8 = (le8 c).take 8) : l.drop n = le8 c := by
  rwa [List.take_of_length_le (by simp; omega), List.take_of_length_le (by simp [le8_length])] at hp

/-- byte by byte -/
def xor3 (a b c : List UInt8) (n : Nat) : List UInt8 := (List.range n).map fun i => a.getD i 0 ^^^ b.getD i 0 ^^^ c.getD i 0

theorem byte_xor (s t : BitVec 64) (x y : UInt8) : byte (s ^^^ t) (x ^^^ y) = byte s x ^^^ byte t y := by
  unfold byte
  rw [← shN_xor]
  congr 1
  have e : BitVec.ofNat 64 (x ^^^ y).toNat = BitVec.ofNat 64 x.toNat ^^^ BitVec.ofNat 64 y.toNat := by
    apply BitVec.eq_of_getLsbD_eq
    intro i hi
    simp [hi]
  rw [e]
  simp only [BitVec.xor_assoc]
  rw [← BitVec.xor_assoc t, BitVec.xor_comm t (BitVec.ofNat 64 x.toNat), BitVec.xor_assoc]

theorem run_xor3 (n : Nat) (a b c : List UInt8) (ha : n ≤ a.length) (hb : n ≤ b.length) (hc : n ≤ c.length) (s t u : BitVec 64) :
    run (s ^^^ t ^^^ u) (xor3 a b c n) = run s (a.take n) ^^^ run t (b.take n) ^^^ run u (c.take n) := by
  induction n with
  | zero => rfl
  | succ n ih =>
    have e : xor3 a b c (n + 1) = xor3 a b c n ++ [a[n]'(by omega) ^^^ b[n]'(by omega) ^^^ c[n]'(by omega)] := by
      unfold xor3
      rw [List.range_succ, List.map_append]
      simp [List.getElem?_eq_getElem (show n < a.length by omega), List.getElem?_eq_getElem (show n < b.length by omega), List.getElem?_eq_getElem (show n < c.length by omega)]
    rw [e, run_append, ih (by omega) (by omega) (by omega), run_take_succ _ _ _ (by omega), run_take_succ _ _ _ (by omega), run_take_succ _ _ _ (by omega), ← byte_xor, ← byte_xor]
    rfl

theorem flip_xor3 (x y z : BitVec 64) : flip (x ^^^ y ^^^ z) = flip x ^^^ flip y ^^^ flip z := by
  unfold flip
  apply BitVec.eq_of_getLsbD_eq
  intro i hi
  simp [hi]

theorem sum_xor3 (n : Nat) (a b c : List UInt8) (ha : n ≤ a.length) (hb : n ≤ b.length) (hc : n ≤ c.length) :
    sum (xor3 a b c n) = sum (a.take n) ^^^ sum (b.take n) ^^^ sum (c.take n) := by
  unfold sum upd
  rw [← flip_xor3, ← run_xor3 n a b c ha hb hc]
  congr 2

end Crc
end Go.Proofs.Ytgmeppjpiljifaa
