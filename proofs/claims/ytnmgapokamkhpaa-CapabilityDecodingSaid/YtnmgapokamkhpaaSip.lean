/- Plain mathematics of the hash: no program in sight. -/
import Derived.WalkKit
namespace Go.Proofs.Ytnmgapokamkhpaa
namespace Sip

/-- the four words -/
structure S4 where
  a : BitVec 64
  b : BitVec 64
  c : BitVec 64
  d : BitVec 64
deriving DecidableEq

def rot (x : BitVec 64) (n : Nat) : BitVec 64 := x <<< n ||| x >>> (64 - n)

/-- one round, in the order of the text -/
def r1 (s : S4) : S4 :=
  let a1 := s.a + s.b
  let b1 := rot s.b 13 ^^^ a1
  let a2 := rot a1 32
  let c1 := s.c + s.d
  let d1 := rot s.d 16 ^^^ c1
  let a3 := a2 + d1
  let d2 := rot d1 21 ^^^ a3
  let c2 := c1 + b1
  let b2 := rot b1 17 ^^^ c2
  let c3 := rot c2 32
  ⟨a3, b2, c3, d2⟩

def rn : Nat → S4 → S4
  | 0, s => s
  | n + 1, s => r1 (rn n s)

/-- a word absorbed -/
def absorb (s : S4) (m : BitVec 64) : S4 :=
  let t := rn 2 { s with d := s.d ^^^ m }
  { t with a := t.a ^^^ m }

def init (k0 k1 : BitVec 64) : S4 :=
  ⟨k0 ^^^ 0x736f6d6570736575#64, k1 ^^^ 0x646f72616e646f6d#64, k0 ^^^ 0x6c7967656e657261#64, k1 ^^^ 0x7465646279746573#64⟩

/-- a hash under way -/
structure Hs where
  s : S4
  rest : BitVec 64
  count : Nat
deriving DecidableEq

def bw (x : UInt8) : BitVec 64 := BitVec.ofNat 64 x.toNat

def wr1 (h : Hs) (x : UInt8) : Hs :=
  let r := h.rest ||| bw x <<< (8 * (h.count % 8))
  if h.count % 8 = 7 then ⟨absorb h.s r, 0, h.count + 1⟩ else ⟨h.s, r, h.count + 1⟩

def wrs (h : Hs) (l : List UInt8) : Hs := l.foldl wr1 h

theorem wrs_nil (h : Hs) : wrs h [] = h := rfl
theorem wrs_append (h : Hs) (l m : List UInt8) : wrs h (l ++ m) = wrs (wrs h l) m := by simp [wrs]
theorem wrs_snoc (h : Hs) (l : List UInt8) (x : UInt8) : wrs h (l ++ [x]) = wr1 (wrs h l) x := by simp [wrs]
theorem wrs_take (h : Hs) (l : List UInt8) (k : Nat) (hk : k < l.length) : wrs h (l.take (k + 1)) = wr1 (wrs h (l.take k)) l[k] := by
  rw [List.take_succ_eq_append_getElem hk, wrs_snoc]
theorem wr1_count (h : Hs) (x : UInt8) : (wr1 h x).count = h.count + 1 := by unfold wr1; dsimp only; split <;> rfl
theorem wrs_count (l : List UInt8) : ∀ h : Hs, (wrs h l).count = h.count + l.length := by
  induction l with
  | nil => intro h; rfl
  | cons x l ih =>
    intro h
    show (wrs (wr1 h x) l).count = _
    rw [ih, wr1_count, List.length_cons]; omega

def new (k0 k1 : BitVec 64) : Hs := ⟨init k0 k1, 0, 0⟩

/-- the last step of both -/
def fin (s : S4) : BitVec 64 :=
  let t := rn 4 { s with c := s.c ^^^ 255#64 }
  t.a ^^^ t.b ^^^ t.c ^^^ t.d

def tail (n : Nat) : BitVec 64 := BitVec.ofNat 64 (n % 256) <<< 56

def sumH (h : Hs) : BitVec 64 := fin (absorb h.s (h.rest ||| tail h.count))
def sum (k0 k1 : BitVec 64) (l : List UInt8) : BitVec 64 := sumH (wrs (new k0 k1) l)

/-! ### the reference -/

/-- k bytes of a word, from an offset on -/
def pw (l : List UInt8) (at' : Nat) : Nat → BitVec 64
  | 0 => 0
  | i + 1 => if at' + i < l.length then pw l at' i ||| bw (l.getD (at' + i) 0) <<< (8 * i) else pw l at' i

def rword (l : List UInt8) (at' : Nat) : BitVec 64 :=
  if at' + 8 > l.length then pw l at' 8 ||| tail l.length else pw l at' 8

/-- n words absorbed -/
def rabs (l : List UInt8) (s : S4) : Nat → S4
  | 0 => s
  | n + 1 => absorb (rabs l s n) (rword l (8 * n))

def rsum (k0 k1 : BitVec 64) (l : List UInt8) : BitVec 64 := fin (rabs l (init k0 k1) (l.length / 8 + 1))

/-! ### they agree -/

theorem pw_short (l : List UInt8) (at' i j : Nat) (hl : l.length ≤ at' + i) : pw l at' (i + j) = pw l at' i := by
  induction j with
  | zero => rfl
  | succ j ih => show (if at' + (i + j) < l.length then _ else _) = _; rw [if_neg (by omega)]; exact ih

theorem pw_get (l : List UInt8) (at' i : Nat) (h : at' + i < l.length) : pw l at' (i + 1) = pw l at' i ||| bw l[at' + i] <<< (8 * i) := by
  show (if at' + i < l.length then _ else _) = _
  rw [if_pos h, List.getD_eq_getElem?_getD, List.getElem?_eq_getElem h]; rfl

/-- what Write has done after n bytes -/
theorem wrs_is (k0 k1 : BitVec 64) (l : List UInt8) (n : Nat) (hn : n ≤ l.length) :
    wrs (new k0 k1) (l.take n) = ⟨rabs l (init k0 k1) (n / 8), pw l (8 * (n / 8)) (n % 8), n⟩ := by
  induction n with
  | zero => rfl
  | succ n ih =>
    rw [wrs_take _ _ _ (by omega), ih (by omega)]
    unfold wr1
    dsimp only
    by_cases h7 : n % 8 = 7
    · rw [if_pos h7]
      have e1 : (n + 1) / 8 = n / 8 + 1 := by omega
      have e2 : (n + 1) % 8 = 0 := by omega
      rw [e1, e2]
      have hp := pw_get l (8 * (n / 8)) (n % 8) (by omega)
      have e3 : 8 * (n / 8) + n % 8 = n := by omega
      have hx : l[8 * (n / 8) + n % 8]'(by omega) = l[n]'(by omega) := by congr 1
      rw [hx] at hp
      show (⟨absorb _ (pw l (8 * (n / 8)) (n % 8) ||| bw l[n] <<< (8 * (n % 8))), 0, n + 1⟩ : Hs) = ⟨absorb _ (rword l (8 * (n / 8))), 0, n + 1⟩
      rw [← hp, h7]
      unfold rword
      rw [if_neg (by omega)]
    · rw [if_neg h7]
      have e1 : (n + 1) / 8 = n / 8 := by omega
      have e2 : (n + 1) % 8 = n % 8 + 1 := by omega
      rw [e1, e2]
      have hp := pw_get l (8 * (n / 8)) (n % 8) (by omega)
      have hx : l[8 * (n / 8) + n % 8]'(by omega) = l[n]'(by omega) := by congr 1; omega
      rw [hx] at hp
      rw [hp]

theorem sum_eq (k0 k1 : BitVec 64) (l : List UInt8) : sum k0 k1 l = rsum k0 k1 l := by
  have h := wrs_is k0 k1 l l.length (Nat.le_refl _)
  rw [List.take_length] at h
  unfold sum sumH rsum
  rw [h]
  show fin (absorb _ (_ ||| _)) = fin (absorb (rabs l (init k0 k1) (l.length / 8)) (rword l (8 * (l.length / 8))))
  unfold rword
  rw [if_pos (by omega)]
  have hs := pw_short l (8 * (l.length / 8)) (l.length % 8) (8 - l.length % 8) (by omega)
  rw [show l.length % 8 + (8 - l.length % 8) = 8 by omega] at hs
  rw [hs]

/-! ### the published vectors -/
def k0e : BitVec 64 := 0x0706050403020100#64
def k1e : BitVec 64 := 0x0f0e0d0c0b0a0908#64
def upto (n : Nat) : List UInt8 := (List.range n).map UInt8.ofNat
def vecs : List (BitVec 64) := [0x726fdb47dd0e0e31#64, 0x74f839c593dc67fd#64, 0x0d6c8009d9a94f5a#64, 0x85676696d7fb7e2d#64, 0xcf2794e0277187b7#64, 0x18765564cd99a68d#64, 0xcbc9466e58fee3ce#64, 0xab0200f58b01d137#64, 0x93f5f5799a932462#64]
theorem vec_eq : ∀ i : Fin 9, sum k0e k1e (upto i.val) = vecs.getD i.val 0 := by decide +kernel
theorem vec_nil : sum k0e k1e [] = 0x726fdb47dd0e0e31#64 := by decide +kernel
theorem vec_15 : sum k0e k1e (upto 15) = 0xa129ca6149be45e5#64 := by decide +kernel
theorem upto_succ (n : Nat) : upto (n + 1) = upto n ++ [UInt8.ofNat n] := by simp [upto, List.range_succ]
theorem upto_length (n : Nat) : (upto n).length = n := by simp [upto]
end Sip
end Go.Proofs.Ytnmgapokamkhpaa
