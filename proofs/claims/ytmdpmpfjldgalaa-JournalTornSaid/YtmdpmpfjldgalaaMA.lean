/- Merged: DkA Wr Wp Crc Crc2 JnA Mem Cut MemS DkB DkC DkD DkE. -/
import Derived.WalkKit
import Derived.ProofKit
import Derived.Deep.Draws
import Derived.Laws.OwnMore
import Derived.Lib.Hide
import Derived.Maps.AppendAt
import Derived.OwnWalk
import Derived.Laws.IdiomStrings
import Derived.Laws.CopyOwn
import Derived.Laws.Slices
import Derived.Outline
import Derived.WalkLawsBesides
import Derived.WalkSpells
import Derived.Deep.DeepFit
import Derived.Deep.WholeRow
import Derived.Deep.QuietTactic
import Derived.BigQuiet
import Derived.Deep.RegionHeld3
import Derived.Deep.RegionWith
import Derived.Deep.RegionLaw
import Derived.Lib.MinMax
import Derived.Test.YtmdpmpfjldgalaaRows
/- A disk as plain data. No program in sight. -/
namespace Go.Proofs.Ytmdpmpfjldgalaa
namespace Dk

/-- a pending write -/
structure Pc where
  s : Nat
  d : List UInt8
/-- a disk: the sectors, the durable bytes, the pending writes, the fuse, whether it failed -/
structure St where
  n : Nat
  b : List UInt8
  p : List Pc
  f : Int
  x : Bool

def Pc.k (q : Pc) : Nat := q.d.length / 64
def Pc.ok (n : Nat) (q : Pc) : Prop := q.d.length = 64 * q.k ∧ q.s + q.k ≤ n
structure St.ok (D : St) : Prop where
  n1 : 1 ≤ D.n
  n2 : D.n ≤ 65536
  b : D.b.length = 64 * D.n
  p : ∀ q ∈ D.p, q.ok D.n
  f1 : -1 ≤ D.f
  f2 : D.f ≤ 9223372036854775807

/-- b with the bytes x from place i on -/
def splice (b : List UInt8) (i : Nat) (x : List UInt8) : List UInt8 := b.take i ++ (x ++ b.drop (i + x.length))
theorem splice_len (b : List UInt8) (i : Nat) (x : List UInt8) (h : i + x.length ≤ b.length) : (splice b i x).length = b.length := by
  unfold splice; simp only [List.length_append, List.length_take, List.length_drop]; omega
theorem splice_nil (b : List UInt8) (i : Nat) : splice b i [] = b := by
  unfold splice; simp
theorem splice_get (b : List UInt8) (i : Nat) (x : List UInt8) (h : i + x.length ≤ b.length) (j : Nat) :
    (splice b i x)[j]? = if i ≤ j ∧ j < i + x.length then x[j - i]? else b[j]? := by
  have hl : (b.take i).length = i := by simp; omega
  unfold splice
  by_cases h1 : j < i
  · rw [if_neg (by omega), List.getElem?_append_left (by omega), List.getElem?_take, if_pos h1]
  · rw [List.getElem?_append_right (by omega), hl]
    by_cases h2 : j < i + x.length
    · rw [if_pos ⟨by omega, h2⟩, List.getElem?_append_left (by omega)]
    · rw [if_neg (by omega), List.getElem?_append_right (by omega), List.getElem?_drop]
      congr 1; omega
/-- one byte more -/
theorem splice_set (b : List UInt8) (i : Nat) (x : List UInt8) (j : Nat) (hj : j < x.length) (h : i + x.length ≤ b.length) :
    (splice b i (x.take j)).set (i + j) x[j] = splice b i (x.take (j + 1)) := by
  apply List.ext_getElem?
  intro q
  have h1 : (x.take j).length = j := by simp; omega
  have h2 : (x.take (j + 1)).length = j + 1 := by simp; omega
  have hl := splice_len b i (x.take j) (by omega)
  rw [List.getElem?_set, splice_get _ _ _ (by omega), splice_get _ _ _ (by omega), h1, h2, hl]
  by_cases hq : i + j = q
  · subst hq
    rw [if_pos rfl, if_pos (by omega), if_pos (by omega), show i + j - i = j by omega, List.getElem?_take, if_pos (by omega), List.getElem?_eq_getElem hj]
  · rw [if_neg hq]
    by_cases hr : i ≤ q ∧ q < i + j
    · rw [if_pos hr, if_pos (by omega), List.getElem?_take, List.getElem?_take, if_pos (by omega), if_pos (by omega)]
    · rw [if_neg hr, if_neg (by omega)]

/-- the first k sectors of a write are applied -/
def ap (b : List UInt8) (q : Pc) (k : Nat) : List UInt8 := splice b (64 * q.s) (q.d.take (64 * k))
theorem ap_len (n : Nat) (b : List UInt8) (q : Pc) (k : Nat) (hb : b.length = 64 * n) (hq : q.ok n) : (ap b q k).length = 64 * n := by
  obtain ⟨h1, h2⟩ := hq
  unfold ap
  rw [splice_len _ _ _ (by rw [List.length_take]; omega), hb]
/-- the writes are applied in order, of each as many sectors as c says -/
def setB (b : List UInt8) (p : List Pc) (c : Nat → Pc → Nat) : Nat → List UInt8
  | 0 => b
  | k + 1 => match p[k]? with
    | none => setB b p c k
    | some q => ap (setB b p c k) q (c k q)
theorem setB_step (b : List UInt8) (p : List Pc) (c : Nat → Pc → Nat) (k : Nat) (h : k < p.length) : setB b p c (k + 1) = ap (setB b p c k) p[k] (c k p[k]) := by
  show (match p[k]? with | none => setB b p c k | some q => ap (setB b p c k) q (c k q)) = _
  rw [List.getElem?_eq_getElem h]
theorem setB_len (n : Nat) (b : List UInt8) (p : List Pc) (c : Nat → Pc → Nat) (k : Nat) (hb : b.length = 64 * n) (hp : ∀ q ∈ p, q.ok n) : (setB b p c k).length = 64 * n := by
  induction k with
  | zero => exact hb
  | succ k ih =>
    by_cases h : k < p.length
    · rw [setB_step _ _ _ _ h]; exact ap_len n _ _ _ ih (hp _ (List.getElem_mem h))
    · show (match p[k]? with | none => setB b p c k | some q => ap (setB b p c k) q (c k q)).length = _
      rw [List.getElem?_eq_none (by omega)]; exact ih
theorem setB_congr (b : List UInt8) (p : List Pc) (c c' : Nat → Pc → Nat) (k : Nat) (h : ∀ i (hi : i < p.length), c i p[i] = c' i p[i]) : setB b p c k = setB b p c' k := by
  induction k with
  | zero => rfl
  | succ k ih =>
    by_cases hk : k < p.length
    · rw [setB_step _ _ _ _ hk, setB_step _ _ _ _ hk, ih, h k hk]
    · show (match p[k]? with | none => setB b p c k | some q => ap (setB b p c k) q (c k q)) = (match p[k]? with | none => setB b p c' k | some q => ap (setB b p c' k) q (c' k q))
      rw [List.getElem?_eq_none (by omega)]; exact ih

/-- all sectors -/
def cAll (_ : Nat) (q : Pc) : Nat := q.k
/-- as many sectors as a number says -/
def clamp (z : Int) (k : Nat) : Nat := (min (max z 0) (k : Int)).toNat
theorem clamp_cast (z : Int) (k : Nat) : (clamp z k : Int) = min (max z 0) (k : Int) := by unfold clamp; omega
theorem clamp_cast' (z : Int) (k : Nat) : (clamp z k : Int) = max 0 (min z (k : Int)) := by unfold clamp; omega
theorem clamp_le (z : Int) (k : Nat) : clamp z k ≤ k := by unfold clamp; omega
theorem clamp_self (k : Nat) : clamp (k : Int) k = k := by unfold clamp; omega
/-- what a crash lets survive -/
def zSv (sv : List Int) (i : Nat) : Int := match sv[i]? with | none => 0 | some z => z
def cSv (sv : List Int) (i : Nat) (q : Pc) : Nat := clamp (zSv sv i) q.k
theorem zSv_lt (sv : List Int) (i : Nat) (h : i < sv.length) : zSv sv i = sv[i] := by unfold zSv; rw [List.getElem?_eq_getElem h]
theorem zSv_ge (sv : List Int) (i : Nat) (h : sv.length ≤ i) : zSv sv i = 0 := by unfold zSv; rw [List.getElem?_eq_none h]

def St.all (D : St) : List UInt8 := setB D.b D.p cAll D.p.length
theorem St.ok.all {D : St} (h : D.ok) : D.all.length = 64 * D.n := setB_len _ _ _ _ _ h.b h.p

def inB (n : Nat) (s k : Int) : Bool := decide (0 ≤ s) && decide (0 ≤ k) && decide (s ≤ n) && decide (k ≤ n - s)
theorem inB_of {n : Nat} {s k : Int} (h : inB n s k = true) : 0 ≤ s ∧ 0 ≤ k ∧ s ≤ n ∧ k ≤ n - s := by
  unfold inB at h
  simp only [Bool.and_eq_true, decide_eq_true_eq] at h
  obtain ⟨⟨⟨h1, h2⟩, h3⟩, h4⟩ := h
  exact ⟨h1, h2, h3, h4⟩
def burnF (f : Int) : Int := if 0 < f then f - 1 else f
/-- the error of Write -/
def writeE (D : St) (s : Int) (l : List UInt8) : Int :=
  if D.x then 10 else if l.length % 64 ≠ 0 then 1 else if inB D.n s (l.length / 64 : Nat) = false then 2 else if D.f = 0 then 10 else 0
def writeD (D : St) (s : Int) (l : List UInt8) : St :=
  if D.x then D else if l.length % 64 ≠ 0 then D else if inB D.n s (l.length / 64 : Nat) = false then D else if D.f = 0 then { D with x := true }
    else { D with f := burnF D.f, p := D.p ++ [⟨s.toNat, l⟩] }
def syncE (D : St) : Int := if D.x then 10 else if D.f = 0 then 10 else 0
def syncD (D : St) : St := if D.x then D else if D.f = 0 then { D with x := true } else { D with f := burnF D.f, b := D.all, p := [] }
def crashD (D : St) (sv : List Int) : St := { D with b := setB D.b D.p (cSv sv) D.p.length, p := [], f := -1, x := false }
def failD (D : St) (n : Int) : St := { D with f := max n (-1) }
def readE (D : St) (s k : Int) : Int := if D.x then 10 else if inB D.n s k = false then 2 else 0
def readL (D : St) (s k : Int) : List UInt8 := if D.x then [] else if inB D.n s k = false then [] else (D.all.drop (64 * s.toNat)).take (64 * k.toNat)
def newD (n : Nat) : St := ⟨n, List.replicate (64 * n) 0, [], -1, false⟩

theorem newD_ok (n : Nat) (h1 : 1 ≤ n) (h2 : n ≤ 65536) : (newD n).ok := ⟨h1, h2, by simp [newD], by simp [newD], by simp [newD], by simp [newD]⟩
theorem burnF_fits {f : Int} (h1 : -1 ≤ f) (h2 : f ≤ 9223372036854775807) : -1 ≤ burnF f ∧ burnF f ≤ 9223372036854775807 := by
  unfold burnF; split <;> omega
theorem writeD_ok (D : St) (s : Int) (l : List UInt8) (h : D.ok) : (writeD D s l).ok := by
  unfold writeD
  by_cases h1 : D.x = true
  · rw [if_pos h1]; exact h
  · rw [if_neg h1]
    by_cases h2 : l.length % 64 ≠ 0
    · rw [if_pos h2]; exact h
    · rw [if_neg h2]
      cases h3 : inB D.n s (l.length / 64 : Nat)
      · rw [if_pos rfl]; exact h
      · rw [if_neg (by simp)]
        by_cases h4 : D.f = 0
        · rw [if_pos h4]; exact ⟨h.n1, h.n2, h.b, h.p, h.f1, h.f2⟩
        · rw [if_neg h4]
          have hb := inB_of h3
          have hf := burnF_fits h.f1 h.f2
          refine ⟨h.n1, h.n2, h.b, fun q hq => ?_, hf.1, hf.2⟩
          rcases List.mem_append.1 hq with hq | hq
          · exact h.p q hq
          · simp only [List.mem_singleton] at hq
            subst hq
            refine ⟨?_, ?_⟩
            · show l.length = 64 * (l.length / 64); omega
            · show s.toNat + l.length / 64 ≤ D.n; omega
theorem syncD_ok (D : St) (h : D.ok) : (syncD D).ok := by
  unfold syncD
  by_cases h1 : D.x = true
  · rw [if_pos h1]; exact h
  · rw [if_neg h1]
    by_cases h4 : D.f = 0
    · rw [if_pos h4]; exact ⟨h.n1, h.n2, h.b, h.p, h.f1, h.f2⟩
    · rw [if_neg h4]
      have hf := burnF_fits h.f1 h.f2
      exact ⟨h.n1, h.n2, h.all, by simp, hf.1, hf.2⟩
theorem crashD_ok (D : St) (sv : List Int) (h : D.ok) : (crashD D sv).ok :=
  ⟨h.n1, h.n2, setB_len _ _ _ _ _ h.b h.p, by simp [crashD], by simp [crashD], by simp [crashD]⟩
theorem failD_ok (D : St) (n : Int) (h : D.ok) (hn : n ≤ 9223372036854775807) : (failD D n).ok :=
  ⟨h.n1, h.n2, h.b, h.p, by show -1 ≤ max n (-1); omega, by show max n (-1) ≤ _; omega⟩
theorem readL_len (D : St) (s k : Int) (h : D.ok) (hx : D.x = false) (hi : inB D.n s k = true) : (readL D s k).length = 64 * k.toNat := by
  have hb := inB_of hi
  have := h.all
  unfold readL
  rw [hx, hi]
  simp only [Bool.false_eq_true, if_false]
  rw [if_neg (by simp), List.length_take, List.length_drop]; omega
end Dk
end Go.Proofs.Ytmdpmpfjldgalaa

/- Plain mathematics of the encodings: no program in sight. -/
namespace Go.Proofs.Ytmdpmpfjldgalaa
namespace Wr

/-- the digits of a number to the base 256, the most significant one first -/
def dg : Nat → Nat → List UInt8
  | 0, _ => []
  | f + 1, n => if n = 0 then [] else dg f (n / 256) ++ [UInt8.ofNat n]
def digits (n : Nat) : List UInt8 := dg 8 n
def enc (n : Nat) : List UInt8 := UInt8.ofNat (digits n).length :: digits n

theorem dg_zero (f : Nat) : dg f 0 = [] := by cases f <;> simp [dg]
theorem dg_more (f n : Nat) (h : n < 256 ^ f) : dg (f + 1) n = dg f n := by
  induction f generalizing n with
  | zero => have : n = 0 := by omega
            subst this; rfl
  | succ f ih =>
    rw [dg]
    conv => rhs; rw [dg]
    by_cases hn : n = 0
    · rw [if_pos hn, if_pos hn]
    · rw [if_neg hn, if_neg hn, ih (n / 256) (by rw [Nat.pow_succ] at h; omega)]
theorem digits_zero : digits 0 = [] := dg_zero 8
theorem digits_step (n : Nat) (h : n < 18446744073709551616) (hn : n ≠ 0) : digits n = digits (n / 256) ++ [UInt8.ofNat n] := by
  unfold digits
  conv => lhs; rw [dg]
  rw [if_neg hn, dg_more 7 (n / 256) (by omega)]

theorem dg_len_le (f n : Nat) : (dg f n).length ≤ f := by
  induction f generalizing n with
  | zero => simp [dg]
  | succ f ih =>
    rw [dg]; split
    · simp
    · have := ih (n / 256); simp; omega
theorem digits_len_le (n : Nat) : (digits n).length ≤ 8 := dg_len_le 8 n

theorem dg_len (f n j : Nat) (h : n < 256 ^ f) : (dg f n).length ≤ j ↔ n < 256 ^ j := by
  induction f generalizing n j with
  | zero => have : n = 0 := by omega
            subst this; simp [dg]; exact Nat.pow_pos (by omega)
  | succ f ih =>
    rw [dg]
    by_cases hn : n = 0
    · rw [if_pos hn, hn]; simp; exact Nat.pow_pos (by omega)
    · rw [if_neg hn]
      cases j with
      | zero => simp; omega
      | succ j =>
        have h1 := ih (n / 256) j (by rw [Nat.pow_succ] at h; omega)
        rw [List.length_append, List.length_singleton, Nat.add_le_add_iff_right, h1, Nat.pow_succ]
        omega
theorem digits_len (n j : Nat) (h : n < 18446744073709551616) : (digits n).length ≤ j ↔ n < 256 ^ j := dg_len 8 n j (by omega)
theorem digits_mono (a b : Nat) (hab : a ≤ b) (hb : b < 18446744073709551616) : (digits a).length ≤ (digits b).length := by
  rw [digits_len a _ (by omega)]
  have := (digits_len b _ hb).1 (Nat.le_refl _)
  omega

theorem snoc_ind {α : Type} {P : List α → Prop} (nil : P []) (snoc : ∀ l x, P l → P (l ++ [x])) (l : List α) : P l := by
  have key : ∀ l : List α, P l.reverse := by
    intro l
    induction l with
    | nil => exact nil
    | cons x l ih => rw [List.reverse_cons]; exact snoc _ _ ih
  simpa using key l.reverse

/-- the value of digits -/
def val (l : List UInt8) : Nat := l.foldl (fun n x => n * 256 + x.toNat) 0
theorem val_snoc (l : List UInt8) (x : UInt8) : val (l ++ [x]) = val l * 256 + x.toNat := by simp [val]
theorem val_lt (l : List UInt8) : val l < 256 ^ l.length := by
  induction l using snoc_ind with
  | nil => simp [val]
  | snoc l x ih =>
    rw [val_snoc, List.length_append, List.length_singleton, Nat.pow_succ]
    have := x.toNat_lt
    omega
theorem dg_val (f n : Nat) (h : n < 256 ^ f) : val (dg f n) = n := by
  induction f generalizing n with
  | zero => have : n = 0 := by omega
            subst this; rfl
  | succ f ih =>
    rw [dg]
    by_cases hn : n = 0
    · rw [if_pos hn, hn]; rfl
    · rw [if_neg hn, val_snoc, ih (n / 256) (by rw [Nat.pow_succ] at h; omega), UInt8.toNat_ofNat']
      omega
theorem digits_val (n : Nat) (h : n < 18446744073709551616) : val (digits n) = n := dg_val 8 n (by omega)

/-- digits without a leading zero are those of their value -/
theorem digits_of (l : List UInt8) (h8 : l.length ≤ 8) (h0 : l.head? ≠ some 0) : digits (val l) = l := by
  induction l using snoc_ind with
  | nil => rfl
  | snoc l x ih =>
    have hl8 : l.length ≤ 7 := by simp at h8; omega
    have hv := val_lt l
    have hp : 256 ^ l.length ≤ 256 ^ 7 := Nat.pow_le_pow_right (by omega) hl8
    have hx := x.toNat_lt
    have hne : val (l ++ [x]) ≠ 0 := by
      rw [val_snoc]
      cases l with
      | nil =>
        simp at h0
        intro hz
        apply h0
        apply UInt8.toNat_inj.1
        simp [val] at hz ⊢
        omega
      | cons y l =>
        have ih' := ih (by simp at h8 ⊢; omega) (by simpa using h0)
        intro hz
        have : val (y :: l) = 0 := by omega
        rw [this, digits_zero] at ih'
        cases ih'
    rw [digits_step _ (by rw [val_snoc]; omega) hne, val_snoc]
    have h1 : (val l * 256 + x.toNat) / 256 = val l := by omega
    have h2 : UInt8.ofNat (val l * 256 + x.toNat) = x := by
      apply UInt8.toNat_inj.1
      rw [UInt8.toNat_ofNat']
      omega
    rw [h1, h2, ih (by omega) (by
      cases l with
      | nil => simp
      | cons y l => simpa using h0)]

theorem digits_head (n : Nat) (h : n < 18446744073709551616) : (digits n).head? ≠ some 0 := by
  have key : ∀ f n, n < 256 ^ f → (dg f n).head? ≠ some 0 := by
    intro f
    induction f with
    | zero => intro n _; simp [dg]
    | succ f ih =>
      intro n hn
      rw [dg]
      by_cases h0 : n = 0
      · rw [if_pos h0]; simp
      · rw [if_neg h0]
        have h1 := ih (n / 256) (by rw [Nat.pow_succ] at hn; omega)
        by_cases he : dg f (n / 256) = []
        · rw [he]
          have hv := dg_val f (n / 256) (by rw [Nat.pow_succ] at hn; omega)
          rw [he] at hv
          have : n / 256 = 0 := hv.symm
          simp only [List.nil_append, List.head?_cons, ne_eq, Option.some.injEq]
          intro hz
          have := congrArg UInt8.toNat hz
          rw [UInt8.toNat_ofNat'] at this
          simp at this
          omega
        · cases hd : dg f (n / 256) with
          | nil => exact absurd hd he
          | cons y t => rw [hd] at h1; simpa using h1
  exact key 8 n (by omega)

/-- the digit at a place -/
theorem dg_at (f n p : Nat) (hp : p < (dg f n).length) : (dg f n)[p] = UInt8.ofNat (n / 256 ^ ((dg f n).length - 1 - p)) := by
  induction f generalizing n p with
  | zero => simp [dg] at hp
  | succ f ih =>
    have hd : dg (f + 1) n = if n = 0 then [] else dg f (n / 256) ++ [UInt8.ofNat n] := rfl
    by_cases hn : n = 0
    · rw [if_pos hn] at hd; simp [hd] at hp
    · rw [if_neg hn] at hd
      have hl : (dg (f + 1) n).length = (dg f (n / 256)).length + 1 := by rw [hd]; simp
      simp only [hl]
      by_cases hpl : p < (dg f (n / 256)).length
      · have e : (dg (f + 1) n)[p] = (dg f (n / 256))[p] := by simp only [hd]; exact List.getElem_append_left hpl
        rw [e, ih (n / 256) p hpl, Nat.div_div_eq_div_mul]
        congr 2
        rw [Nat.mul_comm, ← Nat.pow_succ]
        congr 1; omega
      · have hpe : p = (dg f (n / 256)).length := by omega
        have e : (dg (f + 1) n)[p] = UInt8.ofNat n := by simp only [hd]; subst hpe; simp
        rw [e, hpe]; simp
theorem digits_at (n p : Nat) (hp : p < (digits n).length) : (digits n)[p] = UInt8.ofNat (n / 256 ^ ((digits n).length - 1 - p)) := dg_at 8 n p hp

/-- the number of digits, counted -/
theorem digits_count (n j : Nat) (h : n < 18446744073709551616) (hj : n / 256 ^ j ≠ 0) : (digits (n / 256 ^ j)).length = (digits (n / 256 ^ (j + 1))).length + 1 := by
  have hle : n / 256 ^ j ≤ n := Nat.div_le_self _ _
  rw [digits_step (n / 256 ^ j) (by omega) hj, Nat.div_div_eq_div_mul, ← Nat.pow_succ]
  simp

theorem enc_len (n : Nat) : (enc n).length = (digits n).length + 1 := by simp [enc]
theorem enc_inj (a b : Nat) (ha : a < 18446744073709551616) (hb : b < 18446744073709551616) (h : enc a = enc b) : a = b := by
  unfold enc at h
  injection h with _ h
  rw [← digits_val a ha, ← digits_val b hb, h]
theorem enc_noprefix (a b : Nat) (ha : a < 18446744073709551616) (hb : b < 18446744073709551616) (hne : a ≠ b) : enc a ≠ (enc b).take (enc a).length := by
  intro h
  have h8a := digits_len_le a
  have h8b := digits_len_le b
  have h0 : (enc a).head? = (enc b).head? := by
    rw [h]
    simp [enc]
  simp only [enc, List.head?_cons, Option.some.injEq] at h0
  have hl : (digits a).length = (digits b).length := by
    have := congrArg UInt8.toNat h0
    rw [UInt8.toNat_ofNat', UInt8.toNat_ofNat'] at this
    omega
  apply hne
  apply enc_inj a b ha hb
  rw [h, List.take_of_length_le (by rw [enc_len, enc_len]; omega)]
end Wr
end Go.Proofs.Ytmdpmpfjldgalaa

/- Plain mathematics of reading: no program in sight. -/
namespace Go.Proofs.Ytmdpmpfjldgalaa
namespace Wr

/-- the number at the head of some bytes, and the length of its encoding -/
def parse : List UInt8 → Option (Nat × Nat)
  | [] => none
  | k :: t => if 8 < k.toNat then none else if t.length < k.toNat then none else if 0 < k.toNat ∧ t.head? = some 0 then none else some (val (t.take k.toNat), 1 + k.toNat)

theorem parse_cons (k : UInt8) (t : List UInt8) : parse (k :: t) = if 8 < k.toNat then none else if t.length < k.toNat then none else if 0 < k.toNat ∧ t.head? = some 0 then none else some (val (t.take k.toNat), 1 + k.toNat) := rfl
theorem parse_enc (n : Nat) (h : n < 18446744073709551616) (r : List UInt8) : parse (enc n ++ r) = some (n, (enc n).length) := by
  have h8 := digits_len_le n
  have hk : (UInt8.ofNat (digits n).length).toNat = (digits n).length := by rw [UInt8.toNat_ofNat']; exact Nat.mod_eq_of_lt (by omega)
  show parse (UInt8.ofNat (digits n).length :: (digits n ++ r)) = _
  rw [parse_cons, hk, if_neg (by omega), if_neg (by simp), if_neg ?_]
  · rw [List.take_left', digits_val n h, enc_len]
    · congr 2; omega
    · rfl
  · rintro ⟨h1, h2⟩
    apply digits_head n h
    cases hd : digits n with
    | nil => rw [hd] at h1; simp at h1
    | cons y t => rw [hd] at h2; simpa using h2

theorem parse_some (l : List UInt8) (n k : Nat) (h : parse l = some (n, k)) : n < 18446744073709551616 ∧ k = (enc n).length ∧ k ≤ l.length ∧ l = enc n ++ l.drop k := by
  cases l with
  | nil => cases h
  | cons x t =>
    rw [parse_cons] at h
    by_cases h1 : 8 < x.toNat
    · rw [if_pos h1] at h; cases h
    · rw [if_neg h1] at h
      by_cases h2 : t.length < x.toNat
      · rw [if_pos h2] at h; cases h
      · rw [if_neg h2] at h
        by_cases h3 : 0 < x.toNat ∧ t.head? = some 0
        · rw [if_pos h3] at h; cases h
        · rw [if_neg h3] at h
          simp only [Option.some.injEq, Prod.mk.injEq] at h
          obtain ⟨rfl, rfl⟩ := h
          have hl : (t.take x.toNat).length = x.toNat := by simp; omega
          have hd : digits (val (t.take x.toNat)) = t.take x.toNat := by
            apply digits_of _ (by omega)
            intro hh
            apply h3
            cases hx : x.toNat with
            | zero => rw [hx] at hh; simp at hh
            | succ m =>
              refine ⟨by omega, ?_⟩
              cases t with
              | nil => simp at hh
              | cons y t => rw [hx] at hh; simpa using hh
          have hv := val_lt (t.take x.toNat)
          rw [hl] at hv
          have hp : 256 ^ x.toNat ≤ 256 ^ 8 := Nat.pow_le_pow_right (by omega) (by omega)
          refine ⟨by omega, by rw [enc_len, hd, hl]; omega, by simp; omega, ?_⟩
          unfold enc
          rw [hd, hl]
          have : UInt8.ofNat x.toNat = x := by apply UInt8.toNat_inj.1; rw [UInt8.toNat_ofNat']; exact Nat.mod_eq_of_lt x.toNat_lt
          rw [this, Nat.add_comm 1, List.drop_succ_cons]
          simp

/-- a reader: the bytes that are left, and the error -/
structure Rs where
  l : List UInt8
  e : Int
def failR (e : Int) : Rs := ⟨[], e⟩
/-- Uint -/
def uintR (r : Rs) : Nat × Rs :=
  if r.e ≠ 0 then (0, r) else match parse r.l with
    | none => (0, failR 11)
    | some (n, k) => (n, ⟨r.l.drop k, 0⟩)
theorem uintR_lt (r : Rs) : (uintR r).1 < 18446744073709551616 := by
  unfold uintR
  split
  · simp
  · cases h : parse r.l with
    | none => simp
    | some p => obtain ⟨n, k⟩ := p; exact (parse_some _ _ _ h).1
theorem val_take (l : List UInt8) (j : Nat) (h : j < l.length) : val (l.take (j + 1)) = val (l.take j) * 256 + l[j].toNat := by
  rw [List.take_succ_eq_append_getElem h, val_snoc]
end Wr
end Go.Proofs.Ytmdpmpfjldgalaa

/- The plain mathematics of the CRC-64 checksum on lists of bytes: the table form and the bit by bit form agree. No program in sight. -/
namespace Go.Proofs.Ytmdpmpfjldgalaa
namespace Crc

def poly : BitVec 64 := 0xC96C5795D7870F42#64

/-- one shift of the state -/
def sh (c : BitVec 64) : BitVec 64 := if c.getLsbD 0 then (c >>> 1) ^^^ poly else c >>> 1

/-- n shifts -/
def shN : Nat → BitVec 64 → BitVec 64
  | 0, c => c
  | n + 1, c => shN n (sh c)

theorem shN_add (a b : Nat) (c : BitVec 64) : shN (a + b) c = shN b (shN a c) := by
  induction a generalizing c with
  | zero => simp [shN]
  | succ a ih => rw [Nat.succ_add]; exact ih (sh c)

theorem shN_succ (n : Nat) (c : BitVec 64) : shN (n + 1) c = sh (shN n c) := shN_add n 1 c

theorem sh_eq (c : BitVec 64) : sh c = (c >>> 1) ^^^ (if c.getLsbD 0 then poly else 0#64) := by
  unfold sh; split <;> simp

theorem sh_xor (a b : BitVec 64) : sh (a ^^^ b) = sh a ^^^ sh b := by
  simp only [sh_eq, BitVec.getLsbD_xor, BitVec.ushiftRight_xor_distrib]
  generalize a >>> 1 = x
  generalize b >>> 1 = y
  cases a.getLsbD 0 <;> cases b.getLsbD 0
  · simp
  · simp [BitVec.xor_assoc]
  · simp; rw [BitVec.xor_assoc, BitVec.xor_comm y poly, ← BitVec.xor_assoc]
  · simp
    rw [BitVec.xor_comm y poly, BitVec.xor_assoc, ← BitVec.xor_assoc poly poly y]
    simp

theorem shN_xor (n : Nat) : ∀ a b : BitVec 64, shN n (a ^^^ b) = shN n a ^^^ shN n b := by
  induction n with
  | zero => intro a b; rfl
  | succ n ih => intro a b; simp only [shN, sh_xor, ih]

theorem sh_zero : sh 0#64 = 0#64 := by decide
theorem shN_zero (n : Nat) : shN n 0#64 = 0#64 := by
  induction n with
  | zero => rfl
  | succ n ih => simp only [shN, sh_zero, ih]

/-- a state whose low n bits are zero is merely moved -/
theorem shN_low (n : Nat) : ∀ c : BitVec 64, (∀ i, i < n → c.getLsbD i = false) → shN n c = c >>> n := by
  induction n with
  | zero => intro c _; simp [shN]
  | succ n ih =>
    intro c h
    have h0 : sh c = c >>> 1 := by unfold sh; rw [h 0 (by omega)]; rfl
    have := ih (c >>> 1) (fun i hi => by rw [BitVec.getLsbD_ushiftRight]; exact h _ (by omega))
    simp only [shN, h0, this]
    rw [← BitVec.shiftRight_add, Nat.add_comm]

/-- the table's entry -/
def tab (i : Nat) : BitVec 64 := shN 8 (BitVec.ofNat 64 i)

/-- one byte, bit by bit -/
def byte (s : BitVec 64) (x : UInt8) : BitVec 64 := shN 8 (s ^^^ BitVec.ofNat 64 x.toNat)
/-- one byte, by the table -/
def byteT (s : BitVec 64) (x : UInt8) : BitVec 64 := tab ((s.toNat % 256) ^^^ x.toNat) ^^^ (s >>> 8)

theorem xor_cancel (a b : BitVec 64) : a ^^^ (a ^^^ b) = b := by
  rw [← BitVec.xor_assoc]; simp

theorem low_split (s : BitVec 64) : s = BitVec.ofNat 64 (s.toNat % 256) ^^^ ((s >>> 8) <<< 8) := by
  apply BitVec.eq_of_getLsbD_eq
  intro i hi
  rw [BitVec.getLsbD_xor, BitVec.getLsbD_ofNat, BitVec.getLsbD_shiftLeft, BitVec.getLsbD_ushiftRight]
  have h256 : (256 : Nat) = 2 ^ 8 := rfl
  rw [h256, Nat.testBit_mod_two_pow]
  by_cases h8 : i < 8
  · simp [h8, hi, BitVec.testBit_toNat]
  · simp [h8, hi]; congr 1; omega

theorem shN8_high (s : BitVec 64) : shN 8 ((s >>> 8) <<< 8) = s >>> 8 := by
  rw [shN_low 8 _ (fun i hi => by rw [BitVec.getLsbD_shiftLeft]; simp [hi])]
  apply BitVec.eq_of_getLsbD_eq
  intro i hi
  simp only [BitVec.getLsbD_ushiftRight, BitVec.getLsbD_shiftLeft]
  by_cases h : 8 + i < 64
  · simp [h]
  · have : s.getLsbD (8 + i) = false := BitVec.getLsbD_of_ge _ _ (by omega)
    simp [h, this]

theorem byte_eq (s : BitVec 64) (x : UInt8) : byteT s x = byte s x := by
  unfold byteT byte tab
  have hx : x.toNat < 256 := x.toNat_lt
  have e : BitVec.ofNat 64 ((s.toNat % 256) ^^^ x.toNat) = BitVec.ofNat 64 (s.toNat % 256) ^^^ BitVec.ofNat 64 x.toNat := by
    apply BitVec.eq_of_getLsbD_eq
    intro i hi
    simp [hi]
  have hs : s ^^^ BitVec.ofNat 64 x.toNat = (BitVec.ofNat 64 ((s.toNat % 256) ^^^ x.toNat)) ^^^ ((s >>> 8) <<< 8) := by
    rw [e]
    have := low_split s
    rw [BitVec.xor_assoc, BitVec.xor_comm (BitVec.ofNat 64 x.toNat), ← BitVec.xor_assoc, ← this]
  rw [hs, shN_xor, shN8_high]

/-- the state after bytes -/
def run (s : BitVec 64) (l : List UInt8) : BitVec 64 := l.foldl byte s
/-- all bits inverted -/
def flip (c : BitVec 64) : BitVec 64 := ~~~ c
/-- the checksum that goes on -/
def upd (c : BitVec 64) (l : List UInt8) : BitVec 64 := flip (run (flip c) l)
def sum (l : List UInt8) : BitVec 64 := upd 0#64 l

theorem run_append (s : BitVec 64) (a b : List UInt8) : run s (a ++ b) = run (run s a) b := List.foldl_append
theorem run_take_succ (s : BitVec 64) (l : List UInt8) (k : Nat) (h : k < l.length) : run s (l.take (k + 1)) = byte (run s (l.take k)) l[k] := by
  rw [List.take_succ_eq_append_getElem h, run_append]; rfl

/-- byte i of a word, the least significant one first -/
def leb (c : BitVec 64) (i : Nat) : UInt8 := UInt8.ofNat (c.toNat / 2 ^ (8 * i))
def le8 (c : BitVec 64) : List UInt8 := (List.range 8).map (leb c)
def sealed (l : List UInt8) : List UInt8 := l ++ le8 (sum l)
theorem le8_length (c : BitVec 64) : (le8 c).length = 8 := by simp [le8]
theorem le8_take_succ (c : BitVec 64) (k : Nat) (h : k < 8) : (le8 c).take (k + 1) = (le8 c).take k ++ [leb c k] := by
  rw [List.take_succ_eq_append_getElem (by simpa [le8] using h)]; simp [le8]
theorem leb_toNat (c : BitVec 64) (i : Nat) : (leb c i).toNat = c.toNat / 2 ^ (8 * i) % 256 := by simp [leb]


/-- the bytes of a sealed byte string -/
def opened (l : List UInt8) : Option (List UInt8) :=
  if l.length < 8 then none else if l.drop (l.length - 8) = le8 (sum (l.take (l.length - 8))) then some (l.take (l.length - 8)) else none

theorem opened_short (l : List UInt8) (h : l.length < 8) : opened l = none := by unfold opened; rw [if_pos h]
theorem opened_yes (l : List UInt8) (n : Nat) (h : l.length = n + 8) (he : l.drop n = le8 (sum (l.take n))) : opened l = some (l.take n) := by
  unfold opened; rw [if_neg (by omega), show l.length - 8 = n by omega, if_pos he]
theorem opened_no (l : List UInt8) (n k : Nat) (h : l.length = n + 8) (hk : k < 8) (he : l[n + k]'(by omega) ≠ leb (sum (l.take n)) k) : opened l = none := by
  unfold opened; rw [if_neg (by omega), show l.length - 8 = n by omega, if_neg]
  intro hc
  apply he
  have h1 : (l.drop n)[k]? = (le8 (sum (l.take n)))[k]? := by rw [hc]
  rw [List.getElem?_drop, List.getElem?_eq_getElem (by omega), List.getElem?_eq_getElem (by simp [le8_length]; omega)] at h1
  simpa [le8] using h1
theorem match_succ (l : List UInt8) (n k : Nat) (c : BitVec 64) (h : l.length = n + 8) (hk : k < 8) (hp : (l.drop n).take k = (le8 c).take k) (he : l[n + k]'(by omega) = leb c k) :
    (l.drop n).take (k + 1) = (le8 c).take (k + 1) := by
  rw [le8_take_succ _ _ hk, ← hp, List.take_succ_eq_append_getElem (by simp; omega), ← he]; simp
theorem match_all (l : List UInt8) (n : Nat) (c : BitVec 64) (h : l.length = n + 8) (hp : (l.drop n).take 8 = (le8 c).take 8) : l.drop n = le8 c := by
  rwa [List.take_of_length_le (by simp; omega), List.take_of_length_le (by simp [le8_length])] at hp

/-- byte by byte -/
def xor3 (a b c : List UInt8) (n : Nat) : List UInt8 := (List.range n).map fun i => a.getD i 0 ^^^ b.getD i 0 ^^^ c.getD i 0

theorem byte_xor (s t : BitVec 64) (x y : UInt8) : byte (s ^^^ t) (x ^^^ y) = byte s x ^^^ byte t y := by
  unfold byte
  rw [← shN_xor]
  congr 1
  have e : BitVec.ofNat 64 (x ^^^ y).toNat = BitVec.ofNat 64 x.toNat ^^^ BitVec.ofNat 64 y.toNat := by
    apply BitVec.eq_of_getLsbD_eq
    intro i hi
    simp [hi]
  rw [e]
  simp only [BitVec.xor_assoc]
  rw [← BitVec.xor_assoc t, BitVec.xor_comm t (BitVec.ofNat 64 x.toNat), BitVec.xor_assoc]

theorem run_xor3 (n : Nat) (a b c : List UInt8) (ha : n ≤ a.length) (hb : n ≤ b.length) (hc : n ≤ c.length) (s t u : BitVec 64) :
    run (s ^^^ t ^^^ u) (xor3 a b c n) = run s (a.take n) ^^^ run t (b.take n) ^^^ run u (c.take n) := by
  induction n with
  | zero => rfl
  | succ n ih =>
    have e : xor3 a b c (n + 1) = xor3 a b c n ++ [a[n]'(by omega) ^^^ b[n]'(by omega) ^^^ c[n]'(by omega)] := by
      unfold xor3
      rw [List.range_succ, List.map_append]
      simp [List.getElem?_eq_getElem (show n < a.length by omega), List.getElem?_eq_getElem (show n < b.length by omega), List.getElem?_eq_getElem (show n < c.length by omega)]
    rw [e, run_append, ih (by omega) (by omega) (by omega), run_take_succ _ _ _ (by omega), run_take_succ _ _ _ (by omega), run_take_succ _ _ _ (by omega), ← byte_xor, ← byte_xor]
    rfl

theorem flip_xor3 (x y z : BitVec 64) : flip (x ^^^ y ^^^ z) = flip x ^^^ flip y ^^^ flip z := by
  unfold flip
  apply BitVec.eq_of_getLsbD_eq
  intro i hi
  simp [hi]

theorem sum_xor3 (n : Nat) (a b c : List UInt8) (ha : n ≤ a.length) (hb : n ≤ b.length) (hc : n ≤ c.length) :
    sum (xor3 a b c n) = sum (a.take n) ^^^ sum (b.take n) ^^^ sum (c.take n) := by
  unfold sum upd
  rw [← flip_xor3, ← run_xor3 n a b c ha hb hc]
  congr 2

end Crc
end Go.Proofs.Ytmdpmpfjldgalaa

/- The checksum tells changed bytes: plain mathematics. -/
namespace Go.Proofs.Ytmdpmpfjldgalaa
namespace Crc

theorem sh_msb (c : BitVec 64) : (sh c).getLsbD 63 = c.getLsbD 0 := by
  unfold sh
  cases h : c.getLsbD 0
  · simp
  · simp [poly]
theorem sh_eq_zero (c : BitVec 64) (h : sh c = 0#64) : c = 0#64 := by
  have h0 : c.getLsbD 0 = false := by rw [← sh_msb, h]; simp
  have h1 : c >>> 1 = 0#64 := by
    have : sh c = c >>> 1 := by unfold sh; rw [h0]; rfl
    rw [← this]; exact h
  apply BitVec.eq_of_getLsbD_eq
  intro i hi
  cases i with
  | zero => rw [h0]; simp
  | succ i =>
    have := congrArg (fun x => x.getLsbD i) h1
    simp only [BitVec.getLsbD_ushiftRight] at this
    rw [Nat.add_comm]; simpa using this
theorem shN_eq_zero (n : Nat) : ∀ c : BitVec 64, shN n c = 0#64 → c = 0#64 := by
  induction n with
  | zero => intro c h; exact h
  | succ n ih => intro c h; exact sh_eq_zero c (ih _ h)

theorem xor_eq_zero (a b : BitVec 64) : a ^^^ b = 0#64 ↔ a = b := by
  constructor
  · intro h
    have := congrArg (fun x => x ^^^ b) h
    simpa [BitVec.xor_assoc] using this
  · intro h; subst h; simp

theorem ofNat_xor (x y : UInt8) : BitVec.ofNat 64 (x ^^^ y).toNat = BitVec.ofNat 64 x.toNat ^^^ BitVec.ofNat 64 y.toNat := by
  apply BitVec.eq_of_getLsbD_eq
  intro i hi
  simp [hi]

theorem run_state (l : List UInt8) : ∀ s t : BitVec 64, run (s ^^^ t) l = run s l ^^^ shN (8 * l.length) t := by
  induction l with
  | nil => intro s t; rfl
  | cons x l ih =>
    intro s t
    have h1 : byte (s ^^^ t) x = byte s x ^^^ shN 8 t := by
      unfold byte
      rw [← shN_xor]
      congr 1
      rw [BitVec.xor_assoc, BitVec.xor_comm t, ← BitVec.xor_assoc]
    show run (byte (s ^^^ t) x) l = run (byte s x) l ^^^ _
    rw [h1, ih, ← shN_add]
    congr 2
    simp; omega

/-- one byte changed -/
theorem run_set (l : List UInt8) (i : Nat) (y : UInt8) (h : i < l.length) (s : BitVec 64) :
    run s (l.set i y) = run s l ^^^ shN (8 * (l.length - i)) (BitVec.ofNat 64 (l[i] ^^^ y).toNat) := by
  induction l generalizing i s with
  | nil => simp at h
  | cons x l ih =>
    cases i with
    | zero =>
      show run (byte s y) l = run (byte s x) l ^^^ _
      have h1 : byte s y = byte s x ^^^ shN 8 (BitVec.ofNat 64 (x ^^^ y).toNat) := by
        unfold byte
        rw [← shN_xor, ofNat_xor]
        congr 1
        rw [BitVec.xor_assoc, ← BitVec.xor_assoc (BitVec.ofNat 64 x.toNat)]
        simp
      rw [h1, run_state, ← shN_add]
      congr 2
      simp; omega
    | succ i =>
      have := ih i (by simpa using h) (byte s x)
      show run (byte s x) (l.set i y) = run (byte s x) l ^^^ _
      rw [this]
      simp

theorem flip_inj (a b : BitVec 64) (h : flip a = flip b) : a = b := by
  unfold flip at h
  have := congrArg (fun x => ~~~ x) h
  simpa using this

theorem sum_set (l : List UInt8) (i : Nat) (y : UInt8) (h : i < l.length) (hne : l[i] ≠ y) : sum (l.set i y) ≠ sum l := by
  intro hc
  unfold sum upd at hc
  have h1 := flip_inj _ _ hc
  rw [run_set l i y h] at h1
  have h2 : shN (8 * (l.length - i)) (BitVec.ofNat 64 (l[i] ^^^ y).toNat) = 0#64 := by
    generalize run (flip 0#64) l = r at h1
    have := congrArg (fun x => r ^^^ x) h1
    simpa [← BitVec.xor_assoc] using this
  have h3 := shN_eq_zero _ _ h2
  rw [ofNat_xor, xor_eq_zero] at h3
  apply hne
  have h4 := congrArg BitVec.toNat h3
  rw [BitVec.toNat_ofNat, BitVec.toNat_ofNat] at h4
  have hx := l[i].toNat_lt
  have hy := y.toNat_lt
  exact UInt8.toNat_inj.1 (by omega)

theorem leb_bit (c : BitVec 64) (i j : Nat) (hj : j < 8) : (leb c i).toNat.testBit j = c.getLsbD (8 * i + j) := by
  rw [leb_toNat, show (256 : Nat) = 2 ^ 8 from rfl, Nat.testBit_mod_two_pow]
  simp only [hj, decide_true, Bool.true_and]
  rw [Nat.testBit_div_two_pow, BitVec.testBit_toNat, Nat.add_comm]
theorem le8_inj (a b : BitVec 64) (h : le8 a = le8 b) : a = b := by
  apply BitVec.eq_of_getLsbD_eq
  intro i hi
  have h1 : leb a (i / 8) = leb b (i / 8) := by
    have h0 : (le8 a)[i / 8]? = (le8 b)[i / 8]? := by rw [h]
    have h8 : i / 8 < 8 := by omega
    simpa [le8, h8] using h0
  have ha := leb_bit a (i / 8) (i % 8) (Nat.mod_lt _ (by omega))
  have hb := leb_bit b (i / 8) (i % 8) (Nat.mod_lt _ (by omega))
  rw [show 8 * (i / 8) + i % 8 = i by omega] at ha hb
  rw [← ha, ← hb, h1]

theorem opened_sealed (l : List UInt8) : opened (sealed l) = some l := by
  have h : (sealed l).length = l.length + 8 := by simp [sealed, le8_length]
  have h1 : (sealed l).take l.length = l := by simp [sealed]
  have h2 : (sealed l).drop l.length = le8 (sum l) := by simp [sealed]
  have := opened_yes (sealed l) l.length h (by rw [h1, h2])
  rw [this, h1]

/-- a sealed byte string of which one byte is changed is not opened -/
theorem opened_changed (l : List UInt8) (i : Nat) (y : UInt8) (h : i < (sealed l).length) (hne : (sealed l)[i] ≠ y) : opened ((sealed l).set i y) = none := by
  have hlen : (sealed l).length = l.length + 8 := by simp [sealed, le8_length]
  unfold opened
  rw [if_neg (by simp; omega)]
  have hn : ((sealed l).set i y).length - 8 = l.length := by simp; omega
  rw [hn, if_neg]
  intro hc
  by_cases hi : i < l.length
  · have e1 : ((sealed l).set i y).take l.length = l.set i y := by
      unfold sealed
      rw [List.set_append_left _ _ hi, List.take_append_of_le_length (by simp), List.take_of_length_le (by simp)]
    have e2 : ((sealed l).set i y).drop l.length = le8 (sum l) := by
      unfold sealed
      rw [List.set_append_left _ _ hi]
      have : l.length = (l.set i y).length := by simp
      rw [this, List.drop_left]
    rw [e1, e2] at hc
    refine sum_set l i y hi ?_ (le8_inj _ _ hc).symm
    intro he
    apply hne
    rw [← he]
    simp [sealed, hi]
  · have e1 : ((sealed l).set i y).take l.length = l := by
      unfold sealed
      rw [List.set_append_right _ _ (by omega), List.take_left]
    have e2 : ((sealed l).set i y).drop l.length = (le8 (sum l)).set (i - l.length) y := by
      unfold sealed
      rw [List.set_append_right _ _ (by omega), List.drop_left]
    rw [e1, e2] at hc
    apply hne
    have hk : i - l.length < (le8 (sum l)).length := by rw [le8_length]; omega
    have h1 : ((le8 (sum l)).set (i - l.length) y)[i - l.length]? = (le8 (sum l))[i - l.length]? := by rw [hc]
    rw [List.getElem?_set_self hk, List.getElem?_eq_getElem hk] at h1
    simp only [Option.some.injEq] at h1
    rw [h1]
    have h5 : (sealed l)[i]? = some (le8 (sum l))[i - l.length] := by
      unfold sealed
      rw [List.getElem?_append_right (by omega), List.getElem?_eq_getElem hk]
    rw [List.getElem?_eq_getElem h] at h5
    exact Option.some.inj h5

/-! ### bursts -/

theorem shN_pow (q : Nat) (h : q < 64) : shN q (1#64 <<< q) = 1#64 := by
  rw [shN_low q _ (fun i hi => by simp [BitVec.getLsbD_shiftLeft, hi])]
  apply BitVec.eq_of_getLsbD_eq
  intro i hi
  simp only [BitVec.getLsbD_ushiftRight, BitVec.getLsbD_shiftLeft, BitVec.getLsbD_one]
  by_cases h0 : i = 0
  · subst h0; simp [h]
  · simp [h0]

/-- the first i bits of a pattern -/
def msk (p : BitVec 64) (i : Nat) : BitVec 64 := BitVec.ofNat 64 (p.toNat % 2 ^ i)
theorem msk_get (p : BitVec 64) (i j : Nat) (hj : j < 64) : (msk p i).getLsbD j = (decide (j < i) && p.getLsbD j) := by
  unfold msk
  rw [BitVec.getLsbD_ofNat, Nat.testBit_mod_two_pow, BitVec.testBit_toNat]
  simp [hj]
theorem msk_succ (p : BitVec 64) (i : Nat) (h : i < 64) : msk p (i + 1) = msk p i ^^^ (if p.getLsbD i then 1#64 <<< i else 0#64) := by
  apply BitVec.eq_of_getLsbD_eq
  intro j hj
  rw [BitVec.getLsbD_xor, msk_get _ _ _ hj, msk_get _ _ _ hj]
  by_cases hp : p.getLsbD i = true
  · rw [if_pos hp, BitVec.getLsbD_shiftLeft]
    rcases Nat.lt_trichotomy j i with h1 | h1 | h1
    · simp [h1, show j < i + 1 by omega]
    · subst h1; simp [hp, h]
    · simp [show ¬ j < i + 1 by omega, show ¬ j < i by omega]
      intro _ _; omega
  · rw [if_neg hp]
    rcases Nat.lt_trichotomy j i with h1 | h1 | h1
    · simp [h1, show j < i + 1 by omega]
    · subst h1; simp at hp; simp [hp]
    · simp [show ¬ j < i + 1 by omega, show ¬ j < i by omega]

theorem msk_true (p : BitVec 64) (k : Nat) (h : k < 64) (hb : p.getLsbD k = true) : (msk p (k + 1) != 0#64) = true := by
  rw [bne_iff_ne]
  intro hc
  have := congrArg (fun x => x.getLsbD k) hc
  rw [msk_get _ _ _ h] at this
  simp [hb] at this
theorem msk_false (p : BitVec 64) (k : Nat) (h : k < 64) (hb : p.getLsbD k = false) : msk p (k + 1) = msk p k := by
  rw [msk_succ _ _ h, hb]; simp
theorem msk_zero (p : BitVec 64) : msk p 0 = 0#64 := by unfold msk; simp [Nat.mod_one]

/-- a bit of a byte string inverted -/
def inv (l : List UInt8) (p : Nat) : List UInt8 := l.set (p / 8) (l.getD (p / 8) 0 ^^^ (1 <<< UInt8.ofNat (p % 8)))

theorem bit_ofNat (q : Nat) (h : q < 8) : BitVec.ofNat 64 (1 <<< UInt8.ofNat q : UInt8).toNat = 1#64 <<< q := by
  have : q = 0 ∨ q = 1 ∨ q = 2 ∨ q = 3 ∨ q = 4 ∨ q = 5 ∨ q = 6 ∨ q = 7 := by omega
  rcases this with rfl | rfl | rfl | rfl | rfl | rfl | rfl | rfl <;> rfl

theorem run_inv (l : List UInt8) (first j : Nat) (s : BitVec 64) (h : first + j < 8 * l.length) (hj : j < 64) :
    run s (inv l (first + j)) = run s l ^^^ shN (8 * l.length - first) (1#64 <<< j) := by
  have hi : (first + j) / 8 < l.length := by omega
  unfold inv
  rw [run_set _ _ _ hi]
  congr 1
  have e : l[(first + j) / 8] ^^^ (l.getD ((first + j) / 8) 0 ^^^ (1 <<< UInt8.ofNat ((first + j) % 8))) = (1 <<< UInt8.ofNat ((first + j) % 8) : UInt8) := by
    rw [List.getD_eq_getElem?_getD, List.getElem?_eq_getElem hi]
    simp only [Option.getD_some]
    rw [← UInt8.xor_assoc]; simp
  rw [e, bit_ofNat _ (Nat.mod_lt _ (by omega))]
  have e1 : 8 * (l.length - (first + j) / 8) = (first + j) % 8 + (8 * l.length - first - j) := by omega
  have e2 : 8 * l.length - first = j + (8 * l.length - first - j) := by omega
  rw [e1, e2, shN_add, shN_add, shN_pow _ (by omega), shN_pow _ hj]
  congr 1
  omega

/-- the byte string after the first i bits of the pattern -/
def burst (l : List UInt8) (first : Nat) (p : BitVec 64) : Nat → List UInt8
  | 0 => l
  | i + 1 => if p.getLsbD i then inv (burst l first p i) (first + i) else burst l first p i
theorem burst_length (l : List UInt8) (first : Nat) (p : BitVec 64) (i : Nat) : (burst l first p i).length = l.length := by
  induction i with
  | zero => rfl
  | succ i ih => simp only [burst]; split <;> simp [inv, ih]
theorem run_burst (l : List UInt8) (first : Nat) (p : BitVec 64) (s : BitVec 64) (i : Nat) (h : i = 0 ∨ first + (i - 1) < 8 * l.length) (hi : i ≤ 64) :
    run s (burst l first p i) = run s l ^^^ shN (8 * l.length - first) (msk p i) := by
  induction i with
  | zero => 
    have : msk p 0 = 0#64 := by unfold msk; simp [Nat.mod_one]
    rw [this, shN_zero]; simp [burst]
  | succ i ih =>
    have h' : first + i < 8 * l.length := by omega
    have := ih (by omega) (by omega)
    simp only [burst]
    rw [msk_succ p i (by omega)]
    by_cases hp : p.getLsbD i = true
    · rw [if_pos hp, if_pos hp, run_inv _ _ _ _ (by rw [burst_length]; exact h') (by omega), this, burst_length, shN_xor, BitVec.xor_assoc]
    · rw [if_neg hp, if_neg hp, this]; simp
theorem sum_burst (l : List UInt8) (first : Nat) (p : BitVec 64) (i : Nat) (h : i = 0 ∨ first + (i - 1) < 8 * l.length) (hi : i ≤ 64) :
    (sum (burst l first p i) = sum l) ↔ msk p i = 0#64 := by
  constructor
  · intro hc
    have h1 := flip_inj _ _ hc
    rw [run_burst l first p _ i h hi] at h1
    have h2 : shN (8 * l.length - first) (msk p i) = 0#64 := by
      generalize run (flip 0#64) l = r at h1
      have := congrArg (fun x => r ^^^ x) h1
      simpa [← BitVec.xor_assoc] using this
    exact shN_eq_zero _ _ h2
  · intro hz
    unfold sum upd
    rw [run_burst l first p _ i h hi, hz, shN_zero]; simp

end Crc
end Go.Proofs.Ytmdpmpfjldgalaa

/- The journal as plain data. No program in sight. -/
namespace Go.Proofs.Ytmdpmpfjldgalaa
namespace Jn
open Dk Wr

/-! ### blocks -/

/-- with zeros up to a multiple of 64 -/
def pad (l : List UInt8) : List UInt8 := l ++ List.replicate ((64 - l.length % 64) % 64) 0
theorem pad_len (l : List UInt8) : (pad l).length % 64 = 0 := by
  unfold pad; rw [List.length_append, List.length_replicate]; omega
theorem pad_le (l : List UInt8) : l.length ≤ (pad l).length ∧ (pad l).length < l.length + 64 := by
  unfold pad; rw [List.length_append, List.length_replicate]; omega
theorem pad_step (l : List UInt8) (h : l.length % 64 ≠ 0) : pad (l ++ [0]) = pad l := by
  unfold pad
  rw [List.append_assoc]
  congr 1
  rw [List.length_append, List.length_singleton, show [(0 : UInt8)] = List.replicate 1 0 from rfl, List.replicate_append_replicate]
  congr 1
  omega
theorem pad_self (l : List UInt8) (h : l.length % 64 = 0) : pad l = l := by
  unfold pad; rw [h]; simp

/-- what is sealed -/
def body (t i : Nat) (d : List UInt8) : List UInt8 := enc t ++ enc i ++ enc d.length ++ d
/-- a block -/
def blockL (t i : Nat) (d : List UInt8) : List UInt8 := pad (Crc.sealed (body t i d))
theorem sealed_len (l : List UInt8) : (Crc.sealed l).length = l.length + 8 := by
  unfold Crc.sealed; rw [List.length_append, Crc.le8_length]
theorem enc_len9 (n : Nat) : (enc n).length ≤ 9 := by rw [enc_len]; have := digits_len_le n; omega
theorem enc_pos (n : Nat) : 1 ≤ (enc n).length := by rw [enc_len]; omega
theorem body_len (t i : Nat) (d : List UInt8) : (body t i d).length = (enc t).length + (enc i).length + (enc d.length).length + d.length := by
  unfold body; simp only [List.length_append]
theorem blockL_len (t i : Nat) (d : List UInt8) : (blockL t i d).length % 64 = 0 ∧ 64 ≤ (blockL t i d).length ∧ (blockL t i d).length < d.length + 99 := by
  have h1 := pad_len (Crc.sealed (body t i d))
  have h2 := pad_le (Crc.sealed (body t i d))
  have h3 := sealed_len (body t i d)
  have h4 := body_len t i d
  have h5 := enc_len9 t
  have h6 := enc_len9 i
  have h7 := enc_len9 d.length
  have h8 := enc_pos t
  unfold blockL
  omega

theorem blockL_ge (t i : Nat) (d : List UInt8) : d.length ≤ (blockL t i d).length := by
  have h2 := pad_le (Crc.sealed (body t i d))
  have h3 := sealed_len (body t i d)
  have h4 := body_len t i d
  unfold blockL
  omega
/-- a block that was found: turn, index, data, number of sectors -/
structure Bk where
  t : Nat
  i : Nat
  d : List UInt8
  n : Nat

def at3 (l : List UInt8) : Nat := l.length - (uintR (uintR (uintR ⟨l, 0⟩).2).2).2.l.length
def size3 (l : List UInt8) : Nat := at3 l + (uintR (uintR (uintR ⟨l, 0⟩).2).2).1 + 8
/-- the head is refused -/
def badB (l : List UInt8) : Bool :=
  decide ((uintR ⟨l, 0⟩).1 < 1) || decide (1099511627776 < (uintR ⟨l, 0⟩).1) || decide (1099511627776 < (uintR (uintR ⟨l, 0⟩).2).1) ||
    decide (l.length < (uintR (uintR (uintR ⟨l, 0⟩).2).2).1) || decide (l.length < size3 l)
def parseB (l : List UInt8) : Option Bk :=
  if badB l = true then none
  else match Crc.opened (l.take (size3 l)) with
    | none => none
    | some x => some ⟨(uintR ⟨l, 0⟩).1, (uintR (uintR ⟨l, 0⟩).2).1, x.drop (at3 l), (size3 l + 63) / 64⟩

/-- a reader that failed has nothing left -/
def okR (r : Rs) : Prop := r.e ≠ 0 → r.l = []
theorem uintR_okR (r : Rs) (h : okR r) : okR (uintR r).2 ∧ (uintR r).2.l.length ≤ r.l.length ∧ ((uintR r).2.e ≠ 0 → (uintR r).2.l = []) := by
  unfold uintR
  split
  · exact ⟨h, Nat.le_refl _, h⟩
  · split
    · exact ⟨fun _ => rfl, by simp [failR], fun _ => rfl⟩
    · refine ⟨fun h => absurd rfl h, ?_, fun h => absurd rfl h⟩
      simp only [List.length_drop]; omega
theorem okR_start (l : List UInt8) : okR ⟨l, 0⟩ := fun h => absurd rfl h
theorem left3 (l : List UInt8) : (uintR (uintR (uintR ⟨l, 0⟩).2).2).2.l.length ≤ l.length := by
  have h1 := uintR_okR ⟨l, 0⟩ (okR_start l)
  have h2 := uintR_okR _ h1.1
  have h3 := uintR_okR _ h2.1
  exact Nat.le_trans h3.2.1 (Nat.le_trans h2.2.1 h1.2.1)
/-- the reference refuses the same heads -/
def badR (l : List UInt8) : Bool :=
  decide ((uintR (uintR (uintR ⟨l, 0⟩).2).2).2.e ≠ 0) || decide ((uintR ⟨l, 0⟩).1 < 1) || decide (1099511627776 < (uintR ⟨l, 0⟩).1) || decide (1099511627776 < (uintR (uintR ⟨l, 0⟩).2).1) ||
    decide ((uintR (uintR (uintR ⟨l, 0⟩).2).2).2.l.length < 8) || decide ((uintR (uintR (uintR ⟨l, 0⟩).2).2).2.l.length < (uintR (uintR (uintR ⟨l, 0⟩).2).2).1 + 8)
theorem badR_eq (l : List UInt8) : badR l = badB l := by
  have h1 := uintR_okR ⟨l, 0⟩ (okR_start l)
  have h2 := uintR_okR _ h1.1
  have h3 := uintR_okR _ h2.1
  have hl := left3 l
  unfold badR badB size3 at3
  generalize (uintR ⟨l, 0⟩).1 = a at *
  generalize (uintR (uintR ⟨l, 0⟩).2).1 = b at *
  generalize (uintR (uintR (uintR ⟨l, 0⟩).2).2).1 = n at *
  generalize (uintR (uintR (uintR ⟨l, 0⟩).2).2).2 = r at *
  rw [Bool.eq_iff_iff]
  simp only [Bool.or_eq_true, decide_eq_true_eq]
  by_cases he : r.e = 0
  · constructor
    · rintro (((((h | h) | h) | h) | h) | h)
      · exact absurd he h
      · exact .inl (.inl (.inl (.inl h)))
      · exact .inl (.inl (.inl (.inr h)))
      · exact .inl (.inl (.inr h))
      · exact .inr (by omega)
      · exact .inr (by omega)
    · rintro ((((h | h) | h) | h) | h)
      · exact .inl (.inl (.inl (.inl (.inr h))))
      · exact .inl (.inl (.inl (.inr h)))
      · exact .inl (.inl (.inr h))
      · exact .inr (by omega)
      · exact .inr (by omega)
  · have hr : r.l.length = 0 := by rw [h3.2.2 he]; rfl
    constructor
    · intro _
      exact .inr (by omega)
    · intro _
      exact .inl (.inl (.inl (.inl (.inl he))))
theorem parseB_bad (l : List UInt8) (h : badB l = true) : parseB l = none := by unfold parseB; rw [if_pos h]
theorem parseB_none (l : List UInt8) (h : badB l = false) (ho : Crc.opened (l.take (size3 l)) = none) : parseB l = none := by
  unfold parseB; rw [if_neg (by simp [h]), ho]
theorem parseB_some (l x : List UInt8) (h : badB l = false) (ho : Crc.opened (l.take (size3 l)) = some x) :
    parseB l = some ⟨(uintR ⟨l, 0⟩).1, (uintR (uintR ⟨l, 0⟩).2).1, x.drop (at3 l), (size3 l + 63) / 64⟩ := by
  unfold parseB; rw [if_neg (by simp [h]), ho]
/-- what a good head says -/
theorem good_head (l : List UInt8) (h : badB l = false) : 1 ≤ (uintR ⟨l, 0⟩).1 ∧ (uintR ⟨l, 0⟩).1 ≤ 1099511627776 ∧ (uintR (uintR ⟨l, 0⟩).2).1 ≤ 1099511627776 ∧ (uintR (uintR (uintR ⟨l, 0⟩).2).2).1 ≤ l.length ∧ size3 l ≤ l.length := by
  unfold badB at h
  simp only [Bool.or_eq_false_iff, decide_eq_false_iff_not] at h
  obtain ⟨⟨⟨⟨h1, h2⟩, h3⟩, h4⟩, h5⟩ := h
  omega
theorem opened_len (l x : List UInt8) (h : Crc.opened l = some x) : x.length + 8 = l.length := by
  unfold Crc.opened at h
  split at h
  · cases h
  · split at h
    · injection h with h
      subst h
      rw [List.length_take]; omega
    · cases h
theorem parseB_ok (l : List UInt8) (b : Bk) (h : parseB l = some b) : 1 ≤ b.t ∧ b.t ≤ 1099511627776 ∧ b.i ≤ 1099511627776 ∧ 1 ≤ b.n ∧ 64 * b.n < l.length + 64 ∧ b.d.length ≤ l.length := by
  by_cases hb : badB l = true
  · rw [parseB_bad l hb] at h; cases h
  · have hb' : badB l = false := by simpa using hb
    obtain ⟨g1, g2, g3, g4, g5⟩ := good_head l hb'
    cases ho : Crc.opened (l.take (size3 l)) with
    | none => rw [parseB_none l hb' ho] at h; cases h
    | some x =>
      rw [parseB_some l x hb' ho] at h
      injection h with h
      subst h
      have hx := opened_len _ _ ho
      rw [List.length_take] at hx
      have hz : 8 ≤ size3 l := by unfold size3; omega
      refine ⟨g1, g2, g3, ?_, ?_, ?_⟩
      · show 1 ≤ (size3 l + 63) / 64; omega
      · show 64 * ((size3 l + 63) / 64) < _; omega
      · show (x.drop (at3 l)).length ≤ _; rw [List.length_drop]; omega

/-! ### journals -/

/-- a journal: turn, state, records, end (counted in the half), broken -/
structure Jr where
  t : Nat
  s : List UInt8
  rs : List (List UInt8)
  e : Nat
  x : Bool

/-- one record more -/
def stepL (H : List UInt8) (h : Nat) (j : Jr) : Option Jr :=
  if j.e < h then
    match parseB (H.drop (64 * j.e)) with
    | none => none
    | some b => if b.t = j.t ∧ b.i = j.rs.length + 1 then some { j with rs := j.rs ++ [b.d], e := j.e + b.n } else none
  else none
theorem stepL_lt {H : List UInt8} {h : Nat} {j j' : Jr} (hs : stepL H h j = some j') : j.e < h ∧ j.e < j'.e := by
  unfold stepL at hs
  split at hs
  · rename_i hl
    split at hs
    · cases hs
    · rename_i b hb
      split at hs
      · injection hs with hs
        subst hs
        have := (parseB_ok _ _ hb).2.2.2.1
        exact ⟨hl, by show j.e < j.e + b.n; omega⟩
      · cases hs
  · cases hs
theorem stepL_no {H : List UInt8} {h : Nat} {j : Jr} (hp : parseB (H.drop (64 * j.e)) = none) : stepL H h j = none := by
  unfold stepL; rw [hp]; split <;> rfl
theorem stepL_ne {H : List UInt8} {h : Nat} {j : Jr} {b : Bk} (hp : parseB (H.drop (64 * j.e)) = some b) (hne : ¬ (b.t = j.t ∧ b.i = j.rs.length + 1)) : stepL H h j = none := by
  unfold stepL; rw [hp]; split
  · show (if _ then _ else _) = _; rw [if_neg hne]
  · rfl
theorem stepL_yes {H : List UInt8} {h : Nat} {j : Jr} {b : Bk} (hl : j.e < h) (hp : parseB (H.drop (64 * j.e)) = some b) (he : b.t = j.t ∧ b.i = j.rs.length + 1) : stepL H h j = some { j with rs := j.rs ++ [b.d], e := j.e + b.n } := by
  unfold stepL; rw [hp, if_pos hl]; show (if _ then _ else _) = _; rw [if_pos he]
theorem stepL_end {H : List UInt8} {h : Nat} {j : Jr} (hl : ¬ j.e < h) : stepL H h j = none := by unfold stepL; rw [if_neg hl]
def loadR (H : List UInt8) (h : Nat) (j : Jr) : Jr :=
  match _hs : stepL H h j with
  | none => j
  | some j' => loadR H h j'
termination_by h - j.e
decreasing_by
  have := stepL_lt _hs
  omega
theorem loadR_none {H : List UInt8} {h : Nat} {j : Jr} (hs : stepL H h j = none) : loadR H h j = j := by
  rw [loadR]; split
  · rfl
  · rename_i hh; rw [hs] at hh; cases hh
theorem loadR_some {H : List UInt8} {h : Nat} {j j' : Jr} (hs : stepL H h j = some j') : loadR H h j = loadR H h j' := by
  rw [loadR]; split
  · rename_i hh; rw [hs] at hh; cases hh
  · rename_i hh; rw [hs] at hh; cases hh; rfl
/-- the first journal of a half's bytes -/
def first0 (H : List UInt8) (k : Nat) : Option Jr := match parseB H with
  | none => none
  | some b => if b.i = 0 ∧ b.t % 2 = k then some ⟨b.t, b.d, [], b.n, false⟩ else none
def half (D : St) : Nat := D.n / 2
/-- the bytes of a half -/
def halfL (D : St) (k : Nat) : List UInt8 := (D.all.drop (64 * (k * half D))).take (64 * half D)
def loadD (D : St) (k : Nat) : Option Jr := (first0 (halfL D k) k).map (loadR (halfL D k) (half D))

/-! ### writing -/

def wr2 (D : St) (s : Nat) (b : List UInt8) : St × Bool :=
  if writeE D s b ≠ 0 then (writeD D s b, false) else (syncD (writeD D s b), decide (syncE (writeD D s b) = 0))
def zero64 : List UInt8 := List.replicate 64 0
/-- a block is written at a sector of the half that ends at to -/
def wrJ (D : St) (s to : Nat) (b : List UInt8) : St × Bool :=
  if s + b.length / 64 < to then (if (wr2 D (s + b.length / 64) zero64).2 = true then wr2 (wr2 D (s + b.length / 64) zero64).1 s b else wr2 D (s + b.length / 64) zero64) else wr2 D s b

/-- steps up to the first error -/
def runS : List (St → St × Int) → St → St × Bool
  | [], D => (D, true)
  | f :: fs, D => if (f D).2 = 0 then runS fs (f D).1 else ((f D).1, false)
theorem runS_cons (f : St → St × Int) (fs : List (St → St × Int)) (D : St) : runS (f :: fs) D = if (f D).2 = 0 then runS fs (f D).1 else ((f D).1, false) := rfl
def stW (s : Nat) (b : List UInt8) (D : St) : St × Int := (writeD D s b, writeE D s b)
def stS (D : St) : St × Int := (syncD D, syncE D)
def steps (s tt : Nat) (b : List UInt8) : List (St → St × Int) :=
  if s + b.length / 64 < tt then [stW (s + b.length / 64) zero64, stS, stW s b, stS] else [stW s b, stS]
theorem wr2_run (D : St) (s : Nat) (b : List UInt8) (fs : List (St → St × Int)) : runS (stW s b :: stS :: fs) D = if (wr2 D s b).2 = true then runS fs (wr2 D s b).1 else ((wr2 D s b).1, false) := by
  rw [runS_cons]
  by_cases h : writeE D s b = 0
  · have hw : wr2 D s b = (syncD (writeD D s b), decide (syncE (writeD D s b) = 0)) := by unfold wr2; rw [if_neg (by simp [h])]
    rw [if_pos (show (stW s b D).2 = 0 from h), runS_cons, hw]
    by_cases h2 : syncE (writeD D s b) = 0
    · rw [if_pos (show (stS (stW s b D).1).2 = 0 from h2), if_pos (by simpa using h2)]; rfl
    · rw [if_neg (show ¬ (stS (stW s b D).1).2 = 0 from h2), if_neg (by simpa using h2)]; rfl
  · have hw : wr2 D s b = (writeD D s b, false) := by unfold wr2; rw [if_pos h]
    rw [if_neg (show ¬ (stW s b D).2 = 0 from h), hw, if_neg (by simp)]; rfl
theorem wrJ_run (D : St) (s tt : Nat) (b : List UInt8) : runS (steps s tt b) D = wrJ D s tt b := by
  have h2 : ∀ D', runS [stW s b, stS] D' = wr2 D' s b := fun D' => by
    rw [wr2_run]
    cases h : (wr2 D' s b).2
    · rw [if_neg (by simp)]; rw [← h]
    · rw [if_pos rfl]; unfold runS; rw [← h]
  unfold steps wrJ
  split
  · rw [wr2_run, h2]
    split
    · rfl
    · rename_i h
      have : (wr2 D (s + b.length / 64) zero64).2 = false := by simpa using h
      rw [← this]
  · exact h2 D
theorem writeD_p (D : St) (s : Int) (l : List UInt8) : (writeD D s l).p.length ≤ D.p.length + 1 := by
  unfold writeD; split
  · omega
  · split
    · omega
    · split
      · omega
      · split
        · show D.p.length ≤ _; omega
        · show (D.p ++ [_]).length ≤ _; simp
theorem syncD_p (D : St) : (syncD D).p.length ≤ D.p.length + 1 := by
  unfold syncD; split
  · omega
  · split
    · show D.p.length ≤ _; omega
    · show ([] : List Pc).length ≤ _; simp

def fst (D : St) (t : Nat) : Nat := t % 2 * half D
def newJ : Jr := ⟨1, [], [], 1, false⟩
def openR (D : St) : St × Bool := wrJ D (half D) (2 * half D) (blockL 1 0 [])
/-- the best of two -/
def best : Option Jr → Option Jr → Option Jr
  | none, b => b
  | some a, none => some a
  | some a, some b => if a.t < b.t then some b else some a
def openD (D : St) : St :=
  if half D = 0 then D else if D.x = true then D else match best (loadD D 0) (loadD D 1) with
    | some _ => D
    | none => (openR D).1
def openJ (D : St) : Option Jr :=
  if half D = 0 then none else if D.x = true then none else match best (loadD D 0) (loadD D 1) with
    | some j => some j
    | none => if (openR D).2 = true then some newJ else none
def openE (D : St) : Int :=
  if half D = 0 then 8 else if D.x = true then 10 else match best (loadD D 0) (loadD D 1) with
    | some _ => 0
    | none => if (openR D).2 = true then 0 else 10

def apB (j : Jr) (r : List UInt8) : List UInt8 := blockL j.t (j.rs.length + 1) r
def apW (D : St) (j : Jr) (r : List UInt8) : St × Bool := wrJ D (fst D j.t + j.e) (fst D j.t + half D) (apB j r)
def apFull (D : St) (j : Jr) (r : List UInt8) : Bool := decide (half D < j.e + (apB j r).length / 64)
def appE (D : St) (j : Jr) (r : List UInt8) : Int := if j.x = true then 9 else if apFull D j r = true then 8 else if (apW D j r).2 = true then 0 else 10
def appD (D : St) (j : Jr) (r : List UInt8) : St := if j.x = true then D else if apFull D j r = true then D else (apW D j r).1
def appJ (D : St) (j : Jr) (r : List UInt8) : Jr := if j.x = true then j else if apFull D j r = true then j else if (apW D j r).2 = true then { j with rs := j.rs ++ [r], e := j.e + (apB j r).length / 64 } else { j with x := true }

def ckB (j : Jr) (s : List UInt8) : List UInt8 := blockL (j.t + 1) 0 s
def ckW (D : St) (j : Jr) (s : List UInt8) : St × Bool := wrJ D (fst D (j.t + 1)) (fst D (j.t + 1) + half D) (ckB j s)
def ckFull (D : St) (j : Jr) (s : List UInt8) : Bool := decide (half D < (ckB j s).length / 64) || decide (1099511627776 ≤ j.t)
def chkE (D : St) (j : Jr) (s : List UInt8) : Int := if j.x = true then 9 else if ckFull D j s = true then 8 else if (ckW D j s).2 = true then 0 else 10
def chkD (D : St) (j : Jr) (s : List UInt8) : St := if j.x = true then D else if ckFull D j s = true then D else (ckW D j s).1
def chkJ (D : St) (j : Jr) (s : List UInt8) : Jr := if j.x = true then j else if ckFull D j s = true then j else if (ckW D j s).2 = true then ⟨j.t + 1, s, [], (ckB j s).length / 64, false⟩ else { j with x := true }

/-- nothing is pending, unless the disk failed -/
structure Calm (D : St) : Prop where
  ok : D.ok
  p : D.x = false → D.p = []
  l : D.p.length ≤ 1
structure Jr.ok (h : Nat) (j : Jr) : Prop where
  t1 : 1 ≤ j.t
  t2 : j.t ≤ 1099511627776
  e : j.e ≤ h
  r : j.rs.length ≤ j.e
  s : j.s.length ≤ 64 * h
  d : ∀ d ∈ j.rs, d.length ≤ 64 * h
theorem writeD_n (D : St) (s : Int) (l : List UInt8) : (writeD D s l).n = D.n := by
  unfold writeD; repeat' split
  all_goals rfl
theorem syncD_n (D : St) : (syncD D).n = D.n := by
  unfold syncD; repeat' split
  all_goals rfl
theorem wr2_n (D : St) (s : Nat) (b : List UInt8) : (wr2 D s b).1.n = D.n := by
  unfold wr2; split
  · exact writeD_n _ _ _
  · show (syncD (writeD D s b)).n = _
    rw [syncD_n, writeD_n]
theorem wrJ_n (D : St) (s tt : Nat) (b : List UInt8) : (wrJ D s tt b).1.n = D.n := by
  unfold wrJ; repeat' split
  · rw [wr2_n, wr2_n]
  · rw [wr2_n]
  · rw [wr2_n]
theorem wrJ_half (D : St) (s tt : Nat) (b : List UInt8) : half (wrJ D s tt b).1 = half D := by unfold half; rw [wrJ_n]
theorem openD_half (D : St) : half (openD D) = half D := by
  unfold openD; repeat' split
  · rfl
  · rfl
  · rfl
  · exact wrJ_half _ _ _ _
theorem appD_half (D : St) (j : Jr) (r : List UInt8) : half (appD D j r) = half D := by
  unfold appD; repeat' split
  · rfl
  · rfl
  · exact wrJ_half _ _ _ _
theorem chkD_half (D : St) (j : Jr) (r : List UInt8) : half (chkD D j r) = half D := by
  unfold chkD; repeat' split
  · rfl
  · rfl
  · exact wrJ_half _ _ _ _
theorem blk0_len : (blockL 1 0 []).length = 64 := by
  have := blockL_len 1 0 []
  simp only [List.length_nil] at this
  omega
/-- calm disks stay calm -/
theorem wr2_calm (D : St) (s : Nat) (b : List UInt8) (h : Calm D) : Calm (wr2 D s b).1 := by
  unfold wr2
  by_cases hx : D.x = true
  · have e1 : writeE D s b = 10 := by unfold writeE; rw [if_pos hx]
    have e2 : writeD D s b = D := by unfold writeD; rw [if_pos hx]
    rw [if_pos (by rw [e1]; decide), e2]; exact h
  · have hx' : D.x = false := by simpa using hx
    have hp := h.p hx'
    have hok := writeD_ok D s b h.ok
    split
    · rename_i hne
      show Calm (writeD D s b)
      unfold writeD writeE at *
      rw [if_neg hx] at hne hok ⊢
      by_cases h1 : b.length % 64 ≠ 0
      · rw [if_pos h1] at hok ⊢; exact h
      · rw [if_neg h1] at hne hok ⊢
        by_cases h2 : inB D.n s (b.length / 64 : Nat) = false
        · rw [if_pos h2] at hok ⊢; exact h
        · rw [if_neg h2] at hne hok ⊢
          by_cases h3 : D.f = 0
          · rw [if_pos h3] at hok ⊢
            exact ⟨hok, fun hh => (by cases hh), h.l⟩
          · rw [if_neg h3] at hne; exact absurd rfl hne
    · rename_i he
      show Calm (syncD (writeD D s b))
      have hl := writeD_p D s b
      have hs := syncD_ok _ hok
      have hx2 : (writeD D s b).x = false := by
        have he : writeE D s b = 0 := by simpa using he
        unfold writeE at he
        unfold writeD
        rw [if_neg hx] at he ⊢
        by_cases h1 : b.length % 64 ≠ 0
        · rw [if_pos h1] at he; cases he
        · rw [if_neg h1] at he ⊢
          by_cases h2 : inB D.n s (b.length / 64 : Nat) = false
          · rw [if_pos h2] at he; cases he
          · rw [if_neg h2] at he ⊢
            by_cases h3 : D.f = 0
            · rw [if_pos h3] at he; cases he
            · rw [if_neg h3]; exact hx'
      unfold syncD at *
      rw [if_neg (by simp [hx2])] at hs ⊢
      by_cases h3 : (writeD D s b).f = 0
      · rw [if_pos h3] at hs ⊢
        exact ⟨hs, fun hh => (by cases hh), by show (writeD D s b).p.length ≤ 1; rw [hp] at hl; simpa using hl⟩
      · rw [if_neg h3] at hs ⊢
        exact ⟨hs, fun _ => rfl, by simp⟩
theorem wrJ_calm (D : St) (s tt : Nat) (b : List UInt8) (h : Calm D) : Calm (wrJ D s tt b).1 := by
  unfold wrJ; repeat' split
  · exact wr2_calm _ _ _ (wr2_calm _ _ _ h)
  · exact wr2_calm _ _ _ h
  · exact wr2_calm _ _ _ h
theorem openD_calm (D : St) (h : Calm D) : Calm (openD D) := by
  unfold openD; repeat' split
  · exact h
  · exact h
  · exact h
  · exact wrJ_calm _ _ _ _ h
theorem appD_calm (D : St) (j : Jr) (r : List UInt8) (h : Calm D) : Calm (appD D j r) := by
  unfold appD; repeat' split
  · exact h
  · exact h
  · exact wrJ_calm _ _ _ _ h
theorem chkD_calm (D : St) (j : Jr) (r : List UInt8) (h : Calm D) : Calm (chkD D j r) := by
  unfold chkD; repeat' split
  · exact h
  · exact h
  · exact wrJ_calm _ _ _ _ h
end Jn
end Go.Proofs.Ytmdpmpfjldgalaa

/- Words for memory: a slice that reads as a list of one-cell values; bytes; frames. No program in sight. -/
namespace Go.Proofs.Ytmdpmpfjldgalaa
open Go.RowKit

/-- the world changed above B alone: as Below, closed to the walk -/
def Blw (B : Nat) (w w' : World) : Prop := Below B w w'

/-- a byte as a value -/
abbrev vb (x : UInt8) : Value := .int .u8 (x.toNat : Int)
/-- a word of 64 bits as a value -/
abbrev vw (x : BitVec 64) : Value := .int .u64 (x.toNat : Int)

theorem addr_add (b off i : Nat) : (⟨b, off, none⟩ : Addr).add i = ⟨b, off + i, none⟩ := by unfold Addr.add; split <;> simp_all

/-- the slice at A reads as the values vs, one cell each -/
def Rd (w : World) (A : Option Addr) (vs : List Value) : Prop :=
  ∀ i v, vs[i]? = some v → ∃ b off, A = some ⟨b, off, none⟩ ∧ w.cell? ⟨b, off + i, none⟩ = some v
/-- the slice at A reads as bytes -/
def RB (w : World) (A : Option Addr) (l : List UInt8) : Prop := Rd w A (l.map vb)

section
variable {w w' : World} {A : Option Addr} {vs : List Value} {l : List UInt8}

theorem Rd.nil : Rd w A [] := fun _ _ h => by simp at h
theorem RB.nil : RB w A [] := Rd.nil

theorem Rd.cells (h : Rd w A vs) (hn : 0 < vs.length) : ∃ b off, A = some ⟨b, off, none⟩ ∧ b < w.heap.size ∧ ∀ i v, vs[i]? = some v → w.cell? ⟨b, off + i, none⟩ = some v := by
  obtain ⟨b, off, rfl, hc⟩ := h 0 vs[0] (List.getElem?_eq_getElem hn)
  refine ⟨b, off, rfl, block_lt_of_cell hc, fun i v hv => ?_⟩
  obtain ⟨b', off', e, hc'⟩ := h i v hv
  injection e with e
  injection e with e1 e2
  subst e1; subst e2
  exact hc'

theorem RB.cells (h : RB w A l) (hn : 0 < l.length) : ∃ b off, A = some ⟨b, off, none⟩ ∧ b < w.heap.size ∧ ∀ i (hi : i < l.length), w.cell? ⟨b, off + i, none⟩ = some (vb l[i]) := by
  obtain ⟨b, off, e, hb, hc⟩ := Rd.cells h (by simpa using hn)
  exact ⟨b, off, e, hb, fun i hi => hc i _ (by simp [List.getElem?_eq_getElem hi])⟩

theorem Rd.mk {b off : Nat} (h : ∀ i v, vs[i]? = some v → w.cell? ⟨b, off + i, none⟩ = some v) : Rd w (some ⟨b, off, none⟩) vs :=
  fun i v hv => ⟨b, off, rfl, h i v hv⟩
theorem RB.mk {b off : Nat} (h : ∀ i (hi : i < l.length), w.cell? ⟨b, off + i, none⟩ = some (vb l[i])) : RB w (some ⟨b, off, none⟩) l :=
  Rd.mk fun i v hv => by
    have hi : i < l.length := by simpa using (List.getElem?_eq_some_iff.1 hv).1
    rw [List.getElem?_map, List.getElem?_eq_getElem hi] at hv
    simp only [Option.map_some, Option.some.injEq] at hv
    subst hv
    exact h i hi

theorem Rd.keep (h : Rd w A vs) (hk : ∀ p v, w.cell? p = some v → A.map (·.block) = some p.block → w'.cell? p = some v) : Rd w' A vs := fun i v hv => by
  obtain ⟨b, off, rfl, hc⟩ := h i v hv
  exact ⟨b, off, rfl, hk _ _ hc rfl⟩
theorem Rd.below (h : Rd w A vs) (hb : Below w.heap.size w w') : Rd w' A vs :=
  h.keep fun _ _ hc _ => (hb.cell (block_lt_of_cell hc)).trans hc
theorem RB.below (h : RB w A l) (hb : Below w.heap.size w w') : RB w' A l := Rd.below h hb
theorem Rd.drewN (h : Rd w A vs) (n : Nat) : Rd (w.drewN n) A vs := h
theorem Rd.drew (h : Rd w A vs) : Rd w.drew A vs := h
theorem Rd.alloc (h : Rd w A vs) (o : Obj) : Rd (w.alloc o) A vs :=
  h.keep fun p _ hc _ => (World.cell?_alloc_lt w o p (block_lt_of_cell hc)).trans hc
theorem RB.alloc (h : RB w A l) (o : Obj) : RB (w.alloc o) A l := Rd.alloc h o
theorem Rd.take (h : Rd w A vs) (n : Nat) : Rd w A (vs.take n) := fun i v hv => h i v (by
  rw [List.getElem?_take] at hv; split at hv <;> simp_all)
theorem RB.take (h : RB w A l) (n : Nat) : RB w A (l.take n) := by
  unfold RB; rw [List.map_take]; exact Rd.take h n
end

theorem blw_drewN {B : Nat} {a w : World} (h : Below B a w) (n : Nat) : Below B a (w.drewN n) := ⟨h.os, h.tape, h.output, h.size, h.block⟩
/-- a contract that keeps all that was there, said from an earlier world -/
theorem calls_from {P : Program} {f : FuncId} {args : Array Value} {B : Nat} {w0 w1 : World} {v : Value} (hb : Below B w0 w1) (hB : B ≤ w1.heap.size)
    (c : Calls P f args w1 fun e w' => e = .returned v ∧ Below w1.heap.size w1 w') : Calls P f args w1 fun e w' => e = .returned v ∧ Below B w0 w' :=
  c.mono fun _ _ ⟨he, hb'⟩ => ⟨he, hb.trans (hb'.mono hB)⟩
theorem calls_below {P : Program} {f : FuncId} {args : Array Value} {w0 w1 : World} {v : Value} (hb : Below w0.heap.size w0 w1)
    (c : Calls P f args w1 fun e w' => e = .returned v ∧ Below w1.heap.size w1 w') : Calls P f args w1 fun e w' => e = .returned v ∧ Below w0.heap.size w0 w' :=
  calls_from hb hb.size c

/-! ### only the blocks of a list were written -/

/-- only the blocks S, and what is new, have changed -/
structure Chg (S : List Nat) (w w' : World) : Prop where
  os : w'.os = w.os
  tape : w'.tape = w.tape
  output : w'.output = w.output
  size : w.heap.size ≤ w'.heap.size
  block : ∀ k, k < w.heap.size → k ∉ S → w'.heap[k]? = w.heap[k]?

section
variable {S S' : List Nat} {w w1 w2 : World}
theorem Chg.refl (S : List Nat) (w : World) : Chg S w w := ⟨rfl, rfl, rfl, Nat.le_refl _, fun _ _ _ => rfl⟩
theorem Chg.trans (h : Chg S w w1) (k : Chg S' w1 w2) (hs : ∀ x ∈ S', x ∈ S ∨ w.heap.size ≤ x) : Chg S w w2 :=
  ⟨k.os.trans h.os, k.tape.trans h.tape, k.output.trans h.output, Nat.le_trans h.size k.size, fun i hi hn =>
    (k.block i (Nat.lt_of_lt_of_le hi h.size) (fun hm => (hs i hm).elim hn (fun hle => by omega))).trans (h.block i hi hn)⟩
theorem Chg.trans' (h : Chg S w w1) (k : Chg S w1 w2) : Chg S w w2 := h.trans k fun _ hx => .inl hx
theorem Chg.mono (h : Chg S w w1) (hs : ∀ x ∈ S, x ∈ S') : Chg S' w w1 :=
  ⟨h.os, h.tape, h.output, h.size, fun i hi hn => h.block i hi fun hm => hn (hs i hm)⟩
theorem Chg.of_below (h : Below w.heap.size w w1) (S : List Nat) : Chg S w w1 := ⟨h.os, h.tape, h.output, h.size, fun i hi _ => h.block i hi⟩
theorem Chg.of_grown {row : Option Nat} (h : w.grownBy w1 row) (hr : ∀ x, row = some x → x ∈ S) : Chg S w w1 :=
  ⟨h.os, h.tape, h.output, h.size, fun i hi hn => h.block i hi fun he => hn (hr i he.symm)⟩
theorem Chg.below {B : Nat} (h : Chg S w w1) (hB : B ≤ w.heap.size) (hs : ∀ x ∈ S, B ≤ x) : Below B w w1 :=
  ⟨h.os, h.tape, h.output, h.size, fun i hi => h.block i (by omega) fun hm => by have := hs i hm; omega⟩
theorem Chg.nil (h : Chg [] w w1) : Below w.heap.size w w1 := h.below (Nat.le_refl _) (by simp)
theorem Chg.alloc (h : Chg S w w1) (o : Obj) : Chg S w (w1.alloc o) :=
  ⟨h.os, h.tape, h.output, Nat.le_trans h.size (by simp), fun i hi hn => (Below.heap_alloc w1 o i (Nat.lt_of_lt_of_le hi h.size)).trans (h.block i hi hn)⟩
theorem Chg.drew (h : Chg S w w1) : Chg S w w1.drew := ⟨h.os, h.tape, h.output, h.size, h.block⟩
theorem Chg.drewN (h : Chg S w w1) (n : Nat) : Chg S w (w1.drewN n) := ⟨h.os, h.tape, h.output, h.size, h.block⟩
theorem Chg.setCell (h : Chg S w w1) {p : Addr} (hp : p.block ∈ S ∨ w.heap.size ≤ p.block) (u : Value) : Chg S w (w1.setCell p u) :=
  ⟨h.os, h.tape, h.output, by simpa [World.setCell] using h.size, fun i hi hn => (Below.heap_setCell w1 p u i (by
    rintro rfl
    rcases hp with hp | hp
    · exact hn hp
    · omega)).trans (h.block i hi hn)⟩
theorem Chg.setRow (h : Chg S w w1) {g : Nat} (hp : g ∈ S ∨ w.heap.size ≤ g) (cs : Array Value) : Chg S w (w1.setRow g cs) :=
  ⟨h.os, h.tape, h.output, by simpa [World.setRow] using h.size, fun i hi hn => (setRow_other w1 g i cs (by
    rintro rfl
    rcases hp with hp | hp
    · exact hn hp
    · omega)).trans (h.block i hi hn)⟩
theorem Chg.blk {k : Nat} {o : Obj} (h : Chg S w w1) (hk : w.heap[k]? = some o) (hn : k ∉ S) : w1.heap[k]? = some o :=
  (h.block k (Array.getElem?_eq_some_iff.1 hk).1 hn).trans hk
theorem Chg.own {B n : Nat} {e : TypeId} {v : Value} {xs : List Value} (h : Chg S w w1) (ho : w.ownsRow B e 1 v n xs) (hn : ∀ b, v.ownBlock = some b → b ∉ S) : w1.ownsRow B e 1 v n xs := by
  obtain ⟨h1, h2⟩ := ho
  refine ⟨h1, h2.imp id fun ⟨g, cap, cur, e1, e2, e3, e4⟩ => ⟨g, cap, cur, e1, e2, ?_, e4⟩⟩
  exact h.blk e3 (hn g (by rw [e1]; rfl))
theorem Chg.rd {A : Option Addr} {vs : List Value} (h : Chg S w w1) (hr : Rd w A vs) (hn : ∀ b off, A = some ⟨b, off, none⟩ → b ∉ S) : Rd w1 A vs := fun i v hv => by
  obtain ⟨b, off, rfl, hc⟩ := hr i v hv
  exact ⟨b, off, rfl, (World.cell?_of_block (h.block b (block_lt_of_cell hc) (hn b off rfl))).trans hc⟩
theorem Chg.cellAt {g j : Nat} {cs : Array Value} {t : TypeId} {fr : Nat × Nat} (h : Chg S w w1) (hg : w.heap[g]? = some (.cells cs t fr)) (hn : g ∉ S) : w1.cell? ⟨g, j, none⟩ = cs[j]? :=
  cell_of_row _ _ _ _ _ _ (h.blk hg hn)
theorem Chg.frozenAt {g j : Nat} {cs : Array Value} {t : TypeId} (h : Chg S w w1) (hg : w.heap[g]? = some (.cells cs t (0, 0))) (hn : g ∉ S) : w1.frozen? ⟨g, j, none⟩ = false :=
  frozen_of_row _ _ _ _ _ (h.blk hg hn)
/-- a block of another element type is not the slice's -/
theorem own_ne {B n g : Nat} {e t : TypeId} {v : Value} {xs cs : List Value} {fr : Nat × Nat} (ho : w.ownsRow B e 1 v n xs) (hg : w.heap[g]? = some (.cells cs.toArray t fr)) (hne : e ≠ t) : ∀ b, v.ownBlock = some b → b ∉ [g] := by
  intro b hb hm
  rcases ho.2 with ⟨rfl, _⟩ | ⟨g', cap, cur, rfl, _, hh, _⟩
  · cases hb
  · simp only [List.mem_singleton] at hm
    subst hm
    have : g' = b := by simpa [Value.ownBlock] using hb
    subst this
    rw [hh] at hg
    injection hg with hg
    injection hg with _ ht
    exact hne ht
end

/-! ### slices of the call's own, and append -/

/-- what an append leaves: only the slice's own block was written, and the new slice lies there or in new memory -/
def App (w : World) (v : Value) (w' : World) (v' : Value) : Prop :=
  w.grownBy w' v.ownBlock ∧ (v'.ownBlock = v.ownBlock ∨ ∃ g, v'.ownBlock = some g ∧ w.heap.size ≤ g)

section
variable {w w' w1 w2 : World} {v v' v1 v2 : Value} {B : Nat} {e : TypeId} {xs : List Value}

theorem App.refl (w : World) (v : Value) : App w v w v := ⟨World.grownBy.refl w _, .inl rfl⟩
theorem App.trans (h : App w v w1 v1) (k : App w1 v1 w2 v2) : App w v w2 v2 := by
  obtain ⟨hg, hv⟩ := h
  obtain ⟨kg, kv⟩ := k
  refine ⟨⟨kg.os.trans hg.os, kg.tape.trans hg.tape, kg.output.trans hg.output, Nat.le_trans hg.size kg.size, fun i hi hne => ?_⟩, ?_⟩
  · refine (kg.block i (Nat.lt_of_lt_of_le hi hg.size) ?_).trans (hg.block i hi hne)
    rcases hv with e | ⟨g, e, hlt⟩
    · rw [e]; exact hne
    · rw [e]; intro h; injection h with h; omega
  · rcases kv with e | ⟨g, e, hlt⟩
    · rw [e]; exact hv
    · exact .inr ⟨g, e, Nat.le_trans hg.size hlt⟩
theorem App.alloc (h : App w v w1 v1) (o : Obj) : App w v (w1.alloc o) v1 := by
  obtain ⟨hg, hv⟩ := h
  exact ⟨⟨hg.os, hg.tape, hg.output, Nat.le_trans hg.size (by simp), fun i hi hne => (Below.heap_alloc w1 o i (Nat.lt_of_lt_of_le hi hg.size)).trans (hg.block i hi hne)⟩, hv⟩
theorem App.alloc_left {o : Obj} (h : App (w.alloc o) v w1 v1) : App w v w1 v1 := by
  obtain ⟨hg, hv⟩ := h
  have hs : w.heap.size ≤ (w.alloc o).heap.size := by simp
  exact ⟨⟨hg.os, hg.tape, hg.output, Nat.le_trans hs hg.size, fun i hi hne => (hg.block i (Nat.lt_of_lt_of_le hi hs) hne).trans (Below.heap_alloc w o i hi)⟩,
    hv.imp id fun ⟨g, e, hlt⟩ => ⟨g, e, Nat.le_trans hs hlt⟩⟩
theorem App.below_left (hb : Below w.heap.size w w1) (h : App w1 v w2 v2) : App w v w2 v2 := by
  obtain ⟨hg, hv⟩ := h
  exact ⟨⟨hg.os.trans hb.os, hg.tape.trans hb.tape, hg.output.trans hb.output, Nat.le_trans hb.size hg.size, fun i hi hne => (hg.block i (Nat.lt_of_lt_of_le hi hb.size) hne).trans (hb.block i hi)⟩,
    hv.imp id fun ⟨g, e, hlt⟩ => ⟨g, e, Nat.le_trans hb.size hlt⟩⟩
theorem App.below_right (h : App w v w1 v1) (hb : Below w1.heap.size w1 w2) : App w v w2 v1 := by
  obtain ⟨hg, hv⟩ := h
  exact ⟨⟨hb.os.trans hg.os, hb.tape.trans hg.tape, hb.output.trans hg.output, Nat.le_trans hg.size hb.size, fun i hi hne => (hb.block i (Nat.lt_of_lt_of_le hi hg.size)).trans (hg.block i hi hne)⟩, hv⟩
theorem App.size (h : App w v w1 v1) : w.heap.size ≤ w1.heap.size := h.1.size
theorem App.old (h : App w v w1 v1) {k : Nat} {o : Obj} (hk : w.heap[k]? = some o) (hne : v.ownBlock ≠ some k) : w1.heap[k]? = some o :=
  (h.1.block k (Array.getElem?_eq_some_iff.1 hk).1 (fun e => hne e.symm)).trans hk
/-- below the slice's base nothing has turned -/
theorem App.below {n : Nat} (h : App w v w1 v1) (hown : w.ownsRow B e 1 v n xs) (hB : B ≤ w.heap.size) : Below B w w1 :=
  (Below.refl B w).grown h.1 hB fun k hk => (hown.lt k hk).1

theorem App.chg (h : App w v w1 v1) {S : List Nat} (hS : ∀ b, v.ownBlock = some b → b ∈ S) : Chg S w w1 := Chg.of_grown h.1 hS

theorem own_below {n : Nat} (h : w.ownsRow B e 1 v n xs) (hb : Below w.heap.size w w1) : w1.ownsRow B e 1 v n xs := by
  obtain ⟨h1, h2⟩ := h
  refine ⟨h1, h2.imp id fun ⟨g, cap, cur, e1, e2, e3, e4⟩ => ⟨g, cap, cur, e1, e2, ?_, e4⟩⟩
  exact (hb.block g (Array.getElem?_eq_some_iff.1 e3).1).trans e3
theorem own_base {n B' : Nat} (h : w.ownsRow B e 1 v n xs) (hB : B' ≤ B) : w.ownsRow B' e 1 v n xs := by
  obtain ⟨h1, h2⟩ := h
  exact ⟨h1, h2.imp id fun ⟨g, cap, cur, e1, e2, e3⟩ => ⟨g, cap, cur, e1, Nat.le_trans hB e2, e3⟩⟩
/-- the form of an owned slice, and that it reads -/
theorem own_form {n : Nat} (h : w.ownsRow B e 1 v n xs) : ∃ A cap, v = .slice A n cap ∧ n ≤ cap ∧ cap ≤ maxLen ∧ xs.length = n ∧ Rd w A xs := by
  have hl : xs.length = n := by simpa using h.1
  rcases h.2 with ⟨rfl, rfl⟩ | ⟨g, cap, cur, rfl, hg, hh, hnc, hm, hcs, hx⟩
  · have : xs = [] := List.eq_nil_of_length_eq_zero hl
    subst this
    exact ⟨none, 0, rfl, Nat.le_refl _, by simp [maxLen], rfl, Rd.nil⟩
  · refine ⟨_, cap, rfl, hnc, hm, hl, Rd.mk fun i u hu => ?_⟩
    have hi : i < n := by rw [← hl]; exact (List.getElem?_eq_some_iff.1 hu).1
    rw [Nat.zero_add, cell_of_row _ _ _ _ _ _ hh, ← hu, ← hx]
    rw [List.getElem?_take, if_pos (by omega)]
    simp
end

section
variable {P : Program}

theorem wp_app (w : World) {o : Oper} {a : Act} {K : Act → World → Prop} {Q : Exit → Act → World → Prop} (s x : Operand) (t : TypeId)
    (ho : o.op = .call { callee := .builtin .append, args := #[s, x], argTypes := #[t, t] })
    (B : Nat) (e : TypeId) (z : Value) (bytes : Nat) (ht : P.underlying t = some (.slice e)) (hinfo : (P.info? e).map (fun i => (i.zero, i.size, i.bytes)) = some (some z, 1, bytes)) (hz1 : z.cells.size = 1)
    (v : Value) (n : Nat) (xs : List Value) (hs : a.eval s = v) (hown : w.ownsRow B e 1 v n xs)
    (A : Option Addr) (m c : Nat) (news : List Value) (hx : a.eval x = .slice A m c) (hm : news.length = m) (hr : Rd w A news) (h1 : ∀ u ∈ news, u.oneCell' = true)
    (h63 : n + m ≤ maxLen) (hbytes : (n + m) * bytes ≤ 140737488355328) (hbase : B ≤ w.heap.size)
    (h : ∀ v' w', w'.ownsRow B e 1 v' (n + m) (xs ++ news) → App w v w' v' → K (a.put o.dst v') w') : o.wp P a w K Q := by
  obtain ⟨i, hi, hz, hsz, hby⟩ := info_parts hinfo
  have key : ∃ v' w', (Builtin.append_ #[t, t] o.type #[v, .slice A m c]).run P w = .ok v' w' ∧ w'.ownsRow B e 1 v' (n + m) (xs ++ news) ∧ App w v w' v' := by
    by_cases hA : A = none
    · subst hA
      have hnil : news = [] := by
        cases news with
        | nil => rfl
        | cons u r => obtain ⟨_, _, he, _⟩ := hr 0 u rfl; cases he
      subst hnil
      obtain rfl : m = 0 := by simpa using hm.symm
      refine ⟨v, w, ?_, by simpa using hown, App.refl w v⟩
      rcases hown.2 with ⟨rfl, rfl⟩ | ⟨g, cap, cur, rfl, _, _, hnc, _⟩
      · simp [Builtin.append_, run_underlying ht, sizeOf, typeInfo, hi, Builtin.lenOf, Builtin.firstCells]
      · simp [Builtin.append_, run_underlying ht, sizeOf, typeInfo, hi, Builtin.lenOf, Builtin.firstCells, hnc, storeCells]
    · obtain ⟨ad, rfl⟩ := Option.ne_none_iff_exists'.1 hA
      have hcells : ∀ j u, news[j]? = some u → w.cell? (ad.add j) = some u := by
        intro j u hu
        obtain ⟨b, off, he, hc⟩ := hr j u hu
        injection he with he
        subst he
        rw [addr_add]; exact hc
      obtain ⟨v', w', hrun, h2, h3, _, h5⟩ := run_append_own_at (P := P) w B t o.type e i z 1 bytes ht hi hz hsz hby hz1 (by omega) v n xs hown ad m c news (by simpa using hm) hcells h1 h63 hbytes hbase
      exact ⟨v', w', hrun, h2, h3, h5.imp id fun h => ⟨_, h, Nat.le_refl _⟩⟩
  obtain ⟨v', w', hrun, h2, h3⟩ := key
  unfold Oper.wp execOp
  simp only [ho, resolve, invoke, builtin, Sem.run_bind, Sem.run_pure, Result.andThen_ok, List.map_toArray, List.map_cons, List.map_nil, hs, hx, hrun]
  exact h v' w' h2 h3

/-- append onto a slice of the call's own, at a plain region's operation -/
theorem wpList_app (w : World) {ops : Array Oper} {rest : List Oper} {o : Oper} {a : Act} {Q : Exit → Act → World → Prop} (hgd : o.guard = none) (s x : Operand) (t : TypeId)
    (ho : o.op = .call { callee := .builtin .append, args := #[s, x], argTypes := #[t, t] })
    (B : Nat) (e : TypeId) (z : Value) (bytes : Nat) (ht : P.underlying t = some (.slice e)) (hinfo : (P.info? e).map (fun i => (i.zero, i.size, i.bytes)) = some (some z, 1, bytes)) (hz1 : z.cells.size = 1)
    (v : Value) (n : Nat) (xs : List Value) (hs : a.eval s = v) (hown : w.ownsRow B e 1 v n xs)
    (A : Option Addr) (m c : Nat) (news : List Value) (hx : a.eval x = .slice A m c) (hm : news.length = m) (hr : Rd w A news) (h1 : ∀ u ∈ news, u.oneCell' = true)
    (h63 : n + m ≤ maxLen) (hbytes : (n + m) * bytes ≤ 140737488355328) (hbase : B ≤ w.heap.size)
    (h : ∀ v' w', w'.ownsRow B e 1 v' (n + m) (xs ++ news) → App w v w' v' → wpList P ops Q rest (a.put o.dst v') w') : wpList P ops Q (o :: rest) a w :=
  wpList_plain hgd fun _ hK => wp_app w s x t ho B e z bytes ht hinfo hz1 v n xs hs hown A m c news hx hm hr h1 h63 hbytes hbase fun v' w' h2 h3 => hK _ _ (h v' w' h2 h3)

/-- the same, the new slice in its form -/
theorem wpList_apps (w : World) {ops : Array Oper} {rest : List Oper} {o : Oper} {a : Act} {Q : Exit → Act → World → Prop} (hgd : o.guard = none) (s x : Operand) (t : TypeId)
    (ho : o.op = .call { callee := .builtin .append, args := #[s, x], argTypes := #[t, t] })
    (B : Nat) (e : TypeId) (z : Value) (bytes : Nat) (ht : P.underlying t = some (.slice e)) (hinfo : (P.info? e).map (fun i => (i.zero, i.size, i.bytes)) = some (some z, 1, bytes)) (hz1 : z.cells.size = 1)
    (v : Value) (n : Nat) (xs : List Value) (hs : a.eval s = v) (hown : w.ownsRow B e 1 v n xs)
    (A : Option Addr) (m c : Nat) (news : List Value) (hx : a.eval x = .slice A m c) (hm : news.length = m) (hr : Rd w A news) (h1 : ∀ u ∈ news, u.oneCell' = true)
    (h63 : n + m ≤ maxLen) (hbytes : (n + m) * bytes ≤ 140737488355328) (hbase : B ≤ w.heap.size)
    (h : ∀ X cap w', w'.ownsRow B e 1 (.slice X (n + m) cap) (n + m) (xs ++ news) → App w v w' (.slice X (n + m) cap) → wpList P ops Q rest (a.put o.dst (.slice X (n + m) cap)) w') : wpList P ops Q (o :: rest) a w :=
  wpList_app w hgd s x t ho B e z bytes ht hinfo hz1 v n xs hs hown A m c news hx hm hr h1 h63 hbytes hbase fun v' w' h2 h3 => by
    obtain ⟨X, cap, rfl, _⟩ := own_form h2
    exact h X cap w' h2 h3

/-- the same at an operation of a region that draws its order -/
theorem step_app (w : World) {ops : Array Oper} {o : Oper} {a : Act} {K : Act → World → Prop} {Q : Exit → Act → World → Prop} {E : Prop} (hgd : o.guard = none) (s x : Operand) (t : TypeId)
    (ho : o.op = .call { callee := .builtin .append, args := #[s, x], argTypes := #[t, t] })
    (B : Nat) (e : TypeId) (z : Value) (bytes : Nat) (ht : P.underlying t = some (.slice e)) (hinfo : (P.info? e).map (fun i => (i.zero, i.size, i.bytes)) = some (some z, 1, bytes)) (hz1 : z.cells.size = 1)
    (v : Value) (n : Nat) (xs : List Value) (hs : a.eval s = v) (hown : w.ownsRow B e 1 v n xs)
    (A : Option Addr) (m c : Nat) (news : List Value) (hx : a.eval x = .slice A m c) (hm : news.length = m) (hr : Rd w A news) (h1 : ∀ u ∈ news, u.oneCell' = true)
    (h63 : n + m ≤ maxLen) (hbytes : (n + m) * bytes ≤ 140737488355328) (hbase : B ≤ w.heap.size)
    (h : ∀ v' w', w'.ownsRow B e 1 v' (n + m) (xs ++ news) → App w v w' v' → K (a.put o.dst v') w') : if Region.wanted o (yielded ops a.tmps) = true then Oper.wp P o a w K Q else E := by
  have hw : Region.wanted o (yielded ops a.tmps) = true := by simp [Region.wanted, hgd]
  rw [if_pos hw]
  exact wp_app w s x t ho B e z bytes ht hinfo hz1 v n xs hs hown A m c news hx hm hr h1 h63 hbytes hbase h
end

/-- one new cell reads -/
theorem Rd.one (w : World) (u : Value) (e : TypeId) : Rd (w.alloc (.cells #[u] e)) (some ⟨w.heap.size, 0, none⟩) [u] :=
  Rd.mk fun i v hv => by
    have hi : i = 0 := by have := (List.getElem?_eq_some_iff.1 hv).1; simpa using this
    subst hi
    simp at hv
    subst hv
    simp

/-- a new row of cells reads, whatever its mark -/
theorem Rd.new (w : World) (cs : List Value) (e : TypeId) (fr : Nat × Nat) : Rd (w.alloc (.cells cs.toArray e fr)) (some ⟨w.heap.size, 0, none⟩) cs :=
  Rd.mk fun i v hv => by
    rw [Nat.zero_add, cell_of_row _ _ _ _ _ _ (heap_alloc_new w _)]
    simpa using hv

theorem vb_one (l : List UInt8) : ∀ u ∈ l.map vb, u.oneCell' = true := by
  intro u hu
  obtain ⟨_, _, rfl⟩ := List.mem_map.1 hu
  rfl

/-- a struct result in memory, and a second one in a slot -/
theorem results_cell_tmp {P : Program} {fn : Func} {p t2 : Tmp} {ty : TypeId} (h : fn.results = #[.cell p ty, .tmp t2]) (tmps : Array Value) (w : World) (g : Nat) (t : TypeId) (cs : Array Value) (fr : Nat × Nat) (d : TypeDesc)
    (hp : tmps.getD p undef = .pointer (some ⟨g, 0, none⟩)) (hg : w.heap[g]? = some (.cells cs t fr))
    (hu : P.underlying ty = some d) (hd : (match d with | .struct _ | .array _ _ => true | _ => false) = true) (hi : (P.info? ty).map (·.size) = some cs.size) :
    (results fn tmps).run P w = .ok (.tuple #[.agg cs, tmps.getD t2 undef]) w := by
  have hp' : tmps[p]?.getD undef = .pointer (some ⟨g, 0, none⟩) := by simpa using hp
  simp [results, h, hp', asAddr, run_loadVar_row w g t ty cs fr d hg hu hd hi]

theorem results_tmp_cell_tmp {P : Program} {fn : Func} {t1 p t2 : Tmp} {ty : TypeId} (h : fn.results = #[.tmp t1, .cell p ty, .tmp t2]) (tmps : Array Value) (w : World) (g : Nat) (t : TypeId) (cs : Array Value) (fr : Nat × Nat) (d : TypeDesc)
    (hp : tmps.getD p undef = .pointer (some ⟨g, 0, none⟩)) (hg : w.heap[g]? = some (.cells cs t fr))
    (hu : P.underlying ty = some d) (hd : (match d with | .struct _ | .array _ _ => true | _ => false) = true) (hi : (P.info? ty).map (·.size) = some cs.size) :
    (results fn tmps).run P w = .ok (.tuple #[tmps.getD t1 undef, .agg cs, tmps.getD t2 undef]) w := by
  have hp' : tmps[p]?.getD undef = .pointer (some ⟨g, 0, none⟩) := by simpa using hp
  simp [results, h, hp', asAddr, run_loadVar_row w g t ty cs fr d hg hu hd hi]

/-- an empty slice literal -/
theorem own_empty (B : Nat) (e : TypeId) (u : World) (n : Nat) (hn : u.heap.size = n) (hB : B ≤ n) : (u.alloc (.cells #[] e)).ownsRow B e 1 (.slice (some ⟨n, 0, none⟩) 0 0) 0 [] := by
  subst hn
  exact World.ownsRow_made _ _ 0 hB (by simp [maxLen]) rfl

theorem own_set0 {w : World} {B n : Nat} {e : TypeId} {v : Value} {xs : List Value} (h : w.ownsRow B e 1 v n xs) (j : Nat) (hj : j < n) :
    ∃ g cap, v = .slice (some ⟨g, 0, none⟩) n cap ∧ B ≤ g ∧ g < w.heap.size ∧ w.frozen? ⟨g, j, none⟩ = false ∧ w.cell? ⟨g, j, none⟩ = xs[j]? ∧
      ∀ u : Value, (w.setCell ⟨g, j, none⟩ u).ownsRow B e 1 v n (xs.set j u) := by
  rcases h.2 with ⟨_, h0⟩ | ⟨g, cap, cur, rfl, hg, hh, _⟩
  · omega
  · exact ⟨g, cap, rfl, hg, (Array.getElem?_eq_some_iff.1 hh).1, h.frozenAt j, h.cellAt j (by omega), fun u => by simpa using (h.stored j u).1⟩

/-! ### three new blocks -/
theorem heap3_a (w : World) (X Y Z : Obj) : (((w.alloc X).alloc Y).alloc Z).drew.heap[w.heap.size]? = some X := by
  show ((w.alloc X).alloc Y |>.alloc Z).heap[w.heap.size]? = some X
  rw [Below.heap_alloc _ _ _ (by simp; omega), Below.heap_alloc _ _ _ (by simp)]; exact heap_alloc_new _ _
theorem heap3_b (w : World) (X Y Z : Obj) : (((w.alloc X).alloc Y).alloc Z).drew.heap[w.heap.size + 1]? = some Y := by
  show ((w.alloc X).alloc Y |>.alloc Z).heap[w.heap.size + 1]? = some Y
  rw [Below.heap_alloc _ _ _ (by simp)]; exact heap_alloc2_new _ _ _
theorem heap3_c (w : World) (X Y Z : Obj) : (((w.alloc X).alloc Y).alloc Z).drew.heap[w.heap.size + 1 + 1]? = some Z := by
  have h := heap_alloc_new ((w.alloc X).alloc Y) Z
  have e : ((w.alloc X).alloc Y).heap.size = w.heap.size + 1 + 1 := by simp
  rw [e] at h; exact h
theorem below1 (w : World) (X : Obj) : Below w.heap.size w (w.alloc X) := (Below.refl _ _).alloc (Nat.le_refl _) X
theorem below2 (w : World) (X Y : Obj) : Below w.heap.size w ((w.alloc X).alloc Y) := ((Below.refl _ _).alloc (Nat.le_refl _) X).alloc (by simp) Y
theorem below3n (w : World) (X Y Z : Obj) : Below w.heap.size w (((w.alloc X).alloc Y).alloc Z) :=
  (((Below.refl _ _).alloc (Nat.le_refl _) X).alloc (by simp) Y).alloc (by simp; omega) Z
theorem below3 (w : World) (X Y Z : Obj) : Below w.heap.size w (((w.alloc X).alloc Y).alloc Z).drew :=
  ((((Below.refl _ _).alloc (Nat.le_refl _) X).alloc (by simp) Y).alloc (by simp; omega) Z).drew

/-- three cells stored one after another -/
theorem heap_set3 {w : World} {R : Nat} {a b c : Value} {t : TypeId} (h : w.heap[R]? = some (.cells #[a, b, c] t (0, 0))) (x y z : Value) :
    (((w.setCell ⟨R, 0, none⟩ x).setCell ⟨R, 1, none⟩ y).setCell ⟨R, 2, none⟩ z).heap[R]? = some (.cells #[x, y, z] t (0, 0)) :=
  heap_setCell_same _ _ _ _ _ _ (heap_setCell_same _ _ _ _ _ _ (heap_setCell_same _ _ _ _ _ _ h))
theorem chg_set3 (w : World) (R : Nat) (x y z : Value) : Chg [R] w (((w.setCell ⟨R, 0, none⟩ x).setCell ⟨R, 1, none⟩ y).setCell ⟨R, 2, none⟩ z) :=
  (((Chg.refl [R] w).setCell (p := ⟨R, 0, none⟩) (.inl (by simp)) x).setCell (p := ⟨R, 1, none⟩) (.inl (by simp)) y).setCell (p := ⟨R, 2, none⟩) (.inl (by simp)) z

/-- 'string(b)' -/
theorem run_str {P : Program} {w : World} {A : Option Addr} {l : List UInt8} (n cap : Nat) (t e s : TypeId) (ht : P.underlying t = some (.slice e)) (he : P.underlying e = some (.int .u8)) (hs : P.underlying s = some .string)
    (hn : l.length = n) (hr : RB w A l) : (convert t s (.slice A n cap)).run P w = .ok (.string ⟨l.toArray⟩) w := by
  subst hn
  by_cases hl : 0 < l.length
  · obtain ⟨b, off, rfl, _, hc⟩ := hr.cells hl
    exact run_convert_bytes_back w t s e ⟨b, off, none⟩ cap l ht he hs (fun j hj => by rw [addr_add]; exact hc j hj)
  · have : l = [] := List.eq_nil_of_length_eq_zero (by omega)
    subst this
    cases A with
    | none => rw [run_convert_bytes_string w t s e none _ cap ht he hs]; rfl
    | some a => exact run_convert_bytes_back w t s e a cap [] ht he hs (fun j hj => by simp at hj)

/-! ### words of 64 bits in the walk -/

theorem ofInt_bv (x : BitVec 64) : BitVec.ofInt 64 (x.toNat : Int) = x := by
  apply BitVec.eq_of_toNat_eq; rw [BitVec.ofInt_natCast, BitVec.toNat_ofNat]; exact Nat.mod_eq_of_lt x.isLt

theorem wrap_bv (x : BitVec 64) : IntKind.u64.wrap (x.toNat : Int) = (x.toNat : Int) := by
  rw [IntKind.wrap_u64]; have := x.isLt; omega

theorem xor_bv (x y : BitVec 64) : bits .xor .u64 (x.toNat : Int) (y.toNat : Int) = ((x ^^^ y).toNat : Int) := by
  show IntKind.u64.wrap ((BitVec.ofInt 64 (x.toNat : Int) ^^^ BitVec.ofInt 64 (y.toNat : Int)).toNat : Int) = _
  rw [ofInt_bv, ofInt_bv, wrap_bv]
theorem and_bv (x y : BitVec 64) : bits .and .u64 (x.toNat : Int) (y.toNat : Int) = ((x &&& y).toNat : Int) := by
  show IntKind.u64.wrap ((BitVec.ofInt 64 (x.toNat : Int) &&& BitVec.ofInt 64 (y.toNat : Int)).toNat : Int) = _
  rw [ofInt_bv, ofInt_bv, wrap_bv]
theorem or_bv (x y : BitVec 64) : bits .or .u64 (x.toNat : Int) (y.toNat : Int) = ((x ||| y).toNat : Int) := by
  show IntKind.u64.wrap ((BitVec.ofInt 64 (x.toNat : Int) ||| BitVec.ofInt 64 (y.toNat : Int)).toNat : Int) = _
  rw [ofInt_bv, ofInt_bv, wrap_bv]
theorem signed_u64 : IntKind.u64.signed = false := rfl
theorem max_bv : IntKind.u64.max = ((BitVec.allOnes 64).toNat : Int) := by decide
theorem lit_bv (n : Nat) (h : n < 18446744073709551616) : ((n : Nat) : Int) = ((BitVec.ofNat 64 n).toNat : Int) := by
  rw [BitVec.toNat_ofNat, Nat.mod_eq_of_lt (by omega)]
theorem shr_bv (x : BitVec 64) (k : Nat) : (x.toNat : Int) / ((2 ^ k : Nat) : Int) = ((x >>> k).toNat : Int) := by
  rw [BitVec.toNat_ushiftRight, Nat.shiftRight_eq_div_pow]; norm_cast

end Go.Proofs.Ytmdpmpfjldgalaa

/- Slices cut out of slices. -/
namespace Go.Proofs.Ytmdpmpfjldgalaa
open Go.RowKit

/-- the address of s[lo:..] -/
def cutA (A : Option Addr) (lo cap : Nat) : Option Addr := if cap = lo then A else A.map (·.add lo)
theorem Rd.cut {w : World} {A : Option Addr} {vs : List Value} (h : Rd w A vs) (lo cap : Nat) (hn : vs.length ≤ cap) : Rd w (cutA A lo cap) (vs.drop lo) := by
  intro i v hv
  rw [List.getElem?_drop] at hv
  have hl : lo + i < vs.length := (List.getElem?_eq_some_iff.1 hv).1
  obtain ⟨b, off, rfl, hc⟩ := h (lo + i) v hv
  unfold cutA
  rw [if_neg (by omega)]
  exact ⟨b, off + lo, by simp [addr_add], by rw [Nat.add_assoc]; exact hc⟩
theorem RB.cut {w : World} {A : Option Addr} {l : List UInt8} (h : RB w A l) (lo cap : Nat) (hn : l.length ≤ cap) : RB w (cutA A lo cap) (l.drop lo) := by
  unfold RB; rw [List.map_drop]; exact Rd.cut h lo cap (by simpa using hn)
section
variable {P : Program} {t e : TypeId}
theorem run_cut_lh (ht : P.underlying t = some (.slice e)) (he : P.elem t = e) (hs : (P.info? e).map (·.size) = some 1) (A : Option Addr) (n cap lo hi : Nat) (h1 : lo ≤ hi) (h2 : hi ≤ cap) (w : World) :
    (Instr.slice t (.slice A n cap) (some (.int .i64 lo)) (some (.int .i64 hi)) none).run P w = .ok (.slice (cutA A lo cap) (hi - lo) (cap - lo)) w := by
  subst he
  rw [run_slice_lh w t A n cap ht .i64 .i64 lo hi (by omega) (by omega) (by omega)]
  obtain ⟨i, hi', hsz⟩ := Option.map_eq_some_iff.1 hs
  simp [sizeOf, typeInfo, hi', hsz, sliced, cutA]
theorem run_cut_l (ht : P.underlying t = some (.slice e)) (he : P.elem t = e) (hs : (P.info? e).map (·.size) = some 1) (A : Option Addr) (n cap lo : Nat) (h1 : lo ≤ n) (w : World) :
    (Instr.slice t (.slice A n cap) (some (.int .i64 lo)) none none).run P w = .ok (.slice (cutA A lo cap) (n - lo) (cap - lo)) w := by
  subst he
  rw [run_slice_l w t A n cap ht .i64 lo (by omega) (by omega)]
  obtain ⟨i, hi', hsz⟩ := Option.map_eq_some_iff.1 hs
  simp [sizeOf, typeInfo, hi', hsz, sliced, cutA]
theorem run_cut_h (ht : P.underlying t = some (.slice e)) (he : P.elem t = e) (A : Option Addr) (n cap hi : Nat) (h2 : hi ≤ cap) (hs : (P.info? e).map (·.size) = some 1) (w : World) :
    (Instr.slice t (.slice A n cap) none (some (.int .i64 hi)) none).run P w = .ok (.slice (cutA A 0 cap) hi cap) w := by
  subst he
  rw [run_slice_h w t A n cap ht .i64 hi (by omega) (by omega)]
  obtain ⟨i, hi', hsz⟩ := Option.map_eq_some_iff.1 hs
  simp [sizeOf, typeInfo, hi', hsz, sliced, cutA]
theorem cutA_zero (A : Option Addr) (cap : Nat) : cutA A 0 cap = A := by
  unfold cutA; split
  · rfl
  · cases A with
    | none => rfl
    | some a => show some (a.add 0) = some a; obtain ⟨b, off, pr⟩ := a; unfold Addr.add; cases pr <;> simp
end
end Go.Proofs.Ytmdpmpfjldgalaa

/- Memory: slices whose elements have any size; copy into a slice that is known whole. No program in sight. -/
namespace Go.Proofs.Ytmdpmpfjldgalaa
open Go.RowKit

section
variable {P : Program} {w w' : World} {B n sz : Nat} {e : TypeId} {v : Value} {xs : List Value}

/-- the form of an owned slice, and that it reads -/
theorem own_formS (h : w.ownsRow B e sz v n xs) : ∃ A cap, v = .slice A n cap ∧ n ≤ cap ∧ cap ≤ maxLen ∧ xs.length = n * sz ∧ Rd w A xs := by
  have hl := h.1
  rcases h.2 with ⟨rfl, rfl⟩ | ⟨g, cap, cur, rfl, hg, hh, hnc, hm, hcs, hx⟩
  · have : xs = [] := List.eq_nil_of_length_eq_zero (by simpa using hl)
    subst this
    exact ⟨none, 0, rfl, Nat.le_refl _, by simp [maxLen], hl, Rd.nil⟩
  · refine ⟨_, cap, rfl, hnc, hm, hl, Rd.mk fun i u hu => ?_⟩
    have hi : i < n * sz := by rw [← hl]; exact (List.getElem?_eq_some_iff.1 hu).1
    rw [Nat.zero_add, cell_of_row _ _ _ _ _ _ hh, ← hu, ← hx]
    rw [List.getElem?_take, if_pos (by omega)]
    simp
theorem own_belowS (h : w.ownsRow B e sz v n xs) (hb : Below w.heap.size w w') : w'.ownsRow B e sz v n xs := by
  obtain ⟨h1, h2⟩ := h
  refine ⟨h1, h2.imp id fun ⟨g, cap, cur, e1, e2, e3, e4⟩ => ⟨g, cap, cur, e1, e2, ?_, e4⟩⟩
  exact (hb.block g (Array.getElem?_eq_some_iff.1 e3).1).trans e3
theorem own_baseS {B' : Nat} (h : w.ownsRow B e sz v n xs) (hB : B' ≤ B) : w.ownsRow B' e sz v n xs := by
  obtain ⟨h1, h2⟩ := h
  exact ⟨h1, h2.imp id fun ⟨g, cap, cur, e1, e2, e3⟩ => ⟨g, cap, cur, e1, Nat.le_trans hB e2, e3⟩⟩
theorem Chg.ownS {S : List Nat} (h : Chg S w w') (ho : w.ownsRow B e sz v n xs) (hn : ∀ b, v.ownBlock = some b → b ∉ S) : w'.ownsRow B e sz v n xs := by
  obtain ⟨h1, h2⟩ := ho
  refine ⟨h1, h2.imp id fun ⟨g, cap, cur, e1, e2, e3, e4⟩ => ⟨g, cap, cur, e1, e2, ?_, e4⟩⟩
  exact h.blk e3 (hn g (by rw [e1]; rfl))
/-- below the slice's base nothing has turned -/
theorem App.belowS {v1 : Value} (h : App w v w' v1) (hown : w.ownsRow B e sz v n xs) (hB : B ≤ w.heap.size) : Below B w w' :=
  (Below.refl B w).grown h.1 hB fun k hk => (hown.lt k hk).1
/-- a lower base, or a higher one -/
theorem own_lift {B' : Nat} (h : w.ownsRow B e sz v n xs) (hB : ∀ b, v.ownBlock = some b → B' ≤ b) : w.ownsRow B' e sz v n xs := by
  obtain ⟨h1, h2⟩ := h
  exact ⟨h1, h2.imp id fun ⟨g, cap, cur, e1, _, e3⟩ => ⟨g, cap, cur, e1, hB g (by rw [e1]; rfl), e3⟩⟩

theorem wp_appS (w : World) {o : Oper} {a : Act} {K : Act → World → Prop} {Q : Exit → Act → World → Prop} (s x : Operand) (t : TypeId)
    (ho : o.op = .call { callee := .builtin .append, args := #[s, x], argTypes := #[t, t] })
    (B : Nat) (e : TypeId) (z : Value) (sz bytes : Nat) (ht : P.underlying t = some (.slice e)) (hinfo : (P.info? e).map (fun i => (i.zero, i.size, i.bytes)) = some (some z, sz, bytes)) (hz1 : z.cells.size = sz) (hpos : 0 < sz)
    (v : Value) (n : Nat) (xs : List Value) (hs : a.eval s = v) (hown : w.ownsRow B e sz v n xs)
    (A : Option Addr) (m c : Nat) (news : List Value) (hx : a.eval x = .slice A m c) (hm : news.length = m * sz) (hr : Rd w A news) (h1 : ∀ u ∈ news, u.oneCell' = true)
    (h63 : n + m ≤ maxLen) (hbytes : (n + m) * bytes ≤ 140737488355328) (hbase : B ≤ w.heap.size)
    (h : ∀ v' w', w'.ownsRow B e sz v' (n + m) (xs ++ news) → App w v w' v' → K (a.put o.dst v') w') : o.wp P a w K Q := by
  obtain ⟨i, hi, hz, hsz, hby⟩ := info_parts hinfo
  have key : ∃ v' w', (Builtin.append_ #[t, t] o.type #[v, .slice A m c]).run P w = .ok v' w' ∧ w'.ownsRow B e sz v' (n + m) (xs ++ news) ∧ App w v w' v' := by
    by_cases hA : A = none
    · subst hA
      have hnil : news = [] := by
        cases news with
        | nil => rfl
        | cons u r => obtain ⟨_, _, he, _⟩ := hr 0 u rfl; cases he
      subst hnil
      obtain rfl : m = 0 := by
        rcases Nat.eq_zero_or_pos m with h0 | h0
        · exact h0
        · have := Nat.mul_pos h0 hpos; simp at hm; omega
      refine ⟨v, w, ?_, by simpa using hown, App.refl w v⟩
      rcases hown.2 with ⟨rfl, rfl⟩ | ⟨g, cap, cur, rfl, _, _, hnc, _⟩
      · simp [Builtin.append_, run_underlying ht, sizeOf, typeInfo, hi, Builtin.lenOf, Builtin.firstCells]
      · simp [Builtin.append_, run_underlying ht, sizeOf, typeInfo, hi, Builtin.lenOf, Builtin.firstCells, hnc, storeCells]
    · obtain ⟨ad, rfl⟩ := Option.ne_none_iff_exists'.1 hA
      have hcells : ∀ j u, news[j]? = some u → w.cell? (ad.add j) = some u := by
        intro j u hu
        obtain ⟨b, off, he, hc⟩ := hr j u hu
        injection he with he
        subst he
        rw [addr_add]; exact hc
      obtain ⟨v', w', hrun, h2, h3, _, h5⟩ := run_append_own_at (P := P) w B t o.type e i z sz bytes ht hi hz hsz hby hz1 hpos v n xs hown ad m c news hm hcells h1 h63 hbytes hbase
      exact ⟨v', w', hrun, h2, h3, h5.imp id fun h => ⟨_, h, Nat.le_refl _⟩⟩
  obtain ⟨v', w', hrun, h2, h3⟩ := key
  unfold Oper.wp execOp
  simp only [ho, resolve, invoke, builtin, Sem.run_bind, Sem.run_pure, Result.andThen_ok, List.map_toArray, List.map_cons, List.map_nil, hs, hx, hrun]
  exact h v' w' h2 h3
/-- append onto a slice of the call's own, at a plain region's operation; the new slice in its form -/
theorem wpList_appS (w : World) {ops : Array Oper} {rest : List Oper} {o : Oper} {a : Act} {Q : Exit → Act → World → Prop} (hgd : o.guard = none) (s x : Operand) (t : TypeId)
    (ho : o.op = .call { callee := .builtin .append, args := #[s, x], argTypes := #[t, t] })
    (B : Nat) (e : TypeId) (z : Value) (sz bytes : Nat) (ht : P.underlying t = some (.slice e)) (hinfo : (P.info? e).map (fun i => (i.zero, i.size, i.bytes)) = some (some z, sz, bytes)) (hz1 : z.cells.size = sz) (hpos : 0 < sz)
    (v : Value) (n : Nat) (xs : List Value) (hs : a.eval s = v) (hown : w.ownsRow B e sz v n xs)
    (A : Option Addr) (m c : Nat) (news : List Value) (hx : a.eval x = .slice A m c) (hm : news.length = m * sz) (hr : Rd w A news) (h1 : ∀ u ∈ news, u.oneCell' = true)
    (h63 : n + m ≤ maxLen) (hbytes : (n + m) * bytes ≤ 140737488355328) (hbase : B ≤ w.heap.size)
    (h : ∀ X cap w', w'.ownsRow B e sz (.slice X (n + m) cap) (n + m) (xs ++ news) → App w v w' (.slice X (n + m) cap) → wpList P ops Q rest (a.put o.dst (.slice X (n + m) cap)) w') : wpList P ops Q (o :: rest) a w :=
  wpList_plain hgd fun _ hK => wp_appS w s x t ho B e z sz bytes ht hinfo hz1 hpos v n xs hs hown A m c news hx hm hr h1 h63 hbytes hbase fun v' w' h2 h3 => hK _ _ (by
    obtain ⟨X, cap, rfl, _⟩ := own_formS h2
    exact h X cap w' h2 h3)
/-- the same at an operation of a region that draws its order -/
theorem step_appS (w : World) {ops : Array Oper} {o : Oper} {a : Act} {K : Act → World → Prop} {Q : Exit → Act → World → Prop} {E : Prop} (hgd : o.guard = none) (s x : Operand) (t : TypeId)
    (ho : o.op = .call { callee := .builtin .append, args := #[s, x], argTypes := #[t, t] })
    (B : Nat) (e : TypeId) (z : Value) (sz bytes : Nat) (ht : P.underlying t = some (.slice e)) (hinfo : (P.info? e).map (fun i => (i.zero, i.size, i.bytes)) = some (some z, sz, bytes)) (hz1 : z.cells.size = sz) (hpos : 0 < sz)
    (v : Value) (n : Nat) (xs : List Value) (hs : a.eval s = v) (hown : w.ownsRow B e sz v n xs)
    (A : Option Addr) (m c : Nat) (news : List Value) (hx : a.eval x = .slice A m c) (hm : news.length = m * sz) (hr : Rd w A news) (h1 : ∀ u ∈ news, u.oneCell' = true)
    (h63 : n + m ≤ maxLen) (hbytes : (n + m) * bytes ≤ 140737488355328) (hbase : B ≤ w.heap.size)
    (h : ∀ X cap w', w'.ownsRow B e sz (.slice X (n + m) cap) (n + m) (xs ++ news) → App w v w' (.slice X (n + m) cap) → K (a.put o.dst (.slice X (n + m) cap)) w') : if Region.wanted o (yielded ops a.tmps) = true then Oper.wp P o a w K Q else E := by
  have hw : Region.wanted o (yielded ops a.tmps) = true := by simp [Region.wanted, hgd]
  rw [if_pos hw]
  exact wp_appS w s x t ho B e z sz bytes ht hinfo hz1 hpos v n xs hs hown A m c news hx hm hr h1 h63 hbytes hbase fun v' w' h2 h3 => by
    obtain ⟨X, cap, rfl, _⟩ := own_formS h2
    exact h X cap w' h2 h3

theorem wpList_wanted {w : World} {ops : Array Oper} {rest : List Oper} {o : Oper} {a : Act} {Q : Exit → Act → World → Prop} (hw : Region.wanted o (yielded ops a.tmps) = true)
    (h : ∀ K : Act → World → Prop, (∀ a w, wpList P ops Q rest a w → K a w) → o.wp P a w K Q) : wpList P ops Q (o :: rest) a w :=
  wpList_step fun K hK => by rw [if_pos hw]; exact h K hK
/-- append at a guarded operation that runs -/
theorem wpList_appSW (w : World) {ops : Array Oper} {rest : List Oper} {o : Oper} {a : Act} {Q : Exit → Act → World → Prop} (hw : Region.wanted o (yielded ops a.tmps) = true) (s x : Operand) (t : TypeId)
    (ho : o.op = .call { callee := .builtin .append, args := #[s, x], argTypes := #[t, t] })
    (B : Nat) (e : TypeId) (z : Value) (sz bytes : Nat) (ht : P.underlying t = some (.slice e)) (hinfo : (P.info? e).map (fun i => (i.zero, i.size, i.bytes)) = some (some z, sz, bytes)) (hz1 : z.cells.size = sz) (hpos : 0 < sz)
    (v : Value) (n : Nat) (xs : List Value) (hs : a.eval s = v) (hown : w.ownsRow B e sz v n xs)
    (A : Option Addr) (m c : Nat) (news : List Value) (hx : a.eval x = .slice A m c) (hm : news.length = m * sz) (hr : Rd w A news) (h1 : ∀ u ∈ news, u.oneCell' = true)
    (h63 : n + m ≤ maxLen) (hbytes : (n + m) * bytes ≤ 140737488355328) (hbase : B ≤ w.heap.size)
    (h : ∀ X cap w', w'.ownsRow B e sz (.slice X (n + m) cap) (n + m) (xs ++ news) → App w v w' (.slice X (n + m) cap) → wpList P ops Q rest (a.put o.dst (.slice X (n + m) cap)) w') : wpList P ops Q (o :: rest) a w :=
  wpList_wanted hw fun _ hK => wp_appS w s x t ho B e z sz bytes ht hinfo hz1 hpos v n xs hs hown A m c news hx hm hr h1 h63 hbytes hbase fun v' w' h2 h3 => hK _ _ (by
    obtain ⟨X, cap, rfl, _⟩ := own_formS h2
    exact h X cap w' h2 h3)

/-! ### copy -/
/-- only the block of a slice was written, and nothing was made -/
structure Wrote (w w' : World) (v : Value) : Prop where
  os : w'.os = w.os
  tape : w'.tape = w.tape
  output : w'.output = w.output
  size : w'.heap.size = w.heap.size
  block : ∀ k, some k ≠ v.ownBlock → w'.heap[k]? = w.heap[k]?
theorem Wrote.chg {S : List Nat} (h : Wrote w w' v) (hS : ∀ b, v.ownBlock = some b → b ∈ S) : Chg S w w' :=
  ⟨h.os, h.tape, h.output, Nat.le_of_eq h.size.symm, fun k _ hn => h.block k fun he => hn (hS k he.symm)⟩

theorem run_copyO (w : World) (dT sT ty elem : TypeId) (hu : P.underlying dT = some (.slice elem)) (hsz : (P.info? elem).map (·.size) = some 1)
    (A : Option Addr) (cap : Nat) (hown : w.ownsRow B elem 1 (.slice A n cap) n xs) (off : Nat) (S : Option Addr) (m c : Nat) (news : List Value) (hm : news.length = m) (hr : Rd w S news) (h1 : ∀ u ∈ news, u.oneCell' = true) (hfit : off + m ≤ n) :
    ∃ w', (Builtin.copy_ #[dT, sT] ty #[.slice (cutA A off cap) (n - off) (cap - off), .slice S m c]).run P w = .ok (goInt m) w' ∧ w'.ownsRow B elem 1 (.slice A n cap) n (splice xs off news) ∧ Wrote w w' (.slice A n cap) := by
  by_cases h0 : m = 0
  · subst h0
    obtain rfl : news = [] := List.eq_nil_of_length_eq_zero hm
    have hrun := run_copy_none (P := P) w dT sT ty elem (cutA A off cap) S (n - off) (cap - off) 0 c hu hsz (by simp)
    refine ⟨w, hrun, ?_, ⟨rfl, rfl, rfl, rfl, fun _ _ => rfl⟩⟩
    have : splice xs off ([] : List Value) = xs := by unfold splice; simp
    rw [this]; exact hown
  · rcases hown.2 with ⟨_, hn0⟩ | ⟨g, cap', cur, he, hg, hh, hnc, hmx, hcs, hx⟩
    · omega
    · injection he with he1 _ he3
      subst he1; subst he3
      obtain ⟨bS, oS, rfl, _, hcS⟩ := Rd.cells hr (by omega)
      have hcut : cutA (some ⟨g, 0, none⟩) off cap = some ⟨g, off, none⟩ := by unfold cutA; rw [if_neg (by omega)]; simp [addr_add]
      rw [hcut]
      have hmin : news.length = Nat.min m (n - off) := by rw [hm]; exact (Nat.min_eq_left (by omega)).symm
      have hrun := run_copy_row (P := P) w dT sT ty elem g off (n - off) (cap - off) ⟨bS, oS, none⟩ m c cur elem news hu hsz hh hmin (fun j u hj => by rw [addr_add]; exact hcS j u hj) (by rw [hm, hcs]; omega) h1
      rw [hm] at hrun
      refine ⟨_, hrun, ⟨?_, .inr ⟨g, cap, _, rfl, hg, setRow_heap w g cur _ elem _ hh, hnc, hmx, ?_, ?_⟩⟩, ⟨rfl, rfl, rfl, by simp [World.setRow], fun k hk => setRow_other w g k _ fun e => hk (by simp [Value.ownBlock, e])⟩⟩
      · rw [length_splice _ _ _ (by rw [hown.1, hm]; omega), hown.1]
      · simp only [List.size_toArray, List.length_append, List.length_take, List.length_drop, Array.length_toList]; omega
      · have hxl := hown.1
        unfold splice
        rw [← hx]
        apply List.ext_getElem?
        intro j
        simp only [hm, List.append_assoc]
        have hcl : cur.toList.length = cap := by simp; omega
        have l1 : (cur.toList.take off).length = off := by simp; omega
        have l2 : ((cur.toList.take (n * 1)).take off).length = off := by simp; omega
        rw [List.getElem?_take]
        by_cases hj : j < off
        · rw [if_pos (by omega), List.getElem?_append_left (by omega), List.getElem?_append_left (by omega), List.getElem?_take, List.getElem?_take, List.getElem?_take, if_pos hj, if_pos hj, if_pos (by omega)]
        · rw [List.getElem?_append_right (by omega), l1, List.getElem?_append_right (l₁ := (cur.toList.take (n * 1)).take off) (by omega), l2]
          by_cases hj2 : j < off + m
          · rw [if_pos (by omega), List.getElem?_append_left (by omega), List.getElem?_append_left (by omega)]
          · rw [List.getElem?_append_right (by omega), List.getElem?_append_right (by omega), List.getElem?_drop, List.getElem?_drop, List.getElem?_take, show off + m + (j - off - news.length) = j by omega]
theorem wp_copyO (w : World) {o : Oper} {a : Act} {K : Act → World → Prop} {Q : Exit → Act → World → Prop} (d s : Operand) (dT sT : TypeId)
    (ho : o.op = .call { callee := .builtin .copy, args := #[d, s], argTypes := #[dT, sT] }) (elem : TypeId) (hu : P.underlying dT = some (.slice elem)) (hsz : (P.info? elem).map (·.size) = some 1)
    (B n : Nat) (A : Option Addr) (cap : Nat) (xs : List Value) (hown : w.ownsRow B elem 1 (.slice A n cap) n xs) (off : Nat) (hd : a.eval d = .slice (cutA A off cap) (n - off) (cap - off))
    (S : Option Addr) (m c : Nat) (news : List Value) (hs : a.eval s = .slice S m c) (hm : news.length = m) (hr : Rd w S news) (h1 : ∀ u ∈ news, u.oneCell' = true) (hfit : off + m ≤ n)
    (h : ∀ w', w'.ownsRow B elem 1 (.slice A n cap) n (splice xs off news) → Wrote w w' (.slice A n cap) → K (a.put o.dst (goInt m)) w') : o.wp P a w K Q := by
  obtain ⟨w', hrun, h2, h3⟩ := run_copyO (P := P) w dT sT o.type elem hu hsz A cap hown off S m c news hm hr h1 hfit
  unfold Oper.wp execOp
  simp only [ho, resolve, invoke, builtin, Sem.run_bind, Sem.run_pure, Result.andThen_ok, List.map_toArray, List.map_cons, List.map_nil, hd, hs, hrun]
  exact h w' h2 h3
theorem step_copyO (w : World) {ops : Array Oper} {o : Oper} {a : Act} {K : Act → World → Prop} {Q : Exit → Act → World → Prop} {E : Prop} (hgd : o.guard = none) (d s : Operand) (dT sT : TypeId)
    (ho : o.op = .call { callee := .builtin .copy, args := #[d, s], argTypes := #[dT, sT] }) (elem : TypeId) (hu : P.underlying dT = some (.slice elem)) (hsz : (P.info? elem).map (·.size) = some 1)
    (B n : Nat) (A : Option Addr) (cap : Nat) (xs : List Value) (hown : w.ownsRow B elem 1 (.slice A n cap) n xs) (off : Nat) (hd : a.eval d = .slice (cutA A off cap) (n - off) (cap - off))
    (S : Option Addr) (m c : Nat) (news : List Value) (hs : a.eval s = .slice S m c) (hm : news.length = m) (hr : Rd w S news) (h1 : ∀ u ∈ news, u.oneCell' = true) (hfit : off + m ≤ n)
    (h : ∀ w', w'.ownsRow B elem 1 (.slice A n cap) n (splice xs off news) → Wrote w w' (.slice A n cap) → K (a.put o.dst (goInt m)) w') : if Region.wanted o (yielded ops a.tmps) = true then Oper.wp P o a w K Q else E := by
  have hw : Region.wanted o (yielded ops a.tmps) = true := by simp [Region.wanted, hgd]
  rw [if_pos hw]
  exact wp_copyO w d s dT sT ho elem hu hsz B n A cap xs hown off hd S m c news hs hm hr h1 hfit h
end
end Go.Proofs.Ytmdpmpfjldgalaa

/- The walks of package disk: the memory of a disk, and the small methods. -/
namespace Go.Proofs.Ytmdpmpfjldgalaa
open Go.RowKit
theorem below_drew (w : World) : Below w.heap.size w w.drew := (Below.refl _ _).drew
namespace Dk

theorem info_u8 : (Try.prog.info? 5).map (fun i => (i.zero, i.size, i.bytes)) = some (some (.int .u8 0), 1, 1) := by kernel_rfl
theorem info_wr : (Try.prog.info? 79).map (fun i => (i.zero, i.size, i.bytes)) = some (some (.agg #[.int .i64 0, .slice none 0 0]), 2, 32) := by kernel_rfl
theorem size_u8 : (Try.prog.info? 5).map (·.size) = some 1 := by kernel_rfl

/-- a pending write in memory: the write, the address and the capacity of its data -/
structure Pm where
  q : Pc
  a : Option Addr
  c : Nat
def Pm.cells (m : Pm) : List Value := [.int .i64 (m.q.s : Int), .slice m.a m.q.d.length m.c]
def pcells (P : List Pm) : List Value := (P.map Pm.cells).flatten
theorem pcells_len (P : List Pm) : (pcells P).length = P.length * 2 := by
  induction P with
  | nil => rfl
  | cons m P ih =>
    show (m.cells ++ pcells P).length = _
    rw [List.length_append, ih, List.length_cons]; show 2 + _ = _; omega
theorem pcells_one (P : List Pm) : ∀ u ∈ pcells P, u.oneCell' = true := by
  intro u hu
  simp only [pcells, List.mem_flatten, List.mem_map] at hu
  obtain ⟨l, ⟨m, _, rfl⟩, hu⟩ := hu
  simp only [Pm.cells, List.mem_cons, List.not_mem_nil, or_false] at hu
  rcases hu with rfl | rfl <;> rfl
theorem pcells_get (P : List Pm) (i j : Nat) (hi : i < P.length) (hj : j < 2) : (pcells P)[i * 2 + j]? = (P[i].cells)[j]? := by
  unfold pcells
  induction P generalizing i with
  | nil => simp at hi
  | cons c cs ih =>
    rw [List.map_cons, List.flatten_cons]
    have hl : c.cells.length = 2 := rfl
    cases i with
    | zero => rw [List.getElem?_append_left (by omega)]; simp
    | succ i =>
      rw [List.getElem?_append_right (by omega), show (i + 1) * 2 + j - c.cells.length = i * 2 + j by omega, ih i (by simpa using hi)]
      rfl
theorem pcells_snoc (P : List Pm) (m : Pm) : pcells (P ++ [m]) = pcells P ++ m.cells := by
  unfold pcells; simp

/-- the data of the writes read, and lie in blocks of E -/
def PRd (w : World) (E : List Nat) (P : List Pm) : Prop := ∀ m ∈ P, RB w m.a m.q.d ∧ m.q.d.length ≤ m.c ∧ m.c ≤ maxLen ∧ ∀ b off, m.a = some ⟨b, off, none⟩ → b ∈ E
/-- block g holds a disk; it may write the blocks M, and reads the blocks E besides -/
structure IsD' (w : World) (g : Nat) (M E : List Nat) (D : St) (A : Option Addr) (ca : Nat) (X : Option Addr) (cx : Nat) (P : List Pm) : Prop where
  hd : w.heap[g]? = some (.cells #[.slice A (64 * D.n) ca, .slice X P.length cx, .int .i64 D.f, .bool D.x] 75 (0, 0))
  du : w.ownsRow 0 5 1 (.slice A (64 * D.n) ca) (64 * D.n) (D.b.map vb)
  pe : w.ownsRow 0 79 2 (.slice X P.length cx) P.length (pcells P)
  pd : D.p = P.map (·.q)
  pr : PRd w E P
  ok : D.ok
  mg : g ∈ M
  ma : ∀ b, (Value.slice A (64 * D.n) ca).ownBlock = some b → b ∈ M
  mx : ∀ b, (Value.slice X P.length cx).ownBlock = some b → b ∈ M
  me : ∀ x ∈ M, x ∉ E
  ml : ∀ x ∈ M, x < w.heap.size
  el : ∀ x ∈ E, x < w.heap.size
def IsD (w : World) (g : Nat) (M E : List Nat) (D : St) : Prop := ∃ A ca X cx P, IsD' w g M E D A ca X cx P

section
variable {w w' : World} {g : Nat} {M E S : List Nat} {D : St} {A X : Option Addr} {ca cx : Nat} {P : List Pm}
theorem PRd.chg (h : PRd w E P) (hc : Chg S w w') (hS : ∀ x ∈ S, x ∉ E) : PRd w' E P := fun m hm => by
  obtain ⟨h1, h2, h3, h4⟩ := h m hm
  exact ⟨hc.rd h1 (fun b off e hb => hS b hb (h4 b off e)), h2, h3, h4⟩
theorem IsD'.chg (h : IsD' w g M E D A ca X cx P) (hc : Chg S w w') (hM : ∀ x ∈ S, x ∉ M) (hE : ∀ x ∈ S, x ∉ E) : IsD' w' g M E D A ca X cx P := by
  refine ⟨hc.blk h.hd (fun hg => hM g hg h.mg), hc.ownS h.du (fun b hb hs => hM b hs (h.ma b hb)), hc.ownS h.pe (fun b hb hs => hM b hs (h.mx b hb)), h.pd, h.pr.chg hc hE, h.ok, h.mg, h.ma, h.mx, h.me,
    fun x hx => Nat.lt_of_lt_of_le (h.ml x hx) hc.size, fun x hx => Nat.lt_of_lt_of_le (h.el x hx) hc.size⟩
theorem IsD.chg (h : IsD w g M E D) (hc : Chg S w w') (hM : ∀ x ∈ S, x ∉ M) (hE : ∀ x ∈ S, x ∉ E) : IsD w' g M E D := by
  obtain ⟨A, ca, X, cx, P, h⟩ := h
  exact ⟨A, ca, X, cx, P, h.chg hc hM hE⟩
theorem IsD'.below (h : IsD' w g M E D A ca X cx P) (hb : Below w.heap.size w w') : IsD' w' g M E D A ca X cx P :=
  h.chg (Chg.of_below hb []) (by simp) (by simp)
theorem IsD.below (h : IsD w g M E D) (hb : Below w.heap.size w w') : IsD w' g M E D := h.chg (Chg.of_below hb []) (by simp) (by simp)
theorem IsD.ok (h : IsD w g M E D) : D.ok := by obtain ⟨_, _, _, _, _, h⟩ := h; exact h.ok
theorem IsD.mg (h : IsD w g M E D) : g ∈ M := by obtain ⟨_, _, _, _, _, h⟩ := h; exact h.mg
theorem IsD.ml (h : IsD w g M E D) : ∀ x ∈ M, x < w.heap.size := by obtain ⟨_, _, _, _, _, h⟩ := h; exact h.ml
theorem IsD.el (h : IsD w g M E D) : ∀ x ∈ E, x < w.heap.size := by obtain ⟨_, _, _, _, _, h⟩ := h; exact h.el
theorem IsD.me (h : IsD w g M E D) : ∀ x ∈ M, x ∉ E := by obtain ⟨_, _, _, _, _, h⟩ := h; exact h.me
theorem IsD'.cell0 (h : IsD' w g M E D A ca X cx P) : w.cell? ⟨g, 0, none⟩ = some (.slice A (64 * D.n) ca) := (cell_of_row _ _ 0 _ _ _ h.hd).trans rfl
theorem IsD'.cell1 (h : IsD' w g M E D A ca X cx P) : w.cell? ⟨g, 1, none⟩ = some (.slice X P.length cx) := (cell_of_row _ _ 1 _ _ _ h.hd).trans rfl
theorem IsD'.cell2 (h : IsD' w g M E D A ca X cx P) : w.cell? ⟨g, 2, none⟩ = some (.int .i64 D.f) := (cell_of_row _ _ 2 _ _ _ h.hd).trans rfl
theorem IsD'.cell3 (h : IsD' w g M E D A ca X cx P) : w.cell? ⟨g, 3, none⟩ = some (.bool D.x) := (cell_of_row _ _ 3 _ _ _ h.hd).trans rfl
theorem IsD'.frz (h : IsD' w g M E D A ca X cx P) (i : Nat) : w.frozen? ⟨g, i, none⟩ = false := frozen_of_row _ _ _ _ _ h.hd
theorem IsD'.lt (h : IsD' w g M E D A ca X cx P) : g < w.heap.size := h.ml g h.mg
/-- the head's numbers were written -/
theorem IsD'.head (h : IsD' w g M E D A ca X cx P) {f : Int} {x : Bool} (hc : Chg [g] w w') (hh : w'.heap[g]? = some (.cells #[.slice A (64 * D.n) ca, .slice X P.length cx, .int .i64 f, .bool x] 75 (0, 0))) (hf : -1 ≤ f ∧ f ≤ 9223372036854775807) :
    IsD' w' g M E { D with f := f, x := x } A ca X cx P := by
  have hne : ∀ b, (Value.slice A (64 * D.n) ca).ownBlock = some b → b ∉ [g] := own_ne (cs := [.slice A (64 * D.n) ca, .slice X P.length cx, .int .i64 D.f, .bool D.x]) h.du h.hd (by decide)
  have hne2 : ∀ b, (Value.slice X P.length cx).ownBlock = some b → b ∉ [g] := by
    intro b hb hm
    rcases h.pe.2 with ⟨e, _⟩ | ⟨g', cap, cur, e, _, hh', _⟩
    · rw [e] at hb; cases hb
    · rw [e] at hb
      simp only [List.mem_singleton] at hm
      subst hm
      have : g' = b := by simpa [Value.ownBlock] using hb
      subst this
      rw [h.hd] at hh'
      injection hh' with hh'
      injection hh' with _ ht
      exact absurd ht (by decide)
  refine ⟨hh, hc.ownS h.du hne, hc.ownS h.pe hne2, h.pd, h.pr.chg hc (fun x hx => by simp only [List.mem_singleton] at hx; subst hx; exact h.me x h.mg), ⟨h.ok.n1, h.ok.n2, h.ok.b, h.ok.p, hf.1, hf.2⟩, h.mg, h.ma, h.mx, h.me,
    fun x hx => Nat.lt_of_lt_of_le (h.ml x hx) hc.size, fun x hx => Nat.lt_of_lt_of_le (h.el x hx) hc.size⟩
end

/-- what a call that writes the disk leaves -/
def DkP (w : World) (g : Nat) (M E : List Nat) (D' : St) (w' : World) : Prop :=
  ∃ M' E', IsD w' g M' E' D' ∧ Chg M w w' ∧ (∀ x ∈ M', x ∈ M ∨ w.heap.size ≤ x) ∧ ∀ x ∈ E', x ∈ E ∨ w.heap.size ≤ x
theorem DkP.refl {w : World} {g : Nat} {M E : List Nat} {D : St} (h : IsD w g M E D) : DkP w g M E D w := ⟨M, E, h, Chg.refl _ _, fun _ h => .inl h, fun _ h => .inl h⟩

theorem sectors_calls (g : Nat) (M E : List Nat) (D : St) (w : World) (h : IsD w g M E D) : Calls Try.prog 38 #[.pointer (some ⟨g, 0, none⟩)] w fun e w' => e = .returned (.int .i64 (D.n : Int)) ∧ w = w' := by
  obtain ⟨A, ca, X, cx, P, h⟩ := h
  have c0 := h.cell0
  have hq : ((64 * D.n : Nat) : Int) / 64 = (D.n : Int) := by omega
  have hn := h.ok.n2
  have HQ := Lib.hid hq
  have HP : Hid (∀ z : Int, z = (D.n : Int) → (Ending.returned (.int .i64 z) = .returned (.int .i64 (D.n : Int)))) := by rintro z rfl; rfl
  clear h hq
  go_enter Try.func38, Try.ntmps38
  go_wp2_with fail
  go_ret
  exact ⟨HP.out _ (by omega), rfl⟩
theorem pending_calls (g : Nat) (M E : List Nat) (D : St) (w : World) (h : IsD w g M E D) : Calls Try.prog 39 #[.pointer (some ⟨g, 0, none⟩)] w fun e w' => e = .returned (.int .i64 (D.p.length : Int)) ∧ w = w' := by
  obtain ⟨A, ca, X, cx, P, h⟩ := h
  have c1 := h.cell1
  have HP : Hid (P.length = D.p.length) := by show _ = _; rw [h.pd]; simp
  rw [← HP.out]
  clear h
  go_enter Try.func39, Try.ntmps39
  go_wp2_with fail
  go_ret
  exact ⟨rfl, rfl⟩
theorem failed_calls (g : Nat) (M E : List Nat) (D : St) (w : World) (h : IsD w g M E D) : Calls Try.prog 45 #[.pointer (some ⟨g, 0, none⟩)] w fun e w' => e = .returned (.bool D.x) ∧ w = w' := by
  obtain ⟨A, ca, X, cx, P, h⟩ := h
  have c3 := h.cell3
  clear h
  go_enter Try.func45, Try.ntmps45
  go_wp2_with fail
  go_ret
  exact ⟨rfl, rfl⟩
theorem failAfter_calls (g : Nat) (M E : List Nat) (D : St) (n : Int) (w : World) (h : IsD w g M E D) (hn : n ≤ 9223372036854775807) :
    Calls Try.prog 26 #[.pointer (some ⟨g, 0, none⟩), .int .i64 n] w fun e w' => e = .returned (.tuple #[]) ∧ IsD w' g M E (failD D n) ∧ Chg [g] w w' := by
  obtain ⟨A, ca, X, cx, P, h⟩ := h
  have c2 := h.cell2
  have f2 := h.frz 2
  have hc : Chg [g] w (w.setCell ⟨g, 2, none⟩ (.int .i64 (max n (-1)))) := (Chg.refl [g] w).setCell (p := ⟨g, 2, none⟩) (.inl (by simp)) _
  have HF : Hid (IsD (w.setCell ⟨g, 2, none⟩ (.int .i64 (max n (-1)))) g M E (failD D n)) :=
    ⟨A, ca, X, cx, P, h.head hc (heap_setCell_same _ _ _ _ _ _ h.hd) ⟨by omega, by omega⟩⟩
  have HC := Lib.hid hc
  clear h hc
  go_enter Try.func26, Try.ntmps26
  go_wp2_with fail
  go_end0
  exact ⟨rfl, HF.out, HC.out⟩

theorem inside_calls (g : Nat) (M E : List Nat) (D : St) (s k : Int) (w : World) (h : IsD w g M E D) (hs : -9223372036854775808 ≤ s) (hs2 : s ≤ 9223372036854775807) : Calls Try.prog 40 #[.pointer (some ⟨g, 0, none⟩), .int .i64 s, .int .i64 k] w fun e w' => e = .returned (.bool (inB D.n s k)) ∧ w = w' := by
  have HS := Lib.hid (sectors_calls g M E D w h)
  have hn := h.ok.n2
  have HQ : Hid (∀ b, b = inB D.n s k → Ending.returned (.bool b) = .returned (.bool (inB D.n s k))) := by rintro b rfl; rfl
  generalize hb : inB D.n s k = r at *
  have HB := Lib.hid hb
  unfold inB at hb
  clear h
  by_cases h1 : 0 ≤ s
  · have d1 : decide (0 ≤ s) = true := by simpa using h1
    by_cases h2 : 0 ≤ k
    · have d2 : decide (0 ≤ k) = true := by simpa using h2
      by_cases h3 : s ≤ D.n
      · have d3 : decide (s ≤ (D.n : Int)) = true := by simpa using h3
        rw [d1, d2, d3] at hb
        have HB2 := Lib.hid hb
        clear hb
        go_enter Try.func40, Try.ntmps40
        go_wp2_with (go_at_call 38; refine HS.out.mono ?_; rintro e w' ⟨rfl, rfl⟩)
        go_ret
        exact ⟨HQ.out _ (by rw [← HB2.out]; simp), rfl⟩
      · have d3 : decide (s ≤ (D.n : Int)) = false := by simpa using h3
        rw [d1, d2, d3] at hb
        have HB2 := Lib.hid hb
        clear hb
        go_enter Try.func40, Try.ntmps40
        go_wp2_with (go_at_call 38; refine HS.out.mono ?_; rintro e w' ⟨rfl, rfl⟩)
        go_ret
        exact ⟨HQ.out _ (by rw [← HB2.out]; simp), rfl⟩
    · have d2 : decide (0 ≤ k) = false := by simpa using h2
      rw [d1, d2] at hb
      have HB2 := Lib.hid hb
      clear hb
      go_enter Try.func40, Try.ntmps40
      go_wp2_with fail
      go_ret
      exact ⟨HQ.out _ (by rw [← HB2.out]; simp), rfl⟩
  · have d1 : decide (0 ≤ s) = false := by simpa using h1
    rw [d1] at hb
    have HB2 := Lib.hid hb
    clear hb
    go_enter Try.func40, Try.ntmps40
    go_wp2_with fail
    go_ret
    exact ⟨HQ.out _ (by rw [← HB2.out]; simp), rfl⟩

/-- what burn leaves -/
def burnD (D : St) : St := if D.f = 0 then { D with x := true } else { D with f := burnF D.f }
set_option maxHeartbeats 400000 in
theorem burn_calls (g : Nat) (M E : List Nat) (D : St) (w : World) (h : IsD w g M E D) :
    Calls Try.prog 41 #[.pointer (some ⟨g, 0, none⟩)] w fun e w' => e = .returned (.bool (!decide (D.f = 0))) ∧ IsD w' g M E (burnD D) ∧ Chg [g] w w' := by
  obtain ⟨A, ca, X, cx, P, h⟩ := h
  have c2 := h.cell2
  have f2 := h.frz 2
  have f3 := h.frz 3
  have c3 := h.cell3
  have hf1 := h.ok.f1
  have hf2 := h.ok.f2
  have HI := Lib.hid h
  by_cases h0 : D.f = 0
  · have HD : Hid (burnD D = { D with f := D.f, x := true }) := by show _ = _; unfold burnD; rw [if_pos h0]
    have hc : Chg [g] w (w.setCell ⟨g, 3, none⟩ (.bool true)) := (Chg.refl [g] w).setCell (p := ⟨g, 3, none⟩) (.inl (by simp)) _
    have HF : Hid (IsD (w.setCell ⟨g, 3, none⟩ (.bool true)) g M E (burnD D)) := by
      rw [HD.out]; exact ⟨A, ca, X, cx, P, h.head hc (heap_setCell_same _ _ _ _ _ _ h.hd) ⟨hf1, hf2⟩⟩
    have HC := Lib.hid hc
    have q0 : (D.f == 0) = true := by simpa using h0
    have HE : Hid ((!decide (D.f = 0)) = false) := by show _ = _; rw [decide_eq_true h0]; rfl
    rw [HE.out]
    clear h hc h0
    go_enter Try.func41, Try.ntmps41
    go_wp2_with fail
    go_ret
    exact ⟨rfl, HF.out, HC.out⟩
  · have q0 : (D.f == 0) = false := by simpa using h0
    have HE : Hid ((!decide (D.f = 0)) = true) := by show _ = _; rw [decide_eq_false h0]; rfl
    rw [HE.out]
    by_cases hp : 0 < D.f
    · have HD : Hid (burnD D = { D with f := D.f - 1, x := D.x }) := by show _ = _; unfold burnD burnF; rw [if_neg h0, if_pos hp]
      have hc : Chg [g] w (w.setCell ⟨g, 2, none⟩ (.int .i64 (D.f - 1))) := (Chg.refl [g] w).setCell (p := ⟨g, 2, none⟩) (.inl (by simp)) _
      have HF : Hid (IsD (w.setCell ⟨g, 2, none⟩ (.int .i64 (D.f - 1))) g M E (burnD D)) := by
        rw [HD.out]; exact ⟨A, ca, X, cx, P, h.head hc (heap_setCell_same _ _ _ _ _ _ h.hd) ⟨by omega, by omega⟩⟩
      have HC := Lib.hid hc
      have d1 : decide (0 < D.f) = true := by simpa using hp
      clear h hc h0
      go_enter Try.func41, Try.ntmps41
      go_wp2_with fail
      go_ret
      exact ⟨rfl, HF.out, HC.out⟩
    · have HD : Hid (burnD D = D) := by show _ = _; unfold burnD burnF; rw [if_neg h0, if_neg hp]
      have d1 : decide (0 < D.f) = false := by simpa using hp
      rw [HD.out]
      clear h h0
      go_enter Try.func41, Try.ntmps41
      go_wp2_with fail
      go_ret
      exact ⟨rfl, ⟨A, ca, X, cx, P, HI.out⟩, Chg.refl _ _⟩
end Dk
end Go.Proofs.Ytmdpmpfjldgalaa

/- The walks of slices.Clone at bytes and at writes, and of write.apply. -/
namespace Go.Proofs.Ytmdpmpfjldgalaa
open Go.RowKit
namespace Dk

theorem nil_of_none {w : World} {vs : List Value} (h : Rd w none vs) : vs = [] := by
  cases vs with
  | nil => rfl
  | cons x l => obtain ⟨_, _, e, _⟩ := h 0 x rfl; cases e

/-- a new slice of bytes -/
def NewL (w : World) (l : List UInt8) (e : Ending) (w' : World) : Prop :=
  ∃ X c, e = .returned (.slice X l.length c) ∧ w'.ownsRow w.heap.size 5 1 (.slice X l.length c) l.length (l.map vb) ∧ Below w.heap.size w w'

set_option maxRecDepth 100000 in
set_option maxHeartbeats 1000000 in
theorem cloneB_calls (A : Option Addr) (n c : Nat) (l : List UInt8) (w : World) (hn : l.length = n) (hr : RB w A l) (hm : n ≤ 100000000) :
    Calls Try.prog 42 #[.slice A n c] w (NewL w l) := by
  subst hn
  have HR := Lib.hid hr
  cases A with
  | none =>
    have hl : l = [] := by have := nil_of_none hr; simpa using this
    subst hl
    have hq := fun w' => Lib.run_eql_slice_nil (P := Try.prog) w' 29 5 none 0 c 0 0 Try.underlying29
    clear hr
    go_enter Try.func42, Try.ntmps42
    go_wp2_with fail
    go_ret
    exact ⟨none, 0, rfl, ⟨rfl, .inl ⟨rfl, rfl⟩⟩, Below.refl _ _⟩
  | some a =>
    have hq := fun n w' => Lib.run_eql_slice_nil (P := Try.prog) w' 29 5 (some a) n c 0 0 Try.underlying29
    obtain ⟨n, HN⟩ : ∃ n, Hid (l.length = n) := ⟨_, rfl⟩
    rw [HN.out] at hm
    have HE : Hid (∀ X cX w5, w5.ownsRow w.heap.size 5 1 (.slice X n cX) n (l.map vb) → Below w.heap.size w w5 → NewL w l (.returned (.slice X n cX)) w5) := by
      intro X cX w5 h1 h2; rw [← HN.out] at h1 ⊢; exact ⟨X, cX, rfl, h1, h2⟩
    rw [HN.out]
    clear hr
    go_enter Try.func42, Try.ntmps42
    go_wp2_with (at_builtin; refine wpList_apps _ rfl (.tmp 5) (.tmp 6) 29 rfl w.heap.size 5 (.int .u8 0) 1 Try.underlying29 info_u8 rfl (.slice (some ⟨w.heap.size, 0, none⟩) 0 0) 0 [] rfl (own_empty _ _ _ _ rfl (Nat.le_refl _)) (some a) n c (l.map vb) rfl (by simp; exact HN.out) (Rd.alloc HR.out _) (vb_one _) (by simp only [maxLen]; omega) (by omega) (by simp) ?_; intro X cX w5 hown5 happ5; have HO5 := Lib.hid hown5; have HP5 := Lib.hid happ5; clear hown5 happ5)
    go_ret
    have hb5 : Below w.heap.size w w5 := (below1 w _).trans (HP5.out.below (own_empty w.heap.size _ _ _ rfl (Nat.le_refl _)) (by simp))
    have := HO5.out
    rw [Nat.zero_add, List.nil_append] at this
    have hx := HE.out X cX w5 this hb5
    simpa using hx

end Dk
end Go.Proofs.Ytmdpmpfjldgalaa

/- The walk of write.apply. -/
namespace Go.Proofs.Ytmdpmpfjldgalaa
open Go.RowKit
namespace Dk

theorem map_splice (b : List UInt8) (i : Nat) (x : List UInt8) : Go.splice (b.map vb) i (x.map vb) = (splice b i x).map vb := by
  unfold Go.splice splice; simp

/-- what apply leaves -/
def ApP (w : World) (B : Nat) (A : Option Addr) (ca N : Nat) (l : List UInt8) (e : Ending) (w' : World) : Prop :=
  e = .returned (.tuple #[]) ∧ w'.ownsRow B 5 1 (.slice A N ca) N (l.map vb) ∧ ∀ S : List Nat, (∀ b, (Value.slice A N ca).ownBlock = some b → b ∈ S) → Chg S w w'

set_option maxRecDepth 100000 in
set_option maxHeartbeats 1000000 in
theorem apply_calls (B n : Nat) (A : Option Addr) (ca : Nat) (l : List UInt8) (m : Pm) (z : Int) (w : World) (ho : w.ownsRow B 5 1 (.slice A (64 * n) ca) (64 * n) (l.map vb)) (hn : n ≤ 65536)
    (hok : m.q.ok n) (hr : RB w m.a m.q.d) (hmc : m.q.d.length ≤ m.c) :
    Calls Try.prog 60 #[.agg #[.int .i64 (m.q.s : Int), .slice m.a m.q.d.length m.c], .slice A (64 * n) ca, .int .i64 z] w (ApP w B A ca (64 * n) (ap l m.q (clamp z m.q.k))) := by
  obtain ⟨_, _, e1, hnc, hcm, hlen, _⟩ := own_form ho
  cases e1
  have hll : l.length = 64 * n := by simpa using hlen
  unfold maxLen at hcm
  obtain ⟨hd1, hd2⟩ := hok
  have hkc := clamp_le z m.q.k
  have hcc := clamp_cast z m.q.k
  have HAP : Hid (ap l m.q (clamp z m.q.k) = splice l (64 * m.q.s) (m.q.d.take (64 * clamp z m.q.k))) := rfl
  have HAL : Hid ((m.q.d.take (64 * clamp z m.q.k)).length = 64 * clamp z m.q.k) := by show _ = _; rw [List.length_take]; omega
  generalize clamp z m.q.k = c at *
  generalize m.q.k = kk at *
  obtain ⟨⟨s, d⟩, a, mc⟩ := m
  simp only at *
  obtain ⟨dl, HDL⟩ : ∃ x, Hid (d.length = x) := ⟨_, rfl⟩
  rw [HDL.out] at hd1 hmc
  rw [HDL.out]
  obtain ⟨so, hso⟩ : ∃ so : Nat, so = 64 * s := ⟨_, rfl⟩
  obtain ⟨co, hco⟩ : ∃ co : Nat, co = 64 * c := ⟨_, rfl⟩
  rw [← hso, ← hco] at HAP
  rw [← hco] at HAL
  obtain ⟨N, hN⟩ : ∃ N : Nat, N = 64 * n := ⟨_, rfl⟩
  rw [← hN] at ho hnc hlen hll ⊢
  have he : min (max z 0) ((dl : Int) / 64) = (c : Int) := by omega
  have w1 : IntKind.i64.wrap ((s : Int) * 64) = (so : Int) := by rw [IntKind.wrap_i64]; omega
  have w2 : IntKind.i64.wrap ((c : Int) * 64) = (co : Int) := by rw [IntKind.wrap_i64]; omega
  have hsoN : so + co ≤ N := by omega
  have hcd : co ≤ dl := by omega
  have hdl : dl ≤ 4194304 := by omega
  have hN9 : N ≤ 4194304 := by omega
  have HO := Lib.hid ho
  have HR := Lib.hid hr
  have HLL := Lib.hid hll
  clear hso hco hN hd1 hd2 hcc hkc ho hr hlen hll
  have hcut1 : ∀ w', (Instr.slice 29 (.slice A N ca) (some (.int .i64 (so : Int))) none none).run Try.prog w' = .ok (.slice (cutA A so ca) (N - so) (ca - so)) w' := fun w' => run_cut_l Try.underlying29 (by kernel_rfl) size_u8 A N ca so (by omega) w'
  have hcut2 : ∀ w', (Instr.slice 29 (.slice a dl mc) none (some (.int .i64 (co : Int))) none).run Try.prog w' = .ok (.slice (cutA a 0 mc) co mc) w' := fun w' => run_cut_h Try.underlying29 (by kernel_rfl) a dl mc co (by omega) size_u8 w'
  rw [cutA_zero] at hcut2
  go_enter Try.func60, Try.ntmps60
  go_wp2_with fail
  have hk1 := heap_alloc_new w (.cells #[.int .i64 (s : Int), .slice a dl mc] 79)
  have hb1 := below1 w (.cells #[.int .i64 (s : Int), .slice a dl mc] 79)
  generalize w.alloc (.cells #[.int .i64 (s : Int), .slice a dl mc] 79) = wa at *
  have hs1 : w.heap.size < wa.heap.size := (Array.getElem?_eq_some_iff.1 hk1).1
  have x0 : wa.cell? ⟨w.heap.size, 0, none⟩ = some (.int .i64 (s : Int)) := (cell_of_row _ _ 0 _ _ _ hk1).trans rfl
  have x1 : wa.cell? ⟨w.heap.size, 1, none⟩ = some (.slice a dl mc) := (cell_of_row _ _ 1 _ _ _ hk1).trans rfl
  have HB1 := Lib.hid hb1
  have HO1 := Lib.hid (own_below HO.out hb1)
  have HR1 := Lib.hid (RB.below HR.out hb1)
  clear hk1 hb1
  obtain ⟨T, HT⟩ : ∃ T, Hid (T = (Value.slice A N ca).ownBlock.toList) := ⟨_, rfl⟩
  have hT : w.heap.size ∉ T := by
    rw [HT.out]; simp only [Option.mem_toList]; intro h; have := (World.ownsRow.lt HO.out _ h).2; omega
  have HT2 : Hid (∀ b, (Value.slice A N ca).ownBlock = some b → b ∈ T) := by intro b hb; rw [HT.out]; simpa using hb
  have y0 : ∀ w', Chg T wa w' → w'.cell? ⟨w.heap.size, 0, none⟩ = some (.int .i64 (s : Int)) := fun w' h => (World.cell?_of_block (a := ⟨w.heap.size, 0, none⟩) (h.block _ hs1 hT)).trans x0
  have y1 : ∀ w', Chg T wa w' → w'.cell? ⟨w.heap.size, 1, none⟩ = some (.slice a dl mc) := fun w' h => (World.cell?_of_block (a := ⟨w.heap.size, 1, none⟩) (h.block _ hs1 hT)).trans x1
  clear he
  go_region_held3 (fun w' => Chg T wa w') (first | exact (Chg.refl _ _).drew | exact Chg.refl _ _ | assumption) ((refine step_copyO _ (by rfl) _ _ 29 29 (by rfl) 5 Try.underlying29 size_u8 B N A ca (l.map vb) (own_below HO1.out (below_drew _)) so (by rfl) a co mc ((d.take co).map vb) (by rfl) (by rw [List.length_map]; exact HAL.out) (RB.take HR1.out co) (vb_one _) (by omega) ?_; intro wc hoc hwc; have hcc : Chg T wa wc := (Chg.refl T wa).drew.trans' (hwc.chg HT2.out)))
  have HOC := Lib.hid hoc
  have HCC := Lib.hid hcc
  have HWC := Lib.hid hwc
  clear hoc hcc hwc y0 y1
  go_wp2_with fail
  go_end0
  refine ⟨rfl, ?_, fun S hS => ((Chg.of_below HB1.out S).trans' (Chg.of_below (below_drew wa) S)).trans' (HWC.out.chg hS)⟩
  have := HOC.out
  rw [map_splice] at this
  rw [HAP.out]; exact this
end Dk
end Go.Proofs.Ytmdpmpfjldgalaa

/- The walk of Disk.Read. -/
namespace Go.Proofs.Ytmdpmpfjldgalaa
open Go.RowKit
namespace Dk

theorem setB_stepP (b : List UInt8) (P : List Pm) (c : Nat → Pc → Nat) (k : Nat) (h : k < P.length) : setB b (P.map (·.q)) c (k + 1) = ap (setB b (P.map (·.q)) c k) P[k].q (c k P[k].q) := by
  rw [setB_step _ _ _ _ (by simpa using h)]; simp
/-- a write of the list, in memory -/
theorem pe_cells {w : World} {X : Option Addr} {cx : Nat} {P : List Pm} (h : w.ownsRow 0 79 2 (.slice X P.length cx) P.length (pcells P)) (k : Nat) (hk : k < P.length) :
    ∃ b, X = some ⟨b, 0, none⟩ ∧ w.cell? ⟨b, k * 2, none⟩ = some (.int .i64 (P[k].q.s : Int)) ∧ w.cell? ⟨b, k * 2 + 1, none⟩ = some (.slice P[k].a P[k].q.d.length P[k].c) := by
  obtain ⟨_, _, e, _, _, _, hr⟩ := own_formS h
  cases e
  rcases h.2 with ⟨_, h0⟩ | ⟨g, cap, cur, e, _, hh, _⟩
  · omega
  · cases e
    refine ⟨g, rfl, ?_, ?_⟩
    · obtain ⟨_, _, e, hc⟩ := hr (k * 2) _ (pcells_get P k 0 hk (by omega))
      cases e; simpa using hc
    · obtain ⟨_, _, e, hc⟩ := hr (k * 2 + 1) _ (pcells_get P k 1 hk (by omega))
      cases e; simpa using hc

/-- what Read leaves -/
def ReadP (D : St) (s k : Int) (w : World) (e : Ending) (w' : World) : Prop :=
  ∃ X n c, e = .returned (.tuple #[.slice X n c, .int .i64 (readE D s k)]) ∧ n = (readL D s k).length ∧ w'.ownsRow w.heap.size 5 1 (.slice X n c) n ((readL D s k).map vb) ∧ Below w.heap.size w w'

set_option maxRecDepth 100000 in
set_option maxHeartbeats 2000000 in
theorem read_calls (g : Nat) (M E : List Nat) (D : St) (s k : Int) (w : World) (h : IsD w g M E D) (hs : -9223372036854775808 ≤ s) (hs2 : s ≤ 9223372036854775807) :
    Calls Try.prog 37 #[.pointer (some ⟨g, 0, none⟩), .int .i64 s, .int .i64 k] w (ReadP D s k w) := by
  have HIN := Lib.hid (inside_calls g M E D s k w h hs hs2)
  obtain ⟨A, ca, X, cx, P, h⟩ := h
  have c0 := h.cell0
  have c1 := h.cell1
  have c3 := h.cell3
  have HI := Lib.hid h
  cases hx : D.x with
  | true =>
    have HF : Hid (ReadP D s k w (.returned (.tuple #[.slice none 0 0, .int .i64 10])) w) := by
      have e1 : readE D s k = 10 := by unfold readE; rw [hx]; rfl
      have e2 : readL D s k = [] := by unfold readL; rw [hx]; rfl
      unfold Hid ReadP
      rw [e1, e2]
      exact ⟨none, 0, 0, rfl, rfl, ⟨rfl, .inl ⟨rfl, rfl⟩⟩, Below.refl _ _⟩
    rw [hx] at c3
    clear h hx
    go_enter Try.func37, Try.ntmps37
    go_wp2_with fail
    go_ret2
    exact HF.out
  | false =>
    rw [hx] at c3
    have HX := Lib.hid hx
    clear hx
    cases hi : inB D.n s k with
    | false =>
      have HF : Hid (ReadP D s k w (.returned (.tuple #[.slice none 0 0, .int .i64 2])) w) := by
        have e1 : readE D s k = 2 := by unfold readE; rw [HX.out, hi]; rfl
        have e2 : readL D s k = [] := by unfold readL; rw [HX.out, hi]; rfl
        unfold Hid ReadP
        rw [e1, e2]
        exact ⟨none, 0, 0, rfl, rfl, ⟨rfl, .inl ⟨rfl, rfl⟩⟩, Below.refl _ _⟩
      rw [hi] at HIN
      clear h hi
      go_enter Try.func37, Try.ntmps37
      go_wp2_with (go_at_call 40; refine HIN.out.mono ?_; rintro e w' ⟨rfl, rfl⟩)
      go_ret2
      exact HF.out
    | true =>
      obtain ⟨b1, b2, b3, b4⟩ := inB_of hi
      rw [hi] at HIN
      have hE : Hid (readE D s k = 0 ∧ readL D s k = (D.all.drop (64 * s.toNat)).take (64 * k.toNat)) := by
        constructor
        · unfold readE; rw [HX.out, hi]; rfl
        · unfold readL; rw [HX.out, hi]; rfl
      have hal := h.ok.all
      have hdb := h.ok.b
      have hn := h.ok.n2
      have hp := h.ok.p
      have HAL := Lib.hid hal
      have HP := Lib.hid hp
      obtain ⟨_, _, e1, hnc, hcm, _, hrd⟩ := own_form h.du
      cases e1
      have HPP : Hid (D.all = setB D.b (P.map (·.q)) cAll P.length) := by show _ = _; unfold St.all; rw [h.pd]; simp
      have HCL := Lib.hid (cloneB_calls A (64 * D.n) ca D.b w hdb hrd (by omega))
      obtain ⟨si, rfl⟩ : ∃ si : Nat, s = si := ⟨s.toNat, by omega⟩
      obtain ⟨ki, rfl⟩ : ∃ ki : Nat, k = ki := ⟨k.toNat, by omega⟩
      have HBL := Lib.hid hdb
      have HPD := Lib.hid h.pd
      obtain ⟨_, _, e1, _, hcxm, _, _⟩ := own_formS h.pe
      cases e1
      have hPl : P.length ≤ cx := by have := h.pe; obtain ⟨_, _, e1, h1, _, _, _⟩ := own_formS this; cases e1; exact h1
      unfold maxLen at hcxm hcm
      clear h hi hdb hp hal hrd
      go_enter Try.func37, Try.ntmps37
      go_wp2_with (go_at_call 40; refine HIN.out.mono ?_; rintro e w' ⟨rfl, rfl⟩)
      refine HCL.out.mono ?_
      rintro e w1 ⟨Y, cy, rfl, ho1, hb1⟩
      rw [HBL.out] at ho1 ⊢
      obtain ⟨N, hN⟩ : ∃ N, N = 64 * D.n := ⟨_, rfl⟩
      have HI1 := Lib.hid (HI.out.below hb1)
      have HO1 : Hid (w1.ownsRow w.heap.size 5 1 (.slice Y (64 * D.n) cy) (64 * D.n) ((setB D.b (P.map (·.q)) cAll 0).map vb)) := ho1
      have HB1 := Lib.hid hb1
      have c11 := HI1.out.cell1
      clear ho1 hb1 hN c0 c1 c3 HIN HCL
      go_wp2_with fail
      obtain ⟨pl, HPL⟩ : ∃ x, Hid (P.length = x) := ⟨_, rfl⟩
      rw [HPL.out] at hPl ⊢
      clear c11
      go_loopw [32] (fun i wr => ∃ j : Nat, j ≤ pl ∧ i = .int .i64 j ∧ wr.ownsRow w.heap.size 5 1 (.slice Y (64 * D.n) cy) (64 * D.n) ((setB D.b (P.map (·.q)) cAll j).map vb) ∧ Below w.heap.size w wr) (fun i _ => pl - (intOf i).toNat)
      case atStart => exact ⟨0, Nat.zero_le _, rfl, HO1.out, HB1.out⟩
      case round =>
        obtain ⟨j, hj, rfl, hor, hbr⟩ := hrel
        have HO := Lib.hid hor
        have HB := Lib.hid hbr
        have HIr := Lib.hid (HI.out.below hbr)
        clear hor hbr
        have j0 : (0 : Int) ≤ (j : Int) := by omega
        by_cases hlt : j < pl
        · have j1 : (j : Int) < (pl : Int) := by omega
          have hjP : j < P.length := by have := HPL.out; omega
          have HST := Lib.hid (setB_stepP D.b P cAll j hjP)
          obtain ⟨bb, rfl, x0, x1⟩ := pe_cells HIr.out.pe j hjP
          obtain ⟨r1, r2, _, _⟩ := HIr.out.pr P[j] (List.getElem_mem hjP)
          have hqo : P[j].q.ok D.n := HP.out _ (by rw [HPD.out]; exact List.mem_map.2 ⟨_, List.getElem_mem hjP, rfl⟩)
          obtain ⟨m, HM⟩ : ∃ x, Hid (P[j] = x) := ⟨P[j], rfl⟩
          rw [HM.out] at HST x0 x1 r1 r2 hqo
          have HAP : ∀ w', Below wr.heap.size wr w' → Hid (Calls Try.prog 60 #[.agg #[.int .i64 (m.q.s : Int), .slice m.a m.q.d.length m.c], .slice Y (64 * D.n) cy, .int .i64 (m.q.k : Int)] w' (ApP w' w.heap.size Y cy (64 * D.n) (ap (setB D.b (P.map (·.q)) cAll j) m.q (clamp (m.q.k : Int) m.q.k)))) := fun w' hb =>
            Lib.hid (apply_calls w.heap.size D.n Y cy _ m (m.q.k : Int) w' (own_below HO.out hb) hn hqo (RB.below r1 hb) r2)
          rw [clamp_self] at HAP
          have hq : (m.q.d.length : Int) / 64 = (m.q.k : Int) := by have := hqo.1; omega
          have hql : m.q.d.length ≤ 4194304 := by have := hqo.1; have := hqo.2; omega
          have HOK := Lib.hid hqo
          obtain ⟨b, HBB⟩ : ∃ x, Hid (setB D.b (P.map (·.q)) cAll j = x) := ⟨_, rfl⟩
          rw [HBB.out] at HAP HST HO
          have HST2 : Hid (setB D.b (P.map (·.q)) cAll (j + 1) = ap b m.q m.q.k) := HST.out
          clear hqo r1 r2 HST
          generalize m.q.k = kk at *
          generalize m.q.d.length = dl at *
          generalize m.q.s = ms at *
          generalize m.a = ma at *
          generalize m.c = mc at *
          go_wp2_with fail
          refine (HAP _ (below1 _ _)).out.mono ?_
          rintro e w9 ⟨rfl, ho9, hc9⟩
          have HO9 : Hid (w9.ownsRow w.heap.size 5 1 (.slice Y (64 * D.n) cy) (64 * D.n) ((setB D.b (P.map (·.q)) cAll (j + 1)).map vb)) := by rw [HST2.out]; exact ho9
          have hb9 : Below w.heap.size w w9 := by
            have h1 := (Chg.of_below (below1 wr (.cells #[.int .i64 (ms : Int), .slice ma dl mc] 79)) (Value.slice Y (64 * D.n) cy).ownBlock.toList).trans' (hc9 _ (fun b hb => by simpa using hb))
            exact HB.out.trans (h1.below HB.out.size (fun x hx => (World.ownsRow.lt HO.out x (by simpa using hx)).1))
          have HB9 := Lib.hid hb9
          clear ho9 hc9 hb9 HAP hq x0 x1 HST2 HO
          go_wp2_with fail
          go_roundw
          case rel => exact ⟨j + 1, by omega, by go_num, HO9.out, HB9.out⟩
          case measure => simp [intOf]; omega
        · have HJ : Hid (j = P.length) := by show _ = _; have := HPL.out; omega
          rw [HJ.out, ← HPP.out] at HO
          obtain ⟨_, _, e1, hny, hcy, _, hrY⟩ := own_form HO.out
          cases e1
          unfold maxLen at hcy
          obtain ⟨lo, hlo⟩ : ∃ lo : Nat, lo = 64 * si := ⟨_, rfl⟩
          obtain ⟨hi, hhi⟩ : ∃ hi : Nat, hi = 64 * (si + ki) := ⟨_, rfl⟩
          have el : (si : Int) * 64 = (lo : Int) := by omega
          have eh : ((si : Int) + (ki : Int)) * 64 = (hi : Int) := by omega
          have hlh : lo ≤ hi := by omega
          have hhN : hi ≤ 64 * D.n := by omega
          have hcut : ∀ w', (Instr.slice 29 (.slice Y (64 * D.n) cy) (some (.int .i64 (lo : Int))) (some (.int .i64 (hi : Int))) none).run Try.prog w' = .ok (.slice (cutA Y lo cy) (hi - lo) (cy - lo)) w' := fun w' => run_cut_lh Try.underlying29 (by kernel_rfl) size_u8 Y (64 * D.n) cy lo hi hlh (by omega) w'
          have HLL : Hid (readL D si ki = (D.all.drop lo).take (hi - lo)) := by
            rw [hE.out.2]; show _ = _; rw [hlo, hhi]; congr 1
            · omega
          have hl2 : ((D.all.drop lo).take (hi - lo)).length = hi - lo := by have := HAL.out; rw [List.length_take, List.length_drop]; omega
          have HCL := Lib.hid (cloneB_calls (cutA Y lo cy) (hi - lo) (cy - lo) ((D.all.drop lo).take (hi - lo)) wr hl2 (RB.take (RB.cut hrY lo cy (by have := HAL.out; omega)) _) (by omega))
          have HL2 := Lib.hid hl2
          have HRE := Lib.hid hE.out.1
          clear hl2 hlo hhi hrY
          generalize hi - lo = len at *
          go_wp2_with fail
          refine HCL.out.mono ?_
          rintro e w9 ⟨Z, cz, rfl, ho9, hb9⟩
          have HF : Hid (ReadP D si ki w (.returned (.tuple #[.slice Z len cz, .int .i64 0])) w9) := by
            unfold Hid ReadP
            rw [HRE.out, HLL.out]
            rw [HL2.out] at ho9
            exact ⟨Z, len, cz, rfl, HL2.out.symm, own_base ho9 HB.out.size, HB.out.trans (hb9.mono HB.out.size)⟩
          rw [HL2.out]
          clear ho9 hb9 el eh
          go_wp2_with fail
          go_ret2
          exact HF.out
end Dk
end Go.Proofs.Ytmdpmpfjldgalaa
