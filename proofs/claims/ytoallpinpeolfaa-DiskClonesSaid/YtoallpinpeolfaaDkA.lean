/- A disk as plain data. No program in sight. -/
import Derived.WalkKit
namespace Go.Proofs.Ytoallpinpeolfaa
namespace Dk

/-- a pending write -/
structure Pc where
  s : Nat
  d : List UInt8
/-- a disk: the sectors, the durable bytes, the pending writes, the fuse, whether it failed -/
structure St where
  n : Nat
  b : List UInt8
  p : List Pc
  f : Int
  x : Bool

def Pc.k (q : Pc) : Nat := q.d.length / 64
def Pc.ok (n : Nat) (q : Pc) : Prop := q.d.length = 64 * q.k ∧ q.s + q.k ≤ n
structure St.ok (D : St) : Prop where
  n1 : 1 ≤ D.n
  n2 : D.n ≤ 65536
  b : D.b.length = 64 * D.n
  p : ∀ q ∈ D.p, q.ok D.n
  f1 : -1 ≤ D.f
  f2 : D.f ≤ 9223372036854775807

/-- b with the bytes x from place i on -/
def splice (b : List UInt8) (i : Nat) (x : List UInt8) : List UInt8 := b.take i ++ (x ++ b.drop (i + x.length))
theorem splice_len (b : List UInt8) (i : Nat) (x : List UInt8) (h : i + x.length ≤ b.length) : (splice b i x).length = b.length := by
  unfold splice; simp only [List.length_append, List.length_take, List.length_drop]; omega
theorem splice_nil (b : List UInt8) (i : Nat) : splice b i [] = b := by
  unfold splice; simp
theorem splice_get (b : List UInt8) (i : Nat) (x : List UInt8) (h : i + x.length ≤ b.length) (j : Nat) :
    (splice b i x)[j]? = if i ≤ j ∧ j < i + x.length then x[j - i]? else b[j]? := by
  have hl : (b.take i).length = i := by simp; omega
  unfold splice
  by_cases h1 : j < i
  · rw [if_neg (by omega), List.getElem?_append_left (by omega), List.getElem?_take, if_pos h1]
  · rw [List.getElem?_append_right (by omega), hl]
    by_cases h2 : j < i + x.length
    · rw [if_pos ⟨by omega, h2⟩, List.getElem?_append_left (by omega)]
    · rw [if_neg (by omega), List.getElem?_append_right (by omega), List.getElem?_drop]
      congr 1; omega
/-- one byte more -/
theorem splice_set (b : List UInt8) (i : Nat) (x : List UInt8) (j : Nat) (hj : j < x.length) (h : i + x.length ≤ b.length) :
    (splice b i (x.take j)).set (i + j) x[j] = splice b i (x.take (j + 1)) := by
  apply List.ext_getElem?
  intro q
  have h1 : (x.take j).length = j := by simp; omega
  have h2 : (x.take (j + 1)).length = j + 1 := by simp; omega
  have hl := splice_len b i (x.take j) (by omega)
  rw [List.getElem?_set, splice_get _ _ _ (by omega), splice_get _ _ _ (by omega), h1, h2, hl]
  by_cases hq : i + j = q
  · subst hq
    rw [if_pos rfl, if_pos (by omega), if_pos (by omega), show i + j - i = j by omega, List.getElem?_take, if_pos (by omega), List.getElem?_eq_getElem hj]
  · rw [if_neg hq]
    by_cases hr : i ≤ q ∧ q < i + j
    · rw [if_pos hr, if_pos (by omega), List.getElem?_take, List.getElem?_take, if_pos (by omega), if_pos (by omega)]
    · rw [if_neg hr, if_neg (by omega)]

/-- the first k sectors of a write are applied -/
def ap (b : List UInt8) (q : Pc) (k : Nat) : List UInt8 := splice b (64 * q.s) (q.d.take (64 * k))
theorem ap_len (n : Nat) (b : List UInt8) (q : Pc) (k : Nat) (hb : b.length = 64 * n) (hq : q.ok n) : (ap b q k).length = 64 * n := by
  obtain ⟨h1, h2⟩ := hq
  unfold ap
  rw [splice_len _ _ _ (by rw [List.length_take]; omega), hb]
/-- the writes are applied in order, of each as many sectors as c says -/
def setB (b : List UInt8) (p : List Pc) (c : Nat → Pc → Nat) : Nat → List UInt8
  | 0 => b
  | k + 1 => match p[k]? with
    | none => setB b p c k
    | some q => ap (setB b p c k) q (c k q)
theorem setB_step (b : List UInt8) (p : List Pc) (c : Nat → Pc → Nat) (k : Nat) (h : k < p.length) : setB b p c (k + 1) = ap (setB b p c k) p[k] (c k p[k]) := by
  show (match p[k]? with | none => setB b p c k | some q => ap (setB b p c k) q (c k q)) = _
  rw [List.getElem?_eq_getElem h]
theorem setB_len (n : Nat) (b : List UInt8) (p : List Pc) (c : Nat → Pc → Nat) (k : Nat) (hb : b.length = 64 * n) (hp : ∀ q ∈ p, q.ok n) : (setB b p c k).length = 64 * n := by
  induction k with
  | zero => exact hb
  | succ k ih =>
    by_cases h : k < p.length
    · rw [setB_step _ _ _ _ h]; exact ap_len n _ _ _ ih (hp _ (List.getElem_mem h))
    · show (match p[k]? with | none => setB b p c k | some q => ap (setB b p c k) q (c k q)).length = _
      rw [List.getElem?_eq_none (by omega)]; exact ih
theorem setB_congr (b : List UInt8) (p : List Pc) (c c' : Nat → Pc → Nat) (k : Nat) (h : ∀ i (hi : i < p.length), c i p[i] = c' i p[i]) : setB b p c k = setB b p c' k := by
  induction k with
  | zero => rfl
  | succ k ih =>
    by_cases hk : k < p.length
    · rw [setB_step _ _ _ _ hk, setB_step _ _ _ _ hk, ih, h k hk]
    · show (match p[k]? with | none => setB b p c k | some q => ap (setB b p c k) q (c k q)) = (match p[k]? with | none => setB b p c' k | some q => ap (setB b p c' k) q (c' k q))
      rw [List.getElem?_eq_none (by omega)]; exact ih

/-- all sectors -/
def cAll (_ : Nat) (q : Pc) : Nat := q.k
/-- as many sectors as a number says -/
def clamp (z : Int) (k : Nat) : Nat := (min (max z 0) (k : Int)).toNat
theorem clamp_cast (z : Int) (k : Nat) : (clamp z k : Int) = min (max z 0) (k : Int) := by unfold clamp; omega
theorem clamp_cast' (z : Int) (k : Nat) : (clamp z k : Int) = max 0 (min z (k : Int)) := by unfold clamp; omega
theorem clamp_le (z : Int) (k : Nat) : clamp z k ≤ k := by unfold clamp; omega
theorem clamp_self (k : Nat) : clamp (k : Int) k = k := by unfold clamp; omega
/-- what a crash lets survive -/
def zSv (sv : List Int) (i : Nat) : Int := match sv[i]? with | none => 0 | some z => z
def cSv (sv : List Int) (i : Nat) (q : Pc) : Nat := clamp (zSv sv i) q.k
theorem zSv_lt (sv : List Int) (i : Nat) (h : i < sv.length) : zSv sv i = sv[i] := by unfold zSv; rw [List.getElem?_eq_getElem h]
theorem zSv_ge (sv : List Int) (i : Nat) (h : sv.length ≤ i) : zSv sv i = 0 := by unfold zSv; rw [List.getElem?_eq_none h]

def St.all (D : St) : List UInt8 := setB D.b D.p cAll D.p.length
theorem St.ok.all {D : St} (h : D.ok) : D.all.length = 64 * D.n := setB_len _ _ _ _ _ h.b h.p

def inB (n : Nat) (s k : Int) : Bool := decide (0 ≤ s) && decide (0 ≤ k) && decide (s ≤ n) && decide (k ≤ n - s)
theorem inB_of {n : Nat} {s k : Int} (h : inB n s k = true) : 0 ≤ s ∧ 0 ≤ k ∧ s ≤ n ∧ k ≤ n - s := by
  unfold inB at h
  simp only [Bool.and_eq_true, decide_eq_true_eq] at h
  obtain ⟨⟨⟨h1, h2⟩, h3⟩, h4⟩ := h
  exact ⟨h1, h2, h3, h4⟩
def burnF (f : Int) : Int := if 0 < f then f - 1 else f
/-- the error of Write -/
def writeE (D : St) (s : Int) (l : List UInt8) : Int :=
  if D.x then 10 else if l.length % 64 ≠ 0 then 1 else if inB D.n s (l.length / 64 : Nat) = false then 2 else if D.f = 0 then 10 else 0
def writeD (D : St) (s : Int) (l : List UInt8) : St :=
  if D.x then D else if l.length % 64 ≠ 0 then D else if inB D.n s (l.length / 64 : Nat) = false then D else if D.f = 0 then { D with x := true }
    else { D with f := burnF D.f, p := D.p ++ [⟨s.toNat, l⟩] }
def syncE (D : St) : Int := if D.x then 10 else if D.f = 0 then 10 else 0
def syncD (D : St) : St := if D.x then D else if D.f = 0 then { D with x := true } else { D with f := burnF D.f, b := D.all, p := [] }
def crashD (D : St) (sv : List Int) : St := { D with b := setB D.b D.p (cSv sv) D.p.length, p := [], f := -1, x := false }
def failD (D : St) (n : Int) : St := { D with f := max n (-1) }
def readE (D : St) (s k : Int) : Int := if D.x then 10 else if inB D.n s k = false then 2 else 0
def readL (D : St) (s k : Int) : List UInt8 := if D.x then [] else if inB D.n s k = false then [] else (D.all.drop (64 * s.toNat)).take (64 * k.toNat)
def newD (n : Nat) : St := ⟨n, List.replicate (64 * n) 0, [], -1, false⟩

theorem newD_ok (n : Nat) (h1 : 1 ≤ n) (h2 : n ≤ 65536) : (newD n).ok := ⟨h1, h2, by simp [newD], by simp [newD], by simp [newD], by simp [newD]⟩
theorem burnF_fits {f : Int} (h1 : -1 ≤ f) (h2 : f ≤ 9223372036854775807) : -1 ≤ burnF f ∧ burnF f ≤ 9223372036854775807 := by
  unfold burnF; split <;> omega
theorem writeD_ok (D : St) (s : Int) (l : List UInt8) (h : D.ok) : (writeD D s l).ok := by
  unfold writeD
  by_cases h1 : D.x = true
  · rw [if_pos h1]; exact h
  · rw [if_neg h1]
    by_cases h2 : l.length % 64 ≠ 0
    · rw [if_pos h2]; exact h
    · rw [if_neg h2]
      cases h3 : inB D.n s (l.length / 64 : Nat)
      · rw [if_pos rfl]; exact h
      · rw [if_neg (by simp)]
        by_cases h4 : D.f = 0
        · rw [if_pos h4]; exact ⟨h.n1, h.n2, h.b, h.p, h.f1, h.f2⟩
        · rw [if_neg h4]
          have hb := inB_of h3
          have hf := burnF_fits h.f1 h.f2
          refine ⟨h.n1, h.n2, h.b, fun q hq => ?_, hf.1, hf.2⟩
          rcases List.mem_append.1 hq with hq | hq
          · exact h.p q hq
          · simp only [List.mem_singleton] at hq
            subst hq
            refine ⟨?_, ?_⟩
            · show l.length = 64 * (l.length / 64); omega
            · show s.toNat + l.length / 64 ≤ D.n; omega
theorem syncD_ok (D : St) (h : D.ok) : (syncD D).ok := by
  unfold syncD
  by_cases h1 : D.x = true
  · rw [if_pos h1]; exact h
  · rw [if_neg h1]
    by_cases h4 : D.f = 0
    · rw [if_pos h4]; exact ⟨h.n1, h.n2, h.b, h.p, h.f1, h.f2⟩
    · rw [if_neg h4]
      have hf := burnF_fits h.f1 h.f2
      exact ⟨h.n1, h.n2, h.all, by simp, hf.1, hf.2⟩
theorem crashD_ok (D : St) (sv : List Int) (h : D.ok) : (crashD D sv).ok :=
  ⟨h.n1, h.n2, setB_len _ _ _ _ _ h.b h.p, by simp [crashD], by simp [crashD], by simp [crashD]⟩
theorem failD_ok (D : St) (n : Int) (h : D.ok) (hn : n ≤ 9223372036854775807) : (failD D n).ok :=
  ⟨h.n1, h.n2, h.b, h.p, by show -1 ≤ max n (-1); omega, by show max n (-1) ≤ _; omega⟩
theorem readL_len (D : St) (s k : Int) (h : D.ok) (hx : D.x = false) (hi : inB D.n s k = true) : (readL D s k).length = 64 * k.toNat := by
  have hb := inB_of hi
  have := h.all
  unfold readL
  rw [hx, hi]
  simp only [Bool.false_eq_true, if_false]
  rw [if_neg (by simp), List.length_take, List.length_drop]; omega
end Dk
end Go.Proofs.Ytoallpinpeolfaa
