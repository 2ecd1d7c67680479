/- A mailbox: plain mathematics. No program in sight. -/
import Derived.Test.YtddoepaplbnlcaaMem
namespace Go.Proofs.Ytddoepaplbnlcaa
namespace Mb

/-- a message -/
structure Msg where
  a1 : Int
  a2 : Int
  i1 : Int
  i2 : Int
  me : ByteArray
  ar : List Int

def cmpI (a b : Int) : Int := if a < b then -1 else if b < a then 1 else 0
def orI (a b : Int) : Int := if a = 0 then b else a
def cmpID (a1 a2 b1 b2 : Int) : Int := orI (cmpI a1 b1) (cmpI a2 b2)
def cmpM (x y : Msg) : Int := orI (cmpID x.a1 x.a2 y.a1 y.a2) (cmpID x.i1 x.i2 y.i1 y.i2)
theorem cmpI_cases (a b : Int) : (a < b ∧ cmpI a b = -1) ∨ (a = b ∧ cmpI a b = 0) ∨ (b < a ∧ cmpI a b = 1) := by
  unfold cmpI
  rcases Int.lt_trichotomy a b with h | h | h
  · exact .inl ⟨h, by rw [if_pos h]⟩
  · exact .inr (.inl ⟨h, by rw [if_neg (by omega), if_neg (by omega)]⟩)
  · exact .inr (.inr ⟨h, by rw [if_neg (by omega), if_pos h]⟩)
theorem cmpID_cases (a1 a2 b1 b2 : Int) : ((a1 < b1 ∨ a1 = b1 ∧ a2 < b2) ∧ cmpID a1 a2 b1 b2 = -1) ∨ ((a1 = b1 ∧ a2 = b2) ∧ cmpID a1 a2 b1 b2 = 0) ∨ ((b1 < a1 ∨ a1 = b1 ∧ b2 < a2) ∧ cmpID a1 a2 b1 b2 = 1) := by
  unfold cmpID orI
  rcases cmpI_cases a1 b1 with ⟨h, e⟩ | ⟨h, e⟩ | ⟨h, e⟩
  · rw [e]; exact .inl ⟨.inl h, rfl⟩
  · rw [e, if_pos rfl]
    rcases cmpI_cases a2 b2 with ⟨h2, e2⟩ | ⟨h2, e2⟩ | ⟨h2, e2⟩
    · exact .inl ⟨.inr ⟨h, h2⟩, e2⟩
    · exact .inr (.inl ⟨⟨h, h2⟩, e2⟩)
    · exact .inr (.inr ⟨.inr ⟨h, h2⟩, e2⟩)
  · rw [e]; exact .inr (.inr ⟨.inl h, rfl⟩)
/-- a message comes before another one -/
def Lt (x y : Msg) : Prop := (x.a1 < y.a1 ∨ x.a1 = y.a1 ∧ x.a2 < y.a2) ∨ (x.a1 = y.a1 ∧ x.a2 = y.a2) ∧ (x.i1 < y.i1 ∨ x.i1 = y.i1 ∧ x.i2 < y.i2)
def Eq4 (x y : Msg) : Prop := x.a1 = y.a1 ∧ x.a2 = y.a2 ∧ x.i1 = y.i1 ∧ x.i2 = y.i2
instance (x y : Msg) : Decidable (Lt x y) := by unfold Lt; infer_instance
instance (x y : Msg) : Decidable (Eq4 x y) := by unfold Eq4; infer_instance
theorem cmpM_cases (x y : Msg) : (Lt x y ∧ cmpM x y = -1) ∨ (Eq4 x y ∧ cmpM x y = 0) ∨ (Lt y x ∧ cmpM x y = 1) := by
  unfold cmpM orI Lt Eq4
  rcases cmpID_cases x.a1 x.a2 y.a1 y.a2 with ⟨h, e⟩ | ⟨h, e⟩ | ⟨h, e⟩
  · rw [e]; exact .inl ⟨.inl h, rfl⟩
  · rw [e, if_pos rfl]
    rcases cmpID_cases x.i1 x.i2 y.i1 y.i2 with ⟨h2, e2⟩ | ⟨h2, e2⟩ | ⟨h2, e2⟩
    · exact .inl ⟨.inr ⟨h, h2⟩, e2⟩
    · exact .inr (.inl ⟨⟨h.1, h.2, h2.1, h2.2⟩, e2⟩)
    · exact .inr (.inr ⟨.inr ⟨by omega, by omega⟩, e2⟩)
  · rw [e]; exact .inr (.inr ⟨.inl (by omega), rfl⟩)
theorem Lt.trans {x y z : Msg} (h : Lt x y) (k : Lt y z) : Lt x z := by unfold Lt at *; omega
theorem Lt.irrefl (x : Msg) : ¬ Lt x x := by unfold Lt; omega
theorem Lt.asymm {x y : Msg} (h : Lt x y) : ¬ Lt y x := by unfold Lt at *; omega
theorem Lt.ne {x y : Msg} (h : Lt x y) : ¬ Eq4 x y := by unfold Lt Eq4 at *; omega
theorem Eq4.lt_l {x y z : Msg} (h : Eq4 x y) : Lt x z ↔ Lt y z := by unfold Eq4 Lt at *; omega
theorem Eq4.lt_r {x y z : Msg} (h : Eq4 x y) : Lt z x ↔ Lt z y := by unfold Eq4 Lt at *; omega
theorem Eq4.symm {x y : Msg} (h : Eq4 x y) : Eq4 y x := by unfold Eq4 at *; omega
theorem lt_or (x y : Msg) : Lt x y ∨ Eq4 x y ∨ Lt y x := by
  rcases cmpM_cases x y with ⟨h, _⟩ | ⟨h, _⟩ | ⟨h, _⟩
  · exact .inl h
  · exact .inr (.inl h)
  · exact .inr (.inr h)
theorem cmpM_lt (x y : Msg) : cmpM x y < 0 ↔ Lt x y := by
  rcases cmpM_cases x y with ⟨h, e⟩ | ⟨h, e⟩ | ⟨h, e⟩
  · rw [e]; exact ⟨fun _ => h, fun _ => by omega⟩
  · rw [e]; exact ⟨fun h => by omega, fun k => absurd h k.ne⟩
  · rw [e]; exact ⟨fun h => by omega, fun k => absurd h k.asymm⟩
theorem cmpM_zero (x y : Msg) : cmpM x y = 0 ↔ Eq4 x y := by
  rcases cmpM_cases x y with ⟨h, e⟩ | ⟨h, e⟩ | ⟨h, e⟩
  · rw [e]; exact ⟨fun h => by omega, fun k => absurd k h.ne⟩
  · rw [e]; exact ⟨fun _ => h, fun _ => rfl⟩
  · rw [e]; exact ⟨fun h => by omega, fun k => absurd k.symm h.ne⟩

/-- the number of messages at the head that come before m -/
def pos : List Msg → Msg → Nat
  | [], _ => 0
  | x :: l, m => if Lt x m then pos l m + 1 else 0
theorem pos_le (l : List Msg) (m : Msg) : pos l m ≤ l.length := by
  induction l with
  | nil => exact Nat.le_refl _
  | cons x l ih => unfold pos; split <;> simp <;> omega
theorem pos_below {l : List Msg} {m : Msg} {t : Nat} (h : t < pos l m) : ∃ (ht : t < l.length), Lt l[t] m := by
  induction l generalizing t with
  | nil => cases h
  | cons x l ih =>
    unfold pos at h
    split at h
    · rename_i hx
      cases t with
      | zero => exact ⟨by simp, hx⟩
      | succ t =>
        obtain ⟨h1, h2⟩ := ih (t := t) (by omega)
        exact ⟨by simp; omega, h2⟩
    · cases h
theorem pos_above {l : List Msg} (hs : l.Pairwise Lt) {m : Msg} {t : Nat} (h : pos l m ≤ t) (ht : t < l.length) : ¬ Lt l[t] m := by
  induction l generalizing t with
  | nil => simp at ht
  | cons x l ih =>
    obtain ⟨h1, h2⟩ := List.pairwise_cons.1 hs
    unfold pos at h
    split at h
    · rename_i hx
      cases t with
      | zero => omega
      | succ t => exact ih h2 (by omega) (by simpa using ht)
    · rename_i hx
      cases t with
      | zero => exact hx
      | succ t =>
        intro hlt
        exact hx ((h1 _ (List.getElem_mem (by simpa using ht))).trans hlt)
/-- put in its place -/
def ins (l : List Msg) (m : Msg) : List Msg := l.take (pos l m) ++ m :: l.drop (pos l m)
theorem ins_length (l : List Msg) (m : Msg) : (ins l m).length = l.length + 1 := by
  have := pos_le l m
  unfold ins; simp; omega
theorem mem_ins {l : List Msg} {m x : Msg} : x ∈ ins l m ↔ x = m ∨ x ∈ l := by
  unfold ins
  constructor
  · intro h
    rcases List.mem_append.1 h with h | h
    · exact .inr (List.mem_of_mem_take h)
    · rcases List.mem_cons.1 h with h | h
      · exact .inl h
      · exact .inr (List.mem_of_mem_drop h)
  · rintro (rfl | h)
    · simp
    · rw [← List.take_append_drop (pos l m) l] at h
      rcases List.mem_append.1 h with h | h
      · exact List.mem_append_left _ h
      · exact List.mem_append_right _ (List.mem_cons_of_mem _ h)
theorem ins_sorted {l : List Msg} {m : Msg} (hs : l.Pairwise Lt) (hne : ∀ x ∈ l, ¬ Eq4 x m) : (ins l m).Pairwise Lt := by
  unfold ins
  have h0 := hs
  rw [← List.take_append_drop (pos l m) l, List.pairwise_append] at h0
  obtain ⟨h1, h2, h3⟩ := h0
  have hlo : ∀ x ∈ l.take (pos l m), Lt x m := fun x hx => by
    obtain ⟨i, hi, rfl⟩ := List.mem_iff_getElem.1 hx
    rw [List.length_take] at hi
    obtain ⟨_, h⟩ := pos_below (l := l) (m := m) (t := i) (by omega)
    rw [List.getElem_take]
    exact h
  have hhi : ∀ x ∈ l.drop (pos l m), Lt m x := fun x hx => by
    obtain ⟨i, hi, rfl⟩ := List.mem_iff_getElem.1 hx
    rw [List.length_drop] at hi
    rw [List.getElem_drop]
    have h := pos_above hs (m := m) (t := pos l m + i) (by omega) (by omega)
    rcases lt_or l[pos l m + i] m with h1 | h1 | h1
    · exact absurd h1 h
    · exact absurd h1 (hne _ (List.getElem_mem _))
    · exact h1
  refine List.pairwise_append.2 ⟨h1, List.pairwise_cons.2 ⟨hhi, h2⟩, fun x hx y hy => ?_⟩
  rcases List.mem_cons.1 hy with rfl | hy
  · exact hlo x hx
  · exact h3 x hx y hy
/-- the place of a key is where it is found -/
theorem pos_found {l : List Msg} (hs : l.Pairwise Lt) {m : Msg} {i : Nat} (hi : i < l.length) (he : Eq4 l[i] m) : pos l m = i := by
  rcases Nat.lt_trichotomy (pos l m) i with h | h | h
  · have h1 := pos_above hs (m := m) (Nat.le_refl (pos l m)) (by omega)
    have h2 := List.pairwise_iff_getElem.1 hs (pos l m) i (by omega) hi h
    exact absurd (he.lt_r.1 h2) h1
  · exact h
  · obtain ⟨_, h1⟩ := pos_below h
    exact absurd he h1.ne
end Mb
end Go.Proofs.Ytddoepaplbnlcaa
