/- A mailbox: what the operations answer. Plain mathematics. No program in sight. -/
import Derived.Test.YtddoepaplbnlcaaMbC
namespace Go.Proofs.Ytddoepaplbnlcaa
namespace Mb

def validID (a b : Int) : Bool := decide (1 ≤ a ∧ a ≤ 8 ∧ 1 ≤ b ∧ b ≤ 1099511627775)
def good (h : Int) : Bool := decide (1 ≤ h ∧ h ≤ 4294967296)
def valid (m : Msg) : Bool := validID m.a1 m.a2 && validID m.i1 m.i2 && decide (1 ≤ m.me.size ∧ m.me.size ≤ 31) && decide (m.ar.length ≤ 9) && m.ar.all good
def sameId (x m : Msg) : Bool := decide (x.i1 = m.i1 ∧ x.i2 = m.i2)
def putE (l : List Msg) (m : Msg) : Int := if valid m = false then 1 else if l.any (fun x => sameId x m) = true then 5 else if 1024 ≤ l.length then 8 else 0
def putL (l : List Msg) (m : Msg) : List Msg := if putE l m = 0 then ins l m else l
/-- a box in order -/
structure Inv (l : List Msg) : Prop where
  s : l.Pairwise Lt
  u : l.Pairwise fun x y => ¬ (x.i1 = y.i1 ∧ x.i2 = y.i2)
  v : ∀ x ∈ l, valid x = true
  n : l.length ≤ 1024
theorem inv_nil : Inv [] := ⟨.nil, .nil, by simp, by simp⟩
theorem putE_zero {l : List Msg} {m : Msg} (h : putE l m = 0) : valid m = true ∧ (∀ x ∈ l, ¬ (x.i1 = m.i1 ∧ x.i2 = m.i2)) ∧ l.length < 1024 := by
  unfold putE at h
  split at h
  · cases h
  · rename_i h1
    split at h
    · cases h
    · rename_i h2
      split at h
      · cases h
      · rename_i h3
        refine ⟨by simpa using h1, fun x hx hxe => h2 ?_, by omega⟩
        rw [List.any_eq_true]
        exact ⟨x, hx, by simpa [sameId] using hxe⟩
theorem Inv.put {l : List Msg} (h : Inv l) (m : Msg) : Inv (putL l m) := by
  unfold putL
  split
  · rename_i h0
    obtain ⟨h1, h2, h3⟩ := putE_zero h0
    refine ⟨ins_sorted h.s (fun x hx he => h2 x hx ⟨he.2.2.1, he.2.2.2⟩), ?_, fun x hx => ?_, by rw [ins_length]; omega⟩
    · have h0 := h.u
      rw [← List.take_append_drop (pos l m) l, List.pairwise_append] at h0
      obtain ⟨k1, k2, k3⟩ := h0
      unfold ins
      refine List.pairwise_append.2 ⟨k1, List.pairwise_cons.2 ⟨fun y hy he => h2 y (List.mem_of_mem_drop hy) ⟨he.1.symm, he.2.symm⟩, k2⟩, fun x hx y hy => ?_⟩
      rcases List.mem_cons.1 hy with rfl | hy
      · exact h2 x (List.mem_of_mem_take hx)
      · exact k3 x hx y hy
    · rcases mem_ins.1 hx with rfl | hx
      · exact h1
      · exact h.v x hx
  · exact h
theorem Inv.sub {l l' : List Msg} (h : Inv l) (hs : l'.Sublist l) : Inv l' :=
  ⟨h.s.sublist hs, h.u.sublist hs, fun x hx => h.v x (hs.subset hx), Nat.le_trans hs.length_le h.n⟩

/-- a key -/
def key (a1 a2 i1 i2 : Int) : Msg := ⟨a1, a2, i1, i2, .empty, []⟩
/-- the first with this key -/
def find (l : List Msg) (k : Msg) : Option Nat := l.findIdx? fun x => decide (Eq4 x k)
theorem find_some {l : List Msg} {k : Msg} {i : Nat} (h : find l k = some i) : ∃ hi : i < l.length, Eq4 l[i] k := by
  unfold find at h
  obtain ⟨h1, h2, _⟩ := List.findIdx?_eq_some_iff_getElem.1 h
  exact ⟨h1, by simpa using h2⟩
theorem find_none {l : List Msg} {k : Msg} (h : find l k = none) : ∀ x ∈ l, ¬ Eq4 x k := by
  unfold find at h
  intro x hx
  have := List.findIdx?_eq_none_iff.1 h x hx
  simpa using this
/-- what a search in order finds -/
theorem find_pos {l : List Msg} (h : Inv l) (k : Msg) : find l k = if hp : pos l k < l.length then (if cmpM l[pos l k] k = 0 then some (pos l k) else none) else none := by
  cases hf : find l k with
  | some i =>
    obtain ⟨hi, he⟩ := find_some hf
    have hp := pos_found h.s hi he
    subst hp
    rw [dif_pos hi, if_pos ((cmpM_zero _ _).2 he)]
  | none =>
    have hn := find_none hf
    split
    · rename_i hp
      rw [if_neg (fun hc => hn _ (List.getElem_mem hp) ((cmpM_zero _ _).1 hc))]
    · rfl
def takeL (l : List Msg) (k : Msg) : List Msg := match find l k with
  | none => l
  | some i => l.take i ++ l.drop (i + 1)
theorem take_sub (l : List Msg) (i : Nat) : (l.take i ++ l.drop (i + 1)).Sublist l := by
  have h : (l.take i ++ l.drop i).Sublist l := by rw [List.take_append_drop]; exact List.Sublist.refl _
  refine List.Sublist.trans (List.Sublist.append (List.Sublist.refl _) ?_) h
  rw [show l.drop (i + 1) = (l.drop i).drop 1 by rw [List.drop_drop]]
  exact List.drop_sublist 1 _
theorem Inv.take {l : List Msg} (h : Inv l) (k : Msg) : Inv (takeL l k) := by
  unfold takeL
  split
  · exact h
  · exact h.sub (take_sub l _)
def isA (a1 a2 : Int) (x : Msg) : Bool := decide (x.a1 = a1 ∧ x.a2 = a2)
def ofL (l : List Msg) (a1 a2 : Int) : List (Int × Int) := (l.filter (isA a1 a2)).map fun x => (x.i1, x.i2)
def restL (l : List Msg) (a1 a2 : Int) : List Msg := l.filter fun x => !isA a1 a2 x
theorem Inv.rest {l : List Msg} (h : Inv l) (a1 a2 : Int) : Inv (restL l a1 a2) := h.sub List.filter_sublist
/-- the actors: neighbours that are alike once -/
def dedup : List (Int × Int) → List (Int × Int)
  | [] => []
  | [x] => [x]
  | x :: y :: l => if x = y then dedup (y :: l) else x :: dedup (y :: l)
def actorsL (l : List Msg) : List (Int × Int) := dedup (l.map fun x => (x.a1, x.a2))
end Mb
end Go.Proofs.Ytddoepaplbnlcaa
