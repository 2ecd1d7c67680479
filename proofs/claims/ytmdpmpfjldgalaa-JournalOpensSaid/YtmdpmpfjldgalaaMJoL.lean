/- The walk of the law JournalOpens. -/
import Derived.Test.YtmdpmpfjldgalaaMJoG
namespace Go.Proofs.Ytmdpmpfjldgalaa
open Go.RowKit
namespace Jn
open Dk Wi Wr

section
variable {P : Program} {w : World} {B n : Nat} {xs : List Value}
theorem run_copyM (w : World) (dT sT ty elem : TypeId) (hu : P.underlying dT = some (.slice elem)) (hsz : (P.info? elem).map (·.size) = some 1)
    (A : Option Addr) (cap : Nat) (hpos : 0 < n) (hown : w.ownsRow B elem 1 (.slice A n cap) n xs) (S : Option Addr) (m c : Nat) (news : List Value) (hm : news.length = m) (hr : Rd w S news) (h1 : ∀ u ∈ news, u.oneCell' = true) :
    ∃ w' k, (Builtin.copy_ #[dT, sT] ty #[.slice A n cap, .slice S m c]).run P w = .ok (goInt k) w' ∧ w'.ownsRow B elem 1 (.slice A n cap) n (Go.splice xs 0 (news.take n)) ∧ Wrote w w' (.slice A n cap) := by
  by_cases hle : m ≤ n
  · obtain ⟨w', h2, h3, h4⟩ := run_copyO (P := P) w dT sT ty elem hu hsz A cap hown 0 S m c news hm hr h1 (by omega)
    rw [cutA_zero, Nat.sub_zero, Nat.sub_zero] at h2
    rw [List.take_of_length_le (by omega)]
    exact ⟨w', m, h2, h3, h4⟩
  · rcases hown.2 with ⟨_, hn0⟩ | ⟨g, cap', cur, he, hg, hh, hnc, hmx, hcs, hx⟩
    · omega
    · injection he with he1 _ he3
      subst he1; subst he3
      obtain ⟨bS, oS, rfl, _, hcS⟩ := Rd.cells hr (by omega)
      have hl : (news.take n).length = n := by rw [List.length_take]; omega
      have hmin : (news.take n).length = Nat.min m n := by rw [hl]; exact (Nat.min_eq_right (by omega)).symm
      have hrun := run_copy_row (P := P) w dT sT ty elem g 0 n cap ⟨bS, oS, none⟩ m c cur elem (news.take n) hu hsz hh hmin (fun j u hj => by
        rw [addr_add]
        refine hcS j u ?_
        rw [List.getElem?_take] at hj
        split at hj
        · exact hj
        · cases hj) (by rw [hl, hcs]; omega) (fun v hv => h1 v (List.mem_of_mem_take hv))
      refine ⟨_, _, hrun, ⟨?_, .inr ⟨g, cap, _, rfl, hg, setRow_heap w g cur _ elem _ hh, hnc, hmx, ?_, ?_⟩⟩, ⟨rfl, rfl, rfl, by simp [World.setRow], fun k hk => setRow_other w g k _ fun e => hk (by simp [Value.ownBlock, e])⟩⟩
      · rw [length_splice _ _ _ (by rw [hown.1, hl]; omega), hown.1]
      · simp only [List.size_toArray, List.length_append, List.length_take, List.length_drop, Array.length_toList]; omega
      · have hxl := hown.1
        unfold Go.splice
        rw [hl, List.take_zero, List.take_zero, List.nil_append, List.nil_append, (show xs.drop (0 + n) = [] from List.drop_eq_nil_of_le (by omega)), List.append_nil, List.take_append_of_le_length (by simp; omega), List.take_of_length_le (by simp; omega)]
end

/-- a disk with contents -/
def setD (n : Nat) (B : List UInt8) : St := { newD n with b := B }
theorem setD_of (n : Nat) (B : List UInt8) (hB : B.length = 64 * n) : writeE (newD n) 0 B = 0 ∧ syncE (writeD (newD n) 0 B) = 0 ∧ syncD (writeD (newD n) 0 B) = setD n B := by
  have h := wr2_good (newD n) 0 B rfl rfl rfl (by omega) (by show 0 + B.length / 64 ≤ n; omega)
  unfold wr2 at h
  rw [show ((0 : Nat) : Int) = 0 from rfl] at h
  by_cases h1 : writeE (newD n) 0 B = 0
  · rw [if_neg (by simp [h1])] at h
    injection h with e1 e2
    refine ⟨h1, by simpa using e2, ?_⟩
    rw [e1]
    unfold setD newD
    congr 1
    unfold Dk.splice
    simp only [Nat.mul_zero, List.take_zero, List.nil_append, Nat.zero_add]
    rw [List.drop_eq_nil_of_le (by simp; omega), List.append_nil]
  · rw [if_pos h1] at h
    injection h with e1 e2
    cases e2
theorem setD_ok (n : Nat) (B : List UInt8) (h1 : 1 ≤ n) (h2 : n ≤ 65536) (hB : B.length = 64 * n) : (setD n B).ok := ⟨h1, h2, hB, by simp [setD, newD], by simp [setD, newD], by simp [setD, newD]⟩
theorem setD_calm (n : Nat) (B : List UInt8) (h1 : 1 ≤ n) (h2 : n ≤ 65536) (hB : B.length = 64 * n) : Calm (setD n B) := ⟨setD_ok n B h1 h2 hB, fun _ => rfl, by simp [setD, newD]⟩
theorem IsK'.setb {w : World} {N : List Nat} {n : Nat} {A A' : Option Addr} {ca ca' : Nat} {X : Option Addr} {cx : Nat} {P : List Pm} {B : List UInt8} (h : IsK' w N (newD n) A ca X cx P) (h1 : 1 ≤ n) (h2 : n ≤ 65536) (hB : B.length = 64 * n) (hr : RB w A' B) (hc : 64 * n ≤ ca') (hm : ca' ≤ maxLen) (hl : ∀ y ∈ bl A', y < w.heap.size) :
    IsK' w (bl A' ++ N) (setD n B) A' ca' X cx P := by
  refine ⟨hr, h.pe, h.pd, h.pr, setD_ok n B h1 h2 hB, hc, hm, h.c3, h.c4, fun b off e => by rw [e]; simp [bl], fun hp b off e => by have := h.nx hp b off e; simp [this], fun m hm hp b off e => by have := h.nm m hm hp b off e; simp [this], fun x hx => ?_⟩
  rcases List.mem_append.1 hx with hx | hx
  · exact hl x hx
  · exact h.nl x hx
end Jn
end Go.Proofs.Ytmdpmpfjldgalaa
