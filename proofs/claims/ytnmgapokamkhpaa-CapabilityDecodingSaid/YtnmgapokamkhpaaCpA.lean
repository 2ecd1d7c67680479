/- The walk of capability's iterator: the serials from a first one on, with their numbers. -/
import Derived.Test.YtnmgapokamkhpaaSpN
import Derived.Test.YtnmgapokamkhpaaRf
import Derived.OwnWalkIn
import Derived.TacticsInMore
import Derived.LoopNIn
import Derived.LoopIn
import Derived.Shelf.RegionOpen
namespace Go.Proofs.Ytnmgapokamkhpaa
open Go.RowKit Go.Shelf
namespace Cp
open Sip
attribute [local go_sem] Oper.semAt_some

/-- the number of a serial -/
def num (k0 k1 : BitVec 64) (s : Nat) : BitVec 64 := sum k0 k1 (Sp.le s 8)
theorem num_calls (k0 k1 : BitVec 64) (s : Nat) (hs : s < 4611686018427387904) (w : World) :
    Calls Try.prog 27 #[.agg #[vw k0, vw k1], .int .u64 (s : Int)] w fun e w' => e = .returned (vw (num k0 k1 s)) ∧ Below w.heap.size w w' := by
  have h := Sp.number_calls k0 k1 (BitVec.ofNat 64 s) w
  have e : (BitVec.ofNat 64 s).toNat = s := by rw [BitVec.toNat_ofNat]; exact Nat.mod_eq_of_lt (by omega)
  unfold Sp.key vw at h
  rw [e] at h
  exact h
theorem grown_of_below {w w' : World} (h : Below w.heap.size w w') : w.grownBy w' none := ⟨h.os, h.tape, h.output, h.size, fun i hi _ => h.block i hi⟩

/-- block g holds a book -/
def IsB (w : World) (g : Nat) (k0 k1 : BitVec 64) (n : Nat) : Prop := w.heap[g]? = some (.cells #[vw k0, vw k1, .int .i64 (n : Int)] 46 (0, 0))

set_option maxRecDepth 100000 in
set_option maxHeartbeats 2000000 in
theorem numbers1 (k0 k1 : BitVec 64) (first N : Nat) (hN : first + N < 4611686018427387904) (F0 B0 g c n₀ : Nat) (w : World) (hF : w.cell? ⟨F0, 0, none⟩ = some (.int .i64 (first : Int))) (hB : w.cell? ⟨B0, 0, none⟩ = some (.pointer (some ⟨g, 0, none⟩))) (hg : IsB w g k0 k1 c)
    (h1 : F0 < n₀) (h2 : B0 < n₀) (h3 : g < n₀) (h4 : n₀ ≤ w.heap.size) :
    SeqN Fence.wide 4 Try.prog 26 #[.pointer (some ⟨F0, 0, none⟩), .pointer (some ⟨B0, 0, none⟩)] (fun k => #[.int .i64 ((first + k : Nat) : Int), vw (num k0 k1 (first + k))]) (Below n₀) N w := by
  intro l J Jx W hW hJ hJx hlt hY h0
  have hF' : W.cell? ⟨F0, 0, none⟩ = some (.int .i64 (first : Int)) := (hW.cell (p := ⟨F0, 0, none⟩) (Nat.lt_of_lt_of_le h1 h4)).trans hF
  have hB' : ∀ W', Below n₀ W W' → W'.cell? ⟨B0, 0, none⟩ = some (.pointer (some ⟨g, 0, none⟩)) := fun W' h => (h.cell (p := ⟨B0, 0, none⟩) h2).trans ((hW.cell (p := ⟨B0, 0, none⟩) (Nat.lt_of_lt_of_le h2 h4)).trans hB)
  have hk0 : ∀ W', Below n₀ W W' → W'.cell? ⟨g, 0, none⟩ = some (vw k0) := fun W' h => (h.cell (p := ⟨g, 0, none⟩) h3).trans ((hW.cell (p := ⟨g, 0, none⟩) (Nat.lt_of_lt_of_le h3 h4)).trans ((cell_of_row _ _ 0 _ _ _ hg).trans rfl))
  have hk1 : ∀ W', Below n₀ W W' → W'.cell? ⟨g, 1, none⟩ = some (vw k1) := fun W' h => (h.cell (p := ⟨g, 1, none⟩) h3).trans ((hW.cell (p := ⟨g, 1, none⟩) (Nat.lt_of_lt_of_le h3 h4)).trans ((cell_of_row _ _ 1 _ _ _ hg).trans rfl))
  have HB := Lib.hid hB'
  have HK0 := Lib.hid hk0
  have HK1 := Lib.hid hk1
  have hnW : n₀ ≤ W.heap.size := Nat.le_trans h4 hW.size
  clear hF hB hg hB' hk0 hk1
  refine callsIn_of_wp Try.func26 rfl trivial ?_ rfl
  simp only [Try.ntmps26, List.size_toArray, List.length_cons, List.length_nil, Nat.reduceAdd, Nat.reduceSub, Array.replicate_succ, Array.replicate_zero, List.push_toArray, List.append_toArray, List.nil_append, List.cons_append]
  gi_wp2
  gi_loopw [4] (fun i wr => ∃ k : Nat, k ≤ N ∧ i = .int .i64 ((first + k : Nat) : Int) ∧ J k wr ∧ Below n₀ W wr) (fun i _ => first + N - (intOf i).toNat)
  case atStart => exact ⟨0, Nat.zero_le _, rfl, h0, Below.refl _ _⟩
  case round =>
    obtain ⟨k, hk, rfl, hj, hb⟩ := hrel
    have hkN := hlt k wr hj
    have c0 := HB.out wr hb
    have c1 := HK0.out wr hb
    have c2 := HK1.out wr hb
    obtain ⟨s, hs⟩ : ∃ s, Hid (s = first + k) := ⟨_, Lib.hid rfl⟩
    have hsl : s < 4611686018427387904 := by have := hs.out; omega
    have hnr : n₀ ≤ wr.heap.size := Nat.le_trans hnW hb.size
    have HY := Lib.hid hY
    have HJ := Lib.hid hJ
    have HJ0 := Lib.hid hj
    rw [← hs.out]
    clear hY hJ hj
    gi_wp2
    refine ⟨trivial, ?_⟩
    refine (callsIn_wide.2 (num_calls k0 k1 s hsl wr)).mono ?_
    rintro e w2 ⟨rfl, hb2⟩
    have hj2 : J k w2 := HJ.out k wr w2 none HJ0.out (grown_of_below hb2) (fun _ e => by cases e)
    obtain ⟨fn, tmps, assign, body, hy, hR⟩ := HY.out k w2 hj2
    rw [← hs.out] at hy
    have HR := Lib.hid hR
    have HBW := Lib.hid (hb.trans (hb2.mono hnr))
    clear c0 c1 c2 hR hj2 hb2
    gi_wp2
    refine HR.out.mono ?_
    rintro e w3 (⟨rfl, hj3, hb3⟩ | ⟨rfl, hx3⟩)
    · have HJ3 := Lib.hid hj3
      have HB3 := Lib.hid (HBW.out.trans hb3)
      clear hj3 hb3 hy
      gi_wp2
      go_roundw
      case rel => exact ⟨k + 1, by omega, by rw [hs.out]; go_num, HJ3.out, HB3.out⟩
      case measure => have := hs.out; simp [intOf]; omega
    · have HX3 := Lib.hid hx3
      clear hx3 hy
      gi_wp2
      go_end0
      exact ⟨⟨_, rfl⟩, k, HX3.out⟩
end Cp
end Go.Proofs.Ytnmgapokamkhpaa
