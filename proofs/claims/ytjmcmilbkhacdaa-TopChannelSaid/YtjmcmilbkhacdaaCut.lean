/- Slices cut out of slices. -/
import Derived.Test.YtjmcmilbkhacdaaMem
import Derived.Laws.Slices
namespace Go.Proofs.Ytjmcmilbkhacdaa
open Go.RowKit

/-- the address of s[lo:..] -/
def cutA (A : Option Addr) (lo cap : Nat) : Option Addr := if cap = lo then A else A.map (·.add lo)
theorem Rd.cut {w : World} {A : Option Addr} {vs : List Value} (h : Rd w A vs) (lo cap : Nat) (hn : vs.length ≤ cap) : Rd w (cutA A lo cap) (vs.drop lo) := by
  intro i v hv
  rw [List.getElem?_drop] at hv
  have hl : lo + i < vs.length := (List.getElem?_eq_some_iff.1 hv).1
  obtain ⟨b, off, rfl, hc⟩ := h (lo + i) v hv
  unfold cutA
  rw [if_neg (by omega)]
  exact ⟨b, off + lo, by simp [addr_add], by rw [Nat.add_assoc]; exact hc⟩
theorem RB.cut {w : World} {A : Option Addr} {l : List UInt8} (h : RB w A l) (lo cap : Nat) (hn : l.length ≤ cap) : RB w (cutA A lo cap) (l.drop lo) := by
  unfold RB; rw [List.map_drop]; exact Rd.cut h lo cap (by simpa using hn)
section
variable {P : Program} {t e : TypeId}
theorem run_cut_lh (ht : P.underlying t = some (.slice e)) (he : P.elem t = e) (hs : (P.info? e).map (·.size) = some 1) (A : Option Addr) (n cap lo hi : Nat) (h1 : lo ≤ hi) (h2 : hi ≤ cap) (w : World) :
    (Instr.slice t (.slice A n cap) (some (.int .i64 lo)) (some (.int .i64 hi)) none).run P w = .ok (.slice (cutA A lo cap) (hi - lo) (cap - lo)) w := by
  subst he
  rw [run_slice_lh w t A n cap ht .i64 .i64 lo hi (by omega) (by omega) (by omega)]
  obtain ⟨i, hi', hsz⟩ := Option.map_eq_some_iff.1 hs
  simp [sizeOf, typeInfo, hi', hsz, sliced, cutA]
theorem run_cut_l (ht : P.underlying t = some (.slice e)) (he : P.elem t = e) (hs : (P.info? e).map (·.size) = some 1) (A : Option Addr) (n cap lo : Nat) (h1 : lo ≤ n) (w : World) :
    (Instr.slice t (.slice A n cap) (some (.int .i64 lo)) none none).run P w = .ok (.slice (cutA A lo cap) (n - lo) (cap - lo)) w := by
  subst he
  rw [run_slice_l w t A n cap ht .i64 lo (by omega) (by omega)]
  obtain ⟨i, hi', hsz⟩ := Option.map_eq_some_iff.1 hs
  simp [sizeOf, typeInfo, hi', hsz, sliced, cutA]
theorem run_cut_h (ht : P.underlying t = some (.slice e)) (he : P.elem t = e) (A : Option Addr) (n cap hi : Nat) (h2 : hi ≤ cap) (hs : (P.info? e).map (·.size) = some 1) (w : World) :
    (Instr.slice t (.slice A n cap) none (some (.int .i64 hi)) none).run P w = .ok (.slice (cutA A 0 cap) hi cap) w := by
  subst he
  rw [run_slice_h w t A n cap ht .i64 hi (by omega) (by omega)]
  obtain ⟨i, hi', hsz⟩ := Option.map_eq_some_iff.1 hs
  simp [sizeOf, typeInfo, hi', hsz, sliced, cutA]
theorem cutA_zero (A : Option Addr) (cap : Nat) : cutA A 0 cap = A := by
  unfold cutA; split
  · rfl
  · cases A with
    | none => rfl
    | some a => show some (a.add 0) = some a; obtain ⟨b, off, pr⟩ := a; unfold Addr.add; cases pr <;> simp
end
end Go.Proofs.Ytjmcmilbkhacdaa
