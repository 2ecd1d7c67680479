/- The walk of refmeshlaw04.ChecksumLinear. -/
import Derived.Test.YtgmeppjpiljifaaCkE
import Derived.Deep.RegionHeld3
import Derived.Deep.QuietTactic
import Derived.BigQuiet
namespace Go.Proofs.Ytgmeppjpiljifaa
open Go.RowKit
namespace Ck

theorem u8_xor (x y : UInt8) : bits .xor .u8 (x.toNat : Int) (y.toNat : Int) = ((x ^^^ y).toNat : Int) := by
  have hlt : (x ^^^ y).toNat < 256 := UInt8.toNat_lt _
  show IntKind.u8.wrap ((BitVec.ofInt 8 (x.toNat : Int) ^^^ BitVec.ofInt 8 (y.toNat : Int)).toNat : Int) = _
  rw [u8_ofInt, u8_ofInt]
  show IntKind.u8.wrap (((x ^^^ y).toNat : Nat) : Int) = _
  rw [IntKind.wrap_u8]
  omega

/-- the least of three -/
def min3 (x y z : Int) : Int := if z < (if y < x then y else x) then z else (if y < x then y else x)
theorem run_min3 {P : Program} (w : World) (ts : Array TypeId) (t : TypeId) (k k' k'' : IntKind) (x y z : Int) : (Builtin.min_ ts t #[.int k x, .int k' y, .int k'' z]).run P w = .ok (.int k (min3 x y z)) w := by
  simp [Builtin.min_, Builtin.min2, min3]
attribute [local go_sem high] run_min3

/-- three bytes, exclusive or -/
def x3 (x y z : UInt8) : UInt8 := x ^^^ y ^^^ z
theorem x3_bits (x y z : UInt8) : bits .xor .u8 (bits .xor .u8 (x.toNat : Int) (y.toNat : Int)) (z.toNat : Int) = ((x3 x y z).toNat : Int) := by
  rw [u8_xor, u8_xor]; rfl
def w3 (x y z : BitVec 64) : BitVec 64 := x ^^^ y ^^^ z
theorem w3_bits (x y z : BitVec 64) : bits .xor .u64 (bits .xor .u64 (x.toNat : Int) (y.toNat : Int)) (z.toNat : Int) = ((w3 x y z).toNat : Int) := by
  rw [xor_bv, xor_bv]; rfl

theorem xor3_succ (a b c : List UInt8) (k : Nat) (ha : k < a.length) (hb : k < b.length) (hc : k < c.length) :
    Crc.xor3 a b c (k + 1) = Crc.xor3 a b c k ++ [x3 a[k] b[k] c[k]] := by
  unfold Crc.xor3
  rw [List.range_succ, List.map_append]
  simp [ha, hb, hc, x3]
theorem xor3_length (a b c : List UInt8) (k : Nat) : (Crc.xor3 a b c k).length = k := by simp [Crc.xor3]

set_option maxRecDepth 100000 in
set_option maxHeartbeats 1000000 in
theorem linear_calls (w : World) (A : Option Addr) (na ca : Nat) (la : List UInt8) (hna : la.length = na) (_hca : na ≤ ca) (hma : ca ≤ maxLen) (hra : RB w A la)
    (B : Option Addr) (nb cb : Nat) (lb : List UInt8) (hnb : lb.length = nb) (_hcb : nb ≤ cb) (hmb : cb ≤ maxLen) (hrb : RB w B lb)
    (C : Option Addr) (nc cc : Nat) (lc : List UInt8) (hnc : lc.length = nc) (_hcc : nc ≤ cc) (hmc : cc ≤ maxLen) (hrc : RB w C lc) :
    Calls Try.prog 5 #[.slice A na ca, .slice B nb cb, .slice C nc cc] w fun e w' => e = .returned (.bool true) ∧ Below w.heap.size w w' := by
  have hma' : na ≤ 9223372036854775807 := Nat.le_trans _hca hma
  have hmb' : nb ≤ 9223372036854775807 := Nat.le_trans _hcb hmb
  have hmc' : nc ≤ 9223372036854775807 := Nat.le_trans _hcc hmc
  obtain ⟨n, hn⟩ : ∃ n, n = min (min na nb) nc := ⟨_, rfl⟩
  have hmin : min3 (na : Int) (nb : Int) (nc : Int) = (n : Int) := by
    unfold min3; rw [hn]; split <;> split at * <;> omega
  have h1 : n ≤ na := by omega
  have h2 : n ≤ nb := by omega
  have h3 : n ≤ nc := by omega
  clear hn
  by_cases h6 : n ≤ 600
  · have hd : decide ((600 : Int) < (n : Int)) = false := by simp; omega
    have hla : n ≤ la.length := by omega
    have hlb : n ≤ lb.length := by omega
    have hlc : n ≤ lc.length := by omega
    have HA := Lib.hid hra
    have HB := Lib.hid hrb
    have HC := Lib.hid hrc
    have HX := Lib.hid (Crc.sum_xor3 n la lb lc hla hlb hlc)
    have SA := fun w1 (hb : Below w.heap.size w w1) => Lib.hid (sum_calls A n ca (la.take n) w1 (by simp; omega) (by simp only [maxLen]; omega) ((hra.take n).below hb))
    have SB := fun w1 (hb : Below w.heap.size w w1) => Lib.hid (sum_calls B n cb (lb.take n) w1 (by simp; omega) (by simp only [maxLen]; omega) ((hrb.take n).below hb))
    have SC := fun w1 (hb : Below w.heap.size w w1) => Lib.hid (sum_calls C n cc (lc.take n) w1 (by simp; omega) (by simp only [maxLen]; omega) ((hrc.take n).below hb))
    clear hna hnb hnc hra hrb hrc hma hmb hmc
    go_enter Try.func5, Try.ntmps5
    go_wp2_with fail
    clear hmin hd
    go_loopw [21, 8] (fun i v wr => ∃ k : Nat, k ≤ n ∧ i = .int .i64 k ∧ wr.ownsRow w.heap.size 5 1 v k ((Crc.xor3 la lb lc k).map vb) ∧ Below w.heap.size w wr) (fun i _ _ => n - (intOf i).toNat)
    case atStart => exact ⟨0, by omega, rfl, World.ownsRow_nil _ _ _ _, Below.refl _ _⟩
    case round =>
      obtain ⟨k, hk, rfl, hown, hbel⟩ := hrel
      have HO := Lib.hid hown
      clear hown
      by_cases hlt : k < n
      · have hd : decide (k < n) = true := by simpa using hlt
        clear SA SB SC
        obtain ⟨b1, o1, rfl, hb1, hc1⟩ := HA.out.cells (by omega)
        obtain ⟨b2, o2, rfl, hb2, hc2⟩ := HB.out.cells (by omega)
        obtain ⟨b3, o3, rfl, hb3, hc3⟩ := HC.out.cells (by omega)
        have e1 : ∀ w1, Below w.heap.size w w1 → w1.cell? ⟨b1, o1 + k, none⟩ = some (vb (la[k]'(by omega))) := fun w1 hb => (hb.cell hb1).trans (hc1 k (by omega))
        have e2 : ∀ w1, Below w.heap.size w w1 → w1.cell? ⟨b2, o2 + k, none⟩ = some (vb (lb[k]'(by omega))) := fun w1 hb => (hb.cell hb2).trans (hc2 k (by omega))
        have e3 : ∀ w1, Below w.heap.size w w1 → w1.cell? ⟨b3, o3 + k, none⟩ = some (vb (lc[k]'(by omega))) := fun w1 hb => (hb.cell hb3).trans (hc3 k (by omega))
        have HT := Lib.hid (xor3_succ la lb lc k (by omega) (by omega) (by omega))
        clear hc1 hc2 hc3 HA HB HC
        generalize la[k]'(by omega) = x1 at *
        generalize lb[k]'(by omega) = x2 at *
        generalize lc[k]'(by omega) = x3' at *
        have hx := x3_bits x1 x2 x3'
        generalize x3 x1 x2 x3' = y at *
        clear hla hlb hlc
        have i1 : (k : Int) < (na : Int) := by omega
        have i2 : (k : Int) < (nb : Int) := by omega
        have i3 : (k : Int) < (nc : Int) := by omega
        have i0 : (0 : Int) ≤ (k : Int) := by omega
        go_wp2_with fail
        go_region_held3 (fun w' => Below w.heap.size w w')
          (first | (exact hbel.drew) | exact ((hbel.drew).alloc (hbel.size) _) | exact ((hbel.drew.alloc hbel.size _).trans (happ5.below (HO.out.drew.alloc _) (Nat.le_trans hbel.size (by simp)))))
          ((refine step_app _ (by rfl) _ _ 23 (by rfl) w.heap.size 5 (.int .u8 0) 1 Try.underlying23 info_u8 rfl _ _ _ (by rfl) (HO.out.drew.alloc _) (some ⟨wr.heap.size, 0, none⟩) 1 1 [vb y] (by rfl) rfl (Rd.one _ _ _) (vb_one [y]) (by simp only [maxLen]; omega) (by omega) (Nat.le_trans hbel.size (by simp)) ?_; intro v5 w5 hown5 happ5))
        have hb5 : Below w.heap.size w w5 := (hbel.drew.alloc hbel.size _).trans (happ5.below (HO.out.drew.alloc _) (Nat.le_trans hbel.size (by simp)))
        have HO2 : Hid (w5.ownsRow w.heap.size 5 1 v5 (k + 1) ((Crc.xor3 la lb lc (k + 1)).map vb)) := by
          have := hown5
          show World.ownsRow _ _ _ _ _ _ _
          rw [HT.out]; simpa using this
        have HB5 := Lib.hid hb5
        clear hown5 happ5 hb5 e1 e2 e3 hx HO
        go_wp2_with fail
        go_roundw
        case rel => exact ⟨k + 1, by omega, by go_num, HO2.out, HB5.out⟩
        case measure => simp [intOf]; omega
      · obtain rfl : k = n := by omega
        obtain ⟨X, cx, hv, _, _, _, hrx⟩ := own_form HO.out
        have SX := fun w1 (hb : Below wr.heap.size wr w1) => Lib.hid (sum_calls X k cx (Crc.xor3 la lb lc k) w1 (xor3_length _ _ _ _) (by simp only [maxLen]; omega) (RB.below hrx hb))
        clear HA HB HC hrx HO
        subst hv
        have hwb := w3_bits (Crc.sum (la.take k)) (Crc.sum (lb.take k)) (Crc.sum (lc.take k))
        have HX2 : Hid (Crc.sum (Crc.xor3 la lb lc k) = w3 (Crc.sum (la.take k)) (Crc.sum (lb.take k)) (Crc.sum (lc.take k))) := HX.out
        rw [HX2.out] at SX
        clear HX HX2
        generalize Crc.sum (la.take k) = s1 at *
        generalize Crc.sum (lb.take k) = s2 at *
        generalize Crc.sum (lc.take k) = s3 at *
        generalize w3 s1 s2 s3 = s4 at *
        go_wp2_with fail
        have SX' := fun w1 (hb : Below wr.heap.size wr w1) => Lib.hid (calls_below hb (SX w1 hb).out)
        have SA' := fun w1 (hb : Below wr.heap.size wr w1) => Lib.hid (calls_below hb (SA w1 (hbel.trans (hb.mono hbel.size))).out)
        have SB' := fun w1 (hb : Below wr.heap.size wr w1) => Lib.hid (calls_below hb (SB w1 (hbel.trans (hb.mono hbel.size))).out)
        have SC' := fun w1 (hb : Below wr.heap.size wr w1) => Lib.hid (calls_below hb (SC w1 (hbel.trans (hb.mono hbel.size))).out)
        have SW' := fun w1 (hb : Below wr.heap.size wr w1) => Lib.hid (calls_below hb (awake_calls w1))
        clear SX SA SB SC
        have i0 : (0 : Int) ≤ (k : Int) := by omega
        have i1 : (k : Int) ≤ (ca : Int) := by omega
        have i2 : (k : Int) ≤ (cb : Int) := by omega
        have i3 : (k : Int) ≤ (cc : Int) := by omega
        go_region_held3 (fun w' => Below wr.heap.size wr w')
          (first | exact (Below.refl _ _).drew | assumption)
          (first
            | (go_at_call 13; refine (SX' _ (by assumption)).out.mono ?_; rintro e w2 ⟨rfl, hb2⟩)
            | (go_at_call 13; refine (SA' _ (by assumption)).out.mono ?_; rintro e w2 ⟨rfl, hb2⟩)
            | (go_at_call 13; refine (SB' _ (by assumption)).out.mono ?_; rintro e w2 ⟨rfl, hb2⟩)
            | (go_at_call 13; refine (SC' _ (by assumption)).out.mono ?_; rintro e w2 ⟨rfl, hb2⟩)
            | (go_at_call 12; refine (SW' _ (by assumption)).out.mono ?_; rintro e w2 ⟨rfl, hb2⟩))
        have hfin := hbel.trans (hb2.mono hbel.size)
        go_wp2_with fail
        go_ret
        exact ⟨rfl, hfin⟩
  · have hd : decide ((600 : Int) < (n : Int)) = true := by simp; omega
    go_enter Try.func5, Try.ntmps5
    go_wp2_with fail
    refine (awake_calls _).mono ?_
    rintro e w4 ⟨rfl, hb⟩
    go_wp2_with fail
    go_ret
    exact ⟨rfl, hb⟩
end Ck
end Go.Proofs.Ytgmeppjpiljifaa
