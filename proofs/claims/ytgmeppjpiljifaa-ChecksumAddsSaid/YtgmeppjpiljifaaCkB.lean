/- The walks of checksum.Update, checksum.Sum and their references. -/
import Derived.Test.YtgmeppjpiljifaaCkA
namespace Go.Proofs.Ytgmeppjpiljifaa
open Go.RowKit
namespace Ck

/-- the table's index -/
def ix (c : BitVec 64) (x : UInt8) : Nat := (c.toNat % 256) ^^^ x.toNat
theorem ix_lt (c : BitVec 64) (x : UInt8) : ix c x < 256 := by
  have h1 : c.toNat % 256 < 2 ^ 8 := Nat.mod_lt _ (by omega)
  exact Nat.xor_lt_two_pow h1 x.toNat_lt

theorem u8_ofInt (x : UInt8) : BitVec.ofInt 8 (x.toNat : Int) = x.toBitVec := by
  apply BitVec.eq_of_toNat_eq; rw [BitVec.ofInt_natCast, BitVec.toNat_ofNat]
  exact Nat.mod_eq_of_lt x.toNat_lt

theorem u8_xor (x y : UInt8) : bits .xor .u8 (x.toNat : Int) (y.toNat : Int) = ((x ^^^ y).toNat : Int) := by
  have hlt : (x ^^^ y).toNat < 256 := UInt8.toNat_lt _
  show IntKind.u8.wrap ((BitVec.ofInt 8 (x.toNat : Int) ^^^ BitVec.ofInt 8 (y.toNat : Int)).toNat : Int) = _
  rw [u8_ofInt, u8_ofInt]
  show IntKind.u8.wrap (((x ^^^ y).toNat : Nat) : Int) = _
  rw [IntKind.wrap_u8]
  omega

theorem ix_bits (c : BitVec 64) (x : UInt8) : bits .xor .u8 ((c.toNat : Int) % (256 : Int)) (x.toNat : Int) = (ix c x : Int) := by
  have h1 : (c.toNat : Int) % (256 : Int) = ((c.toNat % 256 : Nat) : Int) := by omega
  have h2 : (BitVec.ofInt 8 ((c.toNat % 256 : Nat) : Int)).toNat = c.toNat % 256 := by
    rw [BitVec.ofInt_natCast, BitVec.toNat_ofNat]; exact Nat.mod_eq_of_lt (Nat.mod_lt _ (by omega))
  have hlt := ix_lt c x
  rw [h1]
  show IntKind.u8.wrap ((BitVec.ofInt 8 ((c.toNat % 256 : Nat) : Int) ^^^ BitVec.ofInt 8 (x.toNat : Int)).toNat : Int) = _
  rw [BitVec.toNat_xor, h2, u8_ofInt]
  show IntKind.u8.wrap ((ix c x : Nat) : Int) = _
  simp only [IntKind.wrap, IntKind.bits, IntKind.signed]
  simp; omega

theorem not_bits (x : BitVec 64) : bits .xor .u64 IntKind.u64.max (x.toNat : Int) = ((Crc.flip x).toNat : Int) := by
  rw [max_bv, xor_bv, BitVec.allOnes_xor]; rfl

theorem step_bits (c : BitVec 64) (x : UInt8) : bits .xor .u64 ((Crc.tab (ix c x)).toNat : Int) ((c.toNat : Int) / (256 : Int)) = ((Crc.byte c x).toNat : Int) := by
  rw [show (c.toNat : Int) / (256 : Int) = ((c >>> 8).toNat : Int) from shr_bv c 8, xor_bv, ← Crc.byte_eq]; rfl

set_option maxRecDepth 100000 in
theorem update_calls (c : BitVec 64) (A : Option Addr) (n cap : Nat) (l : List UInt8) (w : World) (hn : l.length = n) (hm : n ≤ maxLen) (hr : RB w A l) :
    Calls Try.prog 15 #[vw c, .slice A n cap] w fun e w' => e = .returned (vw (Crc.upd c l)) ∧ Below w.heap.size w w' := by
  have hm' : n ≤ 9223372036854775807 := hm
  clear hm
  obtain ⟨hz, hsz⟩ := zero_of_info info_arr
  have HS := Lib.hid hsz
  have HN := Lib.hid hn
  clear hsz hn
  have hsg := signed_u64
  have hnot := not_bits
  go_enter Try.func15, Try.ntmps15
  go_wp2_with (first | (go_at_call 23; refine (tableOf_calls _).mono ?_; rintro e w1 ⟨rfl, hb1⟩) | (refine wpList_store_row rfl 43 _ _ rfl w1.heap.size _ rfl rfl 43 _ (heap_alloc_new _ _) (by rw [size_tabs]; exact HS.out) (by rw [size_tabs]; rfl) (tabs_one _) ?_))
  have hblk : ((w1.alloc (.cells z256 43)).setRow w1.heap.size (tabs 256)).heap[w1.heap.size]? = some (.cells (tabs 256) 43 (0, 0)) := setRow_heap _ _ _ _ _ _ (heap_alloc_new _ _)
  have hb2 : Below w.heap.size w ((w1.alloc (.cells z256 43)).setRow w1.heap.size (tabs 256)) := below_setRow (hb1.alloc hb1.size _) hb1.size _
  generalize (w1.alloc (.cells z256 43)).setRow w1.heap.size (tabs 256) = w2 at *
  have hr2 := Lib.hid (hr.below hb2)
  have HB := Lib.hid hb2
  have HK := Lib.hid hblk
  clear hb1 hb2 hblk hr hz
  have HT : Hid (∀ i, i < 256 → (tabs 256)[i]? = some (vw (Crc.tab i))) := fun i hi => by rw [get_tabs _ _ hi, if_pos hi]
  generalize tabs 256 = T at *
  go_loop [13, 0] (fun i s => ∃ k : Nat, k ≤ n ∧ i = .int .i64 k ∧ s = vw (Crc.run (Crc.flip c) (l.take k))) (fun i _ => n - (intOf i).toNat)
  case atStart => exact ⟨0, by omega, rfl, rfl⟩
  case round =>
    obtain ⟨k, hk, rfl, rfl⟩ := hrel
    by_cases hlt : k < n
    · have hll : k < l.length := by rw [HN.out]; exact hlt
      obtain ⟨b, off, rfl, _, hc⟩ := hr2.out.cells (by omega)
      have hck := hc k hll
      have hx := ix_bits (Crc.run (Crc.flip c) (l.take k)) l[k]
      have hxl := ix_lt (Crc.run (Crc.flip c) (l.take k)) l[k]
      have hst := step_bits (Crc.run (Crc.flip c) (l.take k)) l[k]
      have HR := Lib.hid (Crc.run_take_succ (Crc.flip c) l k hll)
      generalize Crc.run (Crc.flip c) (l.take k) = s at *
      generalize l[k] = x at *
      have hcell : w2.cell? ⟨w1.heap.size, ix s x, none⟩ = some (vw (Crc.tab (ix s x))) := by
        rw [cell_of_row _ _ _ _ _ _ HK.out, HT.out _ hxl]
      generalize ix s x = i at *
      have hi : i < 256 := hxl
      clear hc hll hxl
      have hd : decide (k < n) = true := by simpa using hlt
      go_wp2_with fail
      go_round
      case rel => exact ⟨k + 1, by omega, by go_num, by rw [HR.out]⟩
      case measure => simp [intOf]; omega
    · obtain rfl : k = n := by omega
      go_wp2_with fail
      go_ret
      refine ⟨?_, HB.out⟩
      rw [List.take_of_length_le (by rw [HN.out]; exact Nat.le_refl _)]; rfl
end Ck
end Go.Proofs.Ytgmeppjpiljifaa
