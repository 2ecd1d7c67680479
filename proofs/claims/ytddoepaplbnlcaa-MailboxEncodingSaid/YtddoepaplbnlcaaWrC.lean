/- The walks of wire.AppendString, AppendBool, AppendID. -/
import Derived.Test.YtddoepaplbnlcaaWrB
namespace Go.Proofs.Ytddoepaplbnlcaa
open Go.RowKit
namespace Wi
open Wr

theorem size_u8 : (Try.prog.info? 5).map (·.size) = some 1 := by kernel_rfl

/-- the form of a slice that was extended, its block named -/
theorem own_blk {w : World} {B n : Nat} {e : TypeId} {v : Value} {xs : List Value} (h : w.ownsRow B e 1 v n xs) (hn : 0 < n) : ∃ g c cur, v = .slice (some ⟨g, 0, none⟩) n c ∧ B ≤ g ∧ w.heap[g]? = some (.cells cur e (0, 0)) ∧ n ≤ c ∧ c ≤ maxLen ∧ cur.size = c ∧ cur.toList.take n = xs := by
  rcases h.2 with ⟨_, h0⟩ | ⟨g, c, cur, e1, e2, e3, e4, e5, e6, e7⟩
  · omega
  · exact ⟨g, c, cur, e1, e2, e3, e4, e5, by simpa using e6, by simpa using e7⟩
theorem own_of_blk {w : World} {B n g c : Nat} {e : TypeId} {cur : Array Value} {xs : List Value} (hB : B ≤ g) (hg : w.heap[g]? = some (.cells cur e (0, 0))) (hnc : n ≤ c) (hcm : c ≤ maxLen) (hc : cur.size = c) (hx : cur.toList.take n = xs) :
    w.ownsRow B e 1 (.slice (some ⟨g, 0, none⟩) n c) n xs :=
  ⟨by rw [← hx]; simp; omega, .inr ⟨g, c, cur, rfl, hB, hg, hnc, hcm, by simpa using hc, by simpa using hx⟩⟩

def strB (s : ByteArray) : List UInt8 := s.data.toList
theorem strB_cells (s : ByteArray) : Lib.strCells s = (strB s).map vb := rfl
theorem strB_length (s : ByteArray) : (strB s).length = s.size := by simp [strB]

set_option maxRecDepth 100000 in
set_option maxHeartbeats 1000000 in
theorem appendString_calls (B : Nat) (v0 : Value) (l : List UInt8) (s : ByteArray) (w : World) (ho : Ext w B v0 l v0 w) (hl : l.length ≤ 900000) (hB : B ≤ w.heap.size) (hs : s.size ≤ 100000) :
    Calls Try.prog 58 #[v0, .string s] w (ExtPost w B v0 (l ++ (enc s.size ++ strB s))) := by
  have HU := Lib.hid (appendUint_calls B v0 l (BitVec.ofNat 64 s.size) w ho (by omega) hB)
  have hts : (BitVec.ofNat 64 s.size).toNat = s.size := by rw [BitVec.toNat_ofNat]; exact Nat.mod_eq_of_lt (by omega)
  rw [show vw (BitVec.ofNat 64 s.size) = .int .u64 (s.size : Int) by show Value.int .u64 ((BitVec.ofNat 64 s.size).toNat : Int) = _; rw [hts], hts] at HU
  clear hts
  have hel := enc_len s.size
  have h8 := digits_len_le s.size
  obtain ⟨X0, c0, e0, _, _⟩ := ho
  subst e0
  go_enter Try.func58, Try.ntmps58
  go_wp2_with fail
  refine HU.out.mono ?_
  rintro e w1 ⟨v1, rfl, X1, c1, rfl, ho1, ha1⟩
  obtain ⟨l1, HL1⟩ : ∃ x, Hid (x = l ++ enc s.size) := ⟨_, rfl⟩
  rw [← HL1.out] at ho1 ha1 ⊢
  have hlen1 : l1.length = l.length + (enc s.size).length := by rw [HL1.out]; exact List.length_append
  have hpos : 0 < l1.length := by omega
  have hn1 : l1.length ≤ 900009 := by omega
  obtain ⟨g, c, cur, e1, hBg, hg, hnc, hcm, hcs, hx⟩ := own_blk ho1 hpos
  obtain ⟨rfl, rfl⟩ : X1 = some ⟨g, 0, none⟩ ∧ c1 = c := by cases e1; exact ⟨rfl, rfl⟩
  have HA1 := Lib.hid ha1
  have HO1 := Lib.hid ho1
  have HG := Lib.hid (grow_calls B g l1.length c1 s.size l1 cur w1 hg hcs hnc hcm hx hBg (by omega) (by omega))
  have hcm' := hcm
  unfold maxLen at hcm'
  clear ha1 ho1 hg hcs hx hcm hel hlen1 e1
  go_wp2_with fail
  refine HG.out.mono ?_
  rintro e w2 ⟨g2, c2, cur2, rfl, hroom, hcm2, hg2, hcs2, hx2, hgg, hBg2, hch⟩
  have hcm2' := hcm2
  unfold maxLen at hcm2'
  have HG2 := Lib.hid hg2
  have HX2 := Lib.hid hx2
  have HCH := Lib.hid hch
  have HCS := Lib.hid hcs2
  have hsl := strB_length s
  have HF : Hid (∀ (w3 : World) (cur3 : Array Value), w3.heap[g2]? = some (.cells cur3 5 (0, 0)) → cur3.size = c2 → cur3.toList.take (l1.length + s.size) = l1.map vb ++ (strB s).map vb → Chg [g2] w2 w3 →
      ExtPost w B (.slice X0 l.length c0) (l ++ (enc s.size ++ strB s)) (.returned (.slice (some ⟨g2, 0, none⟩) (l1.length + s.size) c2)) w3) := by
    intro w3 cur3 h1 h2 h3 h4
    have hl2 : (l ++ (enc s.size ++ strB s)).length = l1.length + s.size := by rw [← List.append_assoc, ← HL1.out, List.length_append, hsl]
    have how : w3.ownsRow B 5 1 (.slice (some ⟨g2, 0, none⟩) (l1.length + s.size) c2) (l1.length + s.size) ((l ++ (enc s.size ++ strB s)).map vb) := by
      rw [← List.append_assoc, ← HL1.out, List.map_append]
      exact own_of_blk hBg2 h1 hroom hcm2 h2 h3
    have hgw : w1.grownBy w3 (some g) ∨ True := .inr trivial
    refine ⟨_, rfl, some ⟨g2, 0, none⟩, c2, by rw [hl2], by rw [hl2]; exact how, ?_⟩
    rw [hl2]
    have hch13 : Chg [g2] w1 w3 := (HCH.out.mono (S' := [g2]) (by simp)).trans' h4
    have ha : App w1 (.slice (some ⟨g, 0, none⟩) l1.length c1) w3 (.slice (some ⟨g2, 0, none⟩) (l1.length + s.size) c2) := by
      refine ⟨⟨hch13.os, hch13.tape, hch13.output, hch13.size, fun i hi hne => hch13.block i hi ?_⟩, ?_⟩
      · simp only [List.mem_singleton]
        rintro rfl
        rcases hgg with rfl | hgg
        · exact hne rfl
        · omega
      · rcases hgg with rfl | hgg
        · exact .inl rfl
        · exact .inr ⟨g2, rfl, hgg⟩
    exact HA1.out.trans ha
  by_cases hz : c2 = l1.length
  · have hs0 : s.size = 0 := by omega
    have hcp : (Builtin.copy_ #[58, 9] 3 #[.slice (some ⟨g2, 0, none⟩) 0 0, .string s]).run Try.prog w2 = .ok (goInt s.size) (w2.setRow g2 cur2) := by
      have h := run_copy_str (P := Try.prog) w2 58 9 3 5 g2 0 0 0 s cur2 5 Try.underlying58 size_u8 HG2.out (by omega) (by omega)
      rw [h]
      congr 2
      have : Lib.strCells s = [] := List.eq_nil_of_length_eq_zero (by rw [Lib.strCells_length]; exact hs0)
      simp [this, hs0]
    have HZ := Lib.hid (HF.out (w2.setRow g2 cur2) cur2 (setRow_heap _ _ _ _ _ _ HG2.out) HCS.out (by
      have : strB s = [] := List.eq_nil_of_length_eq_zero (by omega)
      rw [this, hs0]; simpa using HX2.out) ((Chg.refl _ _).setRow (.inl (by simp)) _))
    have HS0 := Lib.hid hs0
    clear hs0
    subst hz
    go_wp2_with fail
    go_ret
    exact HZ.out
  · have hcp : (Builtin.copy_ #[58, 9] 3 #[.slice (some ⟨g2, l1.length, none⟩) s.size (c2 - l1.length), .string s]).run Try.prog w2 = .ok (goInt s.size) (w2.setRow g2 (cur2.toList.take l1.length ++ Lib.strCells s ++ cur2.toList.drop (l1.length + s.size)).toArray) :=
      run_copy_str (P := Try.prog) w2 58 9 3 5 g2 l1.length s.size (c2 - l1.length) s cur2 5 Try.underlying58 size_u8 HG2.out (Nat.le_refl _) (by rw [HCS.out]; omega)
    have hcl : cur2.toList.length = c2 := by simpa using HCS.out
    have HZ := Lib.hid (HF.out _ _ (setRow_heap w2 g2 cur2 (cur2.toList.take l1.length ++ Lib.strCells s ++ cur2.toList.drop (l1.length + s.size)).toArray _ _ HG2.out) (by
        simp [Lib.strCells_length]; omega) (by
      rw [HX2.out, strB_cells]
      simp only [List.append_assoc]
      rw [← List.append_assoc, List.take_append_of_le_length (by simp; omega), List.take_of_length_le (by simp; omega)]) ((Chg.refl _ _).setRow (.inl (by simp)) _))
    generalize (cur2.toList.take l1.length ++ Lib.strCells s ++ cur2.toList.drop (l1.length + s.size)).toArray = nc at *
    clear hcl
    go_wp2_with fail
    go_ret
    exact HZ.out
end Wi
end Go.Proofs.Ytddoepaplbnlcaa
