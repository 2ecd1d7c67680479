/- The walk of the law SiphashMemory. -/
import Derived.Test.YthjplfflkdnfnaaSpG
namespace Go.Proofs.Ythjplfflkdnfnaa
open Go.RowKit
namespace Sp
open Sip

theorem u8_inc (x : UInt8) : ((x.toNat : Int) + 1) % 256 = ((x + 1).toNat : Int) := by
  rw [UInt8.toNat_add]
  simp

/-- the state that the loop keeps -/
def MemRel (w w5 : World) (gX gY K : Nat) (hx hy : Hs) (k0 k1 : BitVec 64) (X : Option Addr) (n cX : Nat) (wr : World) : Prop :=
  IsH wr gX hx ∧ IsH wr gY hy ∧ Below w.heap.size w wr ∧ wr.heap[K]? = some (.cells #[vw k0, vw k1] 26 (0, 0)) ∧ ∃ lc : List UInt8, lc.length = n ∧ wr.ownsRow w5.heap.size 5 1 (.slice X n cX) n (lc.map vb)

set_option maxRecDepth 100000 in
set_option maxHeartbeats 2000000 in
theorem memory_law (w : World) (k0 k1 : BitVec 64) (A : Option Addr) (n cap : Nat) (l : List UInt8) (hn : l.length = n) (hnc : n ≤ cap) (hcm : cap ≤ maxLen) (hr : RB w A l)
    (C : Option Addr) (m ccap : Nat) (cu : List UInt8) (hm : cu.length = m) (hmc : m ≤ ccap) (hccm : ccap ≤ maxLen) (hrc : RB w C cu) :
    Calls Try.prog 7 #[vw k0, vw k1, .slice A n cap, .slice C m ccap] w fun e w' => e = .returned (.bool true) ∧ Below w.heap.size w w' := by
  unfold maxLen at hcm hccm
  have HN := Lib.hid hn
  have HR := Lib.hid hr
  have HM := Lib.hid hm
  have HRC := Lib.hid hrc
  clear hn hr hm hrc
  by_cases h600 : n ≤ 200
  · by_cases h40 : m ≤ 200
    · have c600 : decide ((200 : Int) < (n : Int)) = false := by simp; omega
      have c40 : decide ((200 : Int) < (m : Int)) = false := by simp; omega
      go_enter Try.func7, Try.ntmps7
      go_wp2_with fail; refine (awake_calls w).mono ?_; rintro e w1 ⟨rfl, hb⟩; have B1 := Lib.hid hb; clear hb; go_wp2_with fail
      have hk := heap_alloc_new w1 (.cells #[vw k0, vw k1] 26); have B2 := Lib.hid (B1.out.trans ((below1 w1 (.cells #[vw k0, vw k1] 26)).mono B1.out.size))
      generalize w1.alloc (.cells #[vw k0, vw k1] 26) = w2 at *; have hs : w1.heap.size < w2.heap.size := (Array.getElem?_eq_some_iff.1 hk).1
      have m0 : ∀ w', Below w2.heap.size w2 w' → w'.cell? ⟨w1.heap.size, 0, none⟩ = some (vw k0) := fun w' h => (cell_of_row _ _ 0 _ _ _ ((h.block _ hs).trans hk)).trans rfl; have m1 : ∀ w', Below w2.heap.size w2 w' → w'.cell? ⟨w1.heap.size, 1, none⟩ = some (vw k1) := fun w' h => (cell_of_row _ _ 1 _ _ _ ((h.block _ hs).trans hk)).trans rfl
      have NX : ∀ w', Below w2.heap.size w2 w' → Hid (Calls Try.prog 14 #[.agg #[vw k0, vw k1]] w' fun e w'' => ∃ g, e = .returned (.pointer (some ⟨g, 0, none⟩)) ∧ IsH w'' g (new k0 k1) ∧ w'.heap.size ≤ g ∧ Below w'.heap.size w' w'' ∧ Below w2.heap.size w2 w'') := fun w' h =>
        (new_calls k0 k1 w').mono fun e w'' ⟨g, h1, h2, h3, h4⟩ => ⟨g, h1, h2, h3, h4, h.trans (h4.mono h.size)⟩
      have HK2 := Lib.hid hk
      clear hk
      have tok : True := trivial
      go_region_held3 (fun w' => Below w2.heap.size w2 w') (first | exact (Below.refl _ _).drew | assumption) (first | (go_at_call 14; have _t := tok; refine (NX _ (by assumption)).out.mono ?_; rintro e wX ⟨gX, rfl, hhX, hgX, hbX, hsX⟩; have HX := Lib.hid hhX; have sX := (Array.getElem?_eq_some_iff.1 hhX).1; clear hhX tok _t) | (go_at_call 14; refine (NX _ (by assumption)).out.mono ?_; rintro e wY ⟨gY, rfl, hhY, hgY, hbY, hsY⟩; have HY := Lib.hid hhY; have sY := (Array.getElem?_eq_some_iff.1 hhY).1; have HXY := Lib.hid (HX.out.below hbY); clear hhY))
      have BY := Lib.hid (B2.out.trans (hsY.mono B2.out.size))
      have HKY := Lib.hid ((hsY.block _ hs).trans HK2.out)
      have e1 : w2.heap.size ≤ wX.heap.size := hsX.size
      have hgw1 : w2.heap.size ≤ gX := by simp at hgX; omega
      have hgw2 : wX.heap.size ≤ gY := hgY
      have ew : w.heap.size ≤ w2.heap.size := B2.out.size
      clear m0 m1 NX hgX hgY hbX hbY hsX hsY HK2 HX B2 B1
      have HAY := Lib.hid (RB.below HR.out BY.out)
      go_wp2_with (at_builtin; refine wpList_apps _ rfl (.tmp 37) (.tmp 38) 23 rfl wY.heap.size 5 (.int .u8 0) 1 Try.underlying23 info_u8 rfl (.slice (some ⟨wY.heap.size, 0, none⟩) 0 0) 0 [] rfl (own_empty _ _ _ _ rfl (Nat.le_refl _)) A n cap (l.map vb) rfl (by simp; exact HN.out) (Rd.alloc HAY.out _) (vb_one _) (by simp only [maxLen]; omega) (by omega) (by simp) ?_; intro X cX w5 hown5 happ5; have HO5 := Lib.hid hown5; have HP5 := Lib.hid happ5; clear hown5 happ5)
      have hb5 : Below wY.heap.size wY w5 := (below1 wY _).trans (HP5.out.below (own_empty wY.heap.size _ _ _ rfl (Nat.le_refl _)) (by simp))
      have B5 := Lib.hid (BY.out.trans (hb5.mono BY.out.size))
      have HX5 := Lib.hid (HXY.out.below hb5)
      have HY5 := Lib.hid (HY.out.below hb5)
      have HK5 := Lib.hid ((hb5.block w1.heap.size (by omega)).trans HKY.out)
      have ho5 : w5.ownsRow wY.heap.size 5 1 (.slice X n cX) n (l.map vb) := by simpa using HO5.out
      have HO5' := Lib.hid ho5
      clear ho5
      obtain ⟨_, _, eX, _, _, _, rX⟩ := own_form HO5'.out
      cases eX
      have RX := Lib.hid rX
      have OL : Hid (∀ b, Value.ownBlock (.slice X n cX) = some b → wY.heap.size ≤ b) := fun b hb => (HO5'.out.lt b hb).1
      have OB : Hid (∀ b off, X = some ⟨b, off, none⟩ → wY.heap.size ≤ b) := by
        rintro b off rfl
        rcases HO5'.out.2 with ⟨e, _⟩ | ⟨g, _, _, e, hg, _⟩
        · cases e
        · cases e; exact hg
      clear rX hb5 HO5 HP5 HAY
      have hcx : (new k0 k1).count = 0 := rfl
      refine (write_calls gX _ X n cX l w5 HX5.out HN.out RX.out (fun _ b off e => by have := OB.out b off e; omega) (by rw [hcx]; omega)).mono ?_
      rintro e w6 ⟨rfl, hhX, hcg⟩
      have HX6 := Lib.hid hhX
      have HY6 : Hid (IsH w6 gY (new k0 k1)) := hcg.blk HY5.out (by simp; omega)
      have HK6 := Lib.hid (hcg.blk HK5.out (by simp; omega))
      have B6 := Lib.hid (B5.out.trans (hcg.below B5.out.size (by simp; omega)))
      have HO6 := Lib.hid (hcg.own HO5'.out (fun b hb => by have := OL.out b hb; simp; omega))
      clear hhX hcg HX5 HY5 HK5 B5 HO5' RX
      go_wp2_with fail
      refine (write_calls gY _ C m ccap cu w6 HY6.out HM.out (RB.below HRC.out B6.out) (RB.ge HRC.out HM.out gY (by omega)) (by rw [hcx]; omega)).mono ?_
      rintro e w7 ⟨rfl, hhY, hcg⟩
      have HR7 : Hid (MemRel w wY gX gY w1.heap.size (wrs (new k0 k1) l) (wrs (new k0 k1) cu) k0 k1 X n cX w7) :=
        ⟨hcg.blk HX6.out (by simp; omega), hhY, B6.out.trans (hcg.below B6.out.size (by simp; omega)), hcg.blk HK6.out (by simp; omega), l, HN.out, hcg.own HO6.out (fun b hb => by have := OL.out b hb; simp; omega)⟩
      have HSx : Hid (sum k0 k1 l = sumH (wrs (new k0 k1) l)) := rfl
      have HSy : Hid (sum k0 k1 cu = sumH (wrs (new k0 k1) cu)) := rfl
      have HCx : Hid ((wrs (new k0 k1) l).count ≤ 1000000) := by show _ ≤ _; rw [wrs_count, hcx]; have := HN.out; omega
      have HCy : Hid ((wrs (new k0 k1) cu).count ≤ 1000000) := by show _ ≤ _; rw [wrs_count, hcx]; have := HM.out; omega
      clear hhY hcg HX6 HY6 HK6 B6 HO6 hcx
      generalize wrs (new k0 k1) l = hx at *
      generalize wrs (new k0 k1) cu = hy at *
      go_wp2_with fail
      go_loopw [13] (fun i wr => ∃ k : Nat, k ≤ n ∧ i = .int .i64 k ∧ MemRel w wY gX gY w1.heap.size hx hy k0 k1 X n cX wr) (fun i _ => n - (intOf i).toNat)
      case atStart => exact ⟨0, Nat.zero_le _, rfl, HR7.out⟩
      case round =>
        obtain ⟨k, hk, rfl, hX, hY, hB, hK, lc, hlc, ho⟩ := hrel
        by_cases hlt : k < n
        · obtain ⟨gc, cc, ec, hg1, hg2, fz, cl, st⟩ := own_set0 ho k hlt
          have hkl : k < lc.length := by omega
          have cl' : wr.cell? ⟨gc, k, none⟩ = some (vb lc[k]) := by rw [cl]; simp [hkl]
          have ho2 := st (vb (lc[k] + 1))
          rw [show (lc.map vb).set k (vb (lc[k] + 1)) = (lc.set k (lc[k] + 1)).map vb by rw [List.map_set]] at ho2
          have hcs : Chg [gc] wr (wr.setCell ⟨gc, k, none⟩ (vb (lc[k] + 1))) := chg_set _ _ _ _
          have HN2 : Hid (MemRel w wY gX gY w1.heap.size hx hy k0 k1 X n cX (wr.setCell ⟨gc, k, none⟩ (vb (lc[k] + 1)))) :=
            ⟨hcs.blk hX (by simp; omega), hcs.blk hY (by simp; omega), hB.trans (hcs.below hB.size (by simp; omega)), hcs.blk hK (by simp; omega), lc.set k (lc[k] + 1), by simpa using hlc, ho2⟩
          cases ec
          have i0 : (0 : Int) ≤ (k : Int) := by omega
          have i1 : (k : Int) < (n : Int) := by omega
          clear cl st ho2 hcs hX hY hB hK ho
          generalize lc[k] = x at *
          go_wp2_with fail
          rw [u8_inc]
          go_roundw
          case rel => exact ⟨k + 1, by omega, by go_num, HN2.out⟩
          case measure => simp [intOf]; omega
        · have hs4 : w1.heap.size < wr.heap.size := (Array.getElem?_eq_some_iff.1 hK).1
          have m0 : ∀ w', Below wr.heap.size wr w' → w'.cell? ⟨w1.heap.size, 0, none⟩ = some (vw k0) := fun w' h => (cell_of_row _ _ 0 _ _ _ ((h.block _ hs4).trans hK)).trans rfl
          have m1 : ∀ w', Below wr.heap.size wr w' → w'.cell? ⟨w1.heap.size, 1, none⟩ = some (vw k1) := fun w' h => (cell_of_row _ _ 1 _ _ _ ((h.block _ hs4).trans hK)).trans rfl
          have PX : ∀ w', Below wr.heap.size wr w' → Hid (Calls Try.prog 11 #[.agg #[vw k0, vw k1], .slice A n cap] w' fun e w'' => e = .returned (vw (sum k0 k1 l)) ∧ Below wr.heap.size wr w'') := fun w' h =>
            calls_below h (sum_calls k0 k1 A n cap l w' HN.out (RB.below HR.out (hB.trans (h.mono hB.size))) (by omega))
          have PY : ∀ w', Below wr.heap.size wr w' → Hid (Calls Try.prog 11 #[.agg #[vw k0, vw k1], .slice C m ccap] w' fun e w'' => e = .returned (vw (sum k0 k1 cu)) ∧ Below wr.heap.size wr w'') := fun w' h =>
            calls_below h (sum_calls k0 k1 C m ccap cu w' HM.out (RB.below HRC.out (hB.trans (h.mono hB.size))) (by omega))
          have QX : ∀ w', Below wr.heap.size wr w' → Hid (Calls Try.prog 18 #[.pointer (some ⟨gX, 0, none⟩)] w' fun e w'' => e = .returned (vw (sum k0 k1 l)) ∧ Below wr.heap.size wr w'') := fun w' h => by
            rw [HSx.out]; exact calls_below h (sumH_calls gX _ w' (IsH.below hX h) HCx.out)
          have QY : ∀ w', Below wr.heap.size wr w' → Hid (Calls Try.prog 18 #[.pointer (some ⟨gY, 0, none⟩)] w' fun e w'' => e = .returned (vw (sum k0 k1 cu)) ∧ Below wr.heap.size wr w'') := fun w' h => by
            rw [HSy.out]; exact calls_below h (sumH_calls gY _ w' (IsH.below hY h) HCy.out)
          have HB := Lib.hid hB
          clear hX hY hB hK ho hlc
          generalize sum k0 k1 l = x at *
          generalize sum k0 k1 cu = y at *
          go_wp2_with fail
          go_region_held3 (fun w' => Below wr.heap.size wr w') (first | exact (Below.refl _ _).drew | assumption) (first | (go_at_call_of 18 (Value.pointer (some ⟨gX, 0, none⟩)); refine (QX _ (by assumption)).out.mono ?_; rintro e wA ⟨rfl, hsA⟩) | (go_at_call_of 18 (Value.pointer (some ⟨gY, 0, none⟩)); refine (QY _ (by assumption)).out.mono ?_; rintro e wB ⟨rfl, hsB⟩) | (go_at_call 11; first | (with_reducible refine (PX _ (by assumption)).out.mono ?_; rintro e wC ⟨rfl, hsC⟩) | (with_reducible refine (PY _ (by assumption)).out.mono ?_; rintro e wD ⟨rfl, hsD⟩)))
          all_goals
            clear m0 m1 PX PY QX QY
            go_wp2_with fail
            go_ret
            exact ⟨rfl, by first | exact HB.out.trans (hsD.mono HB.out.size) | exact HB.out.trans (hsB.mono HB.out.size)⟩
    · go_enter Try.func7, Try.ntmps7
      go_wp2_with fail; refine (awake_calls w).mono ?_; rintro e w1 ⟨rfl, hb⟩; have B1 := Lib.hid hb; clear hb; go_wp2_with fail
      go_ret
      exact ⟨rfl, B1.out⟩
  · go_enter Try.func7, Try.ntmps7
    go_wp2_with fail; refine (awake_calls w).mono ?_; rintro e w1 ⟨rfl, hb⟩; have B1 := Lib.hid hb; clear hb; go_wp2_with fail
    go_ret
    exact ⟨rfl, B1.out⟩
end Sp
end Go.Proofs.Ythjplfflkdnfnaa
