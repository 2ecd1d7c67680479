/- The walks of wire.AppendID and refmeshref02.ID. -/
import Derived.Test.YtddoepaplbnlcaaWrO
namespace Go.Proofs.Ytddoepaplbnlcaa
open Go.RowKit
namespace Wi
open Wr

/-- the word of an integer -/
def u64n (n : Int) : Nat := (IntKind.u64.wrap n).toNat
theorem u64n_cast (n : Int) : (u64n n : Int) = IntKind.u64.wrap n := by unfold u64n; rw [IntKind.wrap_u64]; omega
theorem u64n_lt (n : Int) : u64n n < 18446744073709551616 := by unfold u64n; rw [IntKind.wrap_u64]; omega
theorem u64n_of (n : Int) (h0 : 0 ≤ n) (h : n < 18446744073709551616) : (u64n n : Int) = n := by rw [u64n_cast, IntKind.wrap_u64]; omega
def encID (m s : Int) : List UInt8 := enc (u64n m) ++ enc (u64n s)

theorem Ext.start {w : World} {B : Nat} {v0 : Value} {l : List UInt8} (h : Ext w B v0 l v0 w) {w' : World} (hb : Below w.heap.size w w') : Ext w' B v0 l v0 w' := by
  obtain ⟨X, c, e, ho, ha⟩ := h
  exact ⟨X, c, e, own_below ho hb, e ▸ App.refl _ _⟩
theorem Ext.again {w w' : World} {B : Nat} {v0 v : Value} {l : List UInt8} (h : Ext w B v0 l v w') : Ext w' B v l v w' := by
  obtain ⟨X, c, e, ho, ha⟩ := h
  exact ⟨X, c, e, ho, e ▸ App.refl _ _⟩
theorem Ext.trans {w w1 w2 : World} {B : Nat} {v0 v1 v2 : Value} {l l2 : List UInt8} (h : Ext w B v0 l v1 w1) (k : Ext w1 B v1 l2 v2 w2) : Ext w B v0 l2 v2 w2 := by
  obtain ⟨X, c, e, ho, ha⟩ := h
  obtain ⟨X', c', e', ho', ha'⟩ := k
  subst e
  exact ⟨X', c', e', ho', ha.trans ha'⟩
theorem Ext.from {w w1 w2 : World} {B : Nat} {v0 v : Value} {l : List UInt8} (hb : Below w.heap.size w w1) (h : Ext w1 B v0 l v w2) : Ext w B v0 l v w2 := by
  obtain ⟨X, c, e, ho, ha⟩ := h
  exact ⟨X, c, e, ho, ha.below_left hb⟩
theorem Ext.chg {w w1 : World} {B : Nat} {v0 v : Value} {l : List UInt8} (h : Ext w B v0 l v w1) : Chg v0.ownBlock.toList w w1 := by
  obtain ⟨X, c, e, ho, ha⟩ := h
  exact ha.chg (by intro b hb; rw [hb]; simp)
theorem below_drew (w : World) : Below w.heap.size w w.drew := (Below.refl _ _).drew

set_option maxRecDepth 100000 in
set_option maxHeartbeats 1000000 in
theorem appendID_calls (B : Nat) (v0 : Value) (l : List UInt8) (m s : Int) (w : World) (ho : Ext w B v0 l v0 w) (hl : l.length ≤ 900000) (hB : B ≤ w.heap.size) :
    Calls Try.prog 59 #[v0, .agg #[.int .i64 m, .int .i64 s]] w (ExtPost w B v0 (l ++ encID m s)) := by
  have HE := Lib.hid ho
  have hel := enc_len (u64n m)
  have h8 := digits_len_le (u64n m)
  have hl2 : (l ++ enc (u64n m)).length ≤ 900009 := by simp; omega
  have hown : ∀ b, v0.ownBlock = some b → b < w.heap.size := by
    obtain ⟨X, c, e, ho, _⟩ := ho
    subst e
    exact fun b hb => (ho.lt b hb).2
  obtain ⟨X0, c0, e0, _, _⟩ := ho
  subst e0
  have hk := heap_alloc_new w (.cells #[.int .i64 m, .int .i64 s] 30)
  have hb1 := below1 w (.cells #[.int .i64 m, .int .i64 s] 30)
  obtain ⟨S, HS⟩ : ∃ S, Hid (S = (Value.slice X0 l.length c0).ownBlock.toList) := ⟨_, rfl⟩
  have hS : w.heap.size ∉ S := by rw [HS.out]; simp only [Option.mem_toList]; intro h; have := hown _ h; omega
  clear hel h8 hown
  go_enter Try.func59, Try.ntmps59
  go_wp2_with fail
  generalize w.alloc (.cells #[.int .i64 m, .int .i64 s] 30) = w3 at *
  have m0 : ∀ w', Chg S w3 w' → w'.cell? ⟨w.heap.size, 0, none⟩ = some (.int .i64 m) := fun w' h => (h.cellAt hk hS).trans rfl
  have m1 : ∀ w', Chg S w3 w' → w'.cell? ⟨w.heap.size, 1, none⟩ = some (.int .i64 s) := fun w' h => (h.cellAt hk hS).trans rfl
  have hB3 : B ≤ w3.heap.size := Nat.le_trans hB hb1.size
  have HU := Lib.hid (appendNat_calls B _ l (u64n m) (u64n_lt m) w3.drew (HE.out.start (hb1.trans ((below_drew w3).mono hb1.size))) (by omega) hB3)
  rw [u64n_cast] at HU
  have HB1 := Lib.hid hb1
  have HU2 : Hid (∀ v1 w4, Ext w3.drew B (.slice X0 l.length c0) (l ++ enc (u64n m)) v1 w4 → Calls Try.prog 57 #[v1, .int .u64 (IntKind.u64.wrap s)] w4 (ExtPost w4 B v1 (l ++ enc (u64n m) ++ enc (u64n s)))) := by
    intro v1 w4 h
    rw [← u64n_cast]
    exact appendNat_calls B v1 _ (u64n s) (u64n_lt s) w4 h.again (by omega) (Nat.le_trans hB3 h.size)
  clear hk hb1
  have tok : True := trivial
  go_region_held3 (fun w' => Chg S w3 w') (first | exact (Chg.refl _ _).drew | assumption) (first | (go_at_call 57; have _t := tok; refine HU.out.mono ?_; rintro e w4 ⟨v4, rfl, hx4⟩; have HX4 := Lib.hid hx4; have hc4 : Chg S w3 w4 := (Chg.refl S w3).drew.trans' (by rw [HS.out]; exact hx4.chg); clear hx4 tok _t) | (go_at_call 57; refine (HU2.out _ _ HX4.out).mono ?_; rintro e w5 ⟨v5, rfl, hx5⟩; have HX5 := Lib.hid hx5; have hc5 : Chg S w3 w5 := (Chg.refl S w3).drew.trans' (by rw [HS.out]; exact (HX4.out.trans hx5).chg); clear hx5))
  go_wp2_with fail
  go_ret
  refine ⟨v5, rfl, ?_⟩
  unfold encID
  rw [← List.append_assoc]
  exact Ext.from (HB1.out.trans ((below_drew w3).mono HB1.out.size)) (HX4.out.trans HX5.out)

set_option maxRecDepth 100000 in
set_option maxHeartbeats 1000000 in
theorem rid_calls (A : Option Addr) (k cap : Nat) (l : List UInt8) (m s : Int) (w : World) (hl : l.length = k) (hr : RB w A l) (hm : k ≤ 900000) :
    Calls Try.prog 62 #[.slice A k cap, .agg #[.int .i64 m, .int .i64 s]] w (NewB w (l ++ encID m s)) := by
  have hel := enc_len (u64n m)
  have h8 := digits_len_le (u64n m)
  have hl2 : (l ++ enc (u64n m)).length ≤ 900009 := by simp; omega
  have hk := heap_alloc_new w (.cells #[.int .i64 m, .int .i64 s] 30)
  have hb1 := below1 w (.cells #[.int .i64 m, .int .i64 s] 30)
  have HR := Lib.hid hr
  have HL := Lib.hid hl
  clear hel h8 hl hr
  go_enter Try.func62, Try.ntmps62
  go_wp2_with fail
  generalize w.alloc (.cells #[.int .i64 m, .int .i64 s] 30) = w3 at *
  have hs3 : w.heap.size < w3.heap.size := (Array.getElem?_eq_some_iff.1 hk).1
  have m0 : ∀ w', Below w3.heap.size w3 w' → w'.cell? ⟨w.heap.size, 0, none⟩ = some (.int .i64 m) := fun w' h => (cell_of_row _ _ 0 _ _ _ ((h.block _ hs3).trans hk)).trans rfl
  have m1 : ∀ w', Below w3.heap.size w3 w' → w'.cell? ⟨w.heap.size, 1, none⟩ = some (.int .i64 s) := fun w' h => (cell_of_row _ _ 1 _ _ _ ((h.block _ hs3).trans hk)).trans rfl
  have HU := Lib.hid (ruint_calls A k cap l (u64n m) w3.drew HL.out (RB.below (RB.below HR.out hb1) (below_drew w3)) (by omega) (u64n_lt m))
  rw [u64n_cast] at HU
  have HB1 := Lib.hid hb1
  have HU2 : Hid (∀ X c k w4, OB w4 w3.heap.size (.slice X k c) (l ++ enc (u64n m)) → Calls Try.prog 60 #[.slice X k c, .int .u64 (IntKind.u64.wrap s)] w4 (NewB w4 (l ++ enc (u64n m) ++ enc (u64n s)))) := by
    intro X c k w4 h
    rw [← u64n_cast]
    obtain ⟨h1, h2, _⟩ := h.rb
    exact ruint_calls X k c _ (u64n s) w4 h2.symm h1 (by omega) (u64n_lt s)
  clear hk hb1
  have tok : True := trivial
  go_region_held3 (fun w' => Below w3.heap.size w3 w') (first | exact (Below.refl _ _).drew | assumption) (first | (go_at_call 60; have _t := tok; refine HU.out.mono ?_; rintro e w4 ⟨X4, c4, k4, rfl, hk4, ho4, hb4⟩; have HO4 := Lib.hid ho4; have hc4 : Below w3.heap.size w3 w4 := (below_drew w3).trans hb4; clear hk4 ho4 hb4 tok _t) | (go_at_call 60; refine (HU2.out _ _ _ _ HO4.out).mono ?_; rintro e w5 ⟨X5, c5, k5, rfl, hk5, ho5, hb5⟩; have HK5 := Lib.hid hk5; have HO5 := Lib.hid ho5; have hc5 : Below w3.heap.size w3 w5 := hc4.trans (hb5.mono hc4.size); clear hk5 ho5 hb5))
  go_wp2_with fail
  go_ret
  have hw : w.heap.size ≤ w4.heap.size := Nat.le_trans HB1.out.size hc4.size
  refine ⟨X5, c5, k5, rfl, ?_, ?_, HB1.out.trans (hc5.mono HB1.out.size)⟩
  · unfold encID; rw [← List.append_assoc]; exact HK5.out
  · unfold encID; rw [← List.append_assoc]; exact HO5.out.base hw
end Wi
end Go.Proofs.Ytddoepaplbnlcaa
