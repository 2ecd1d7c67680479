/- The walks of bytes.Clone, channel.New, data, Ack and the short ones. -/
import Derived.Test.YtjmcmilbkhacdaaTnG
namespace Go.Proofs.Ytjmcmilbkhacdaa
open Go.RowKit Go.Shelf
open Wi Wr
namespace Tc
/-- a new byte string -/
def MadeB (B : Nat) (l : List UInt8) (w : World) (e : Ending) (w' : World) : Prop := ∃ X c, e = .returned (.slice X l.length c) ∧ Pl B w' X l c ∧ Below w.heap.size w w'
set_option maxRecDepth 100000 in
set_option maxHeartbeats 1000000 in
theorem bclone_calls (B : Nat) (A : Option Addr) (n c : Nat) (l : List UInt8) (w : World) (hn : l.length = n) (hr : RB w A l) (hm : n ≤ 1000000) :
    Calls Try.prog 21 #[.slice A n c] w (MadeB B l w) := by
  have HN := Lib.hid hn
  have HR := Lib.hid hr
  clear hn hr
  cases A with
  | none =>
    have hl : l = [] := by
      cases l with
      | nil => rfl
      | cons x l => obtain ⟨_, _, e, _⟩ := HR.out 0 (vb x) rfl; cases e
    subst hl
    obtain rfl : n = 0 := HN.out.symm
    have hq := fun w' => Lib.run_eql_slice_nil (P := Try.prog) w' 32 5 none 0 c 0 0 Try.underlying32
    go_enter Try.func21, Try.ntmps21
    go_wp2_with fail
    go_ret
    exact ⟨none, 0, rfl, ⟨RB.nil, Nat.le_refl _, by simp only [maxLen]; omega, by simp⟩, Below.refl _ _⟩
  | some a =>
    have hq := fun w' => Lib.run_eql_slice_nil (P := Try.prog) w' 32 5 (some a) n c 0 0 Try.underlying32
    go_enter Try.func21, Try.ntmps21
    go_wp2_with (at_builtin; refine wpList_apps _ rfl (.tmp 5) (.tmp 6) 32 rfl w.heap.size 5 (.int .u8 0) 1 Try.underlying32 info_u8 rfl (.slice (some ⟨w.heap.size, 0, none⟩) 0 0) 0 [] rfl (own_empty _ _ _ _ rfl (Nat.le_refl _)) (some a) n c (l.map vb) rfl (by simp; exact HN.out) (Rd.alloc HR.out _) (vb_one _) (by simp only [maxLen]; omega) (by omega) (by simp) ?_; intro X cX w5 hown5 happ5; have HO5 := Lib.hid hown5; have HP5 := Lib.hid happ5; clear hown5 happ5)
    go_ret
    have hb5 : Below w.heap.size w w5 := (below1 w _).trans (HP5.out.below (own_empty w.heap.size _ _ _ rfl (Nat.le_refl _)) (by simp))
    refine ⟨X, cX, by rw [HN.out]; simp, Pl.own (B' := w.heap.size) (k := n) ?_ HN.out, hb5⟩
    have := HO5.out
    simpa using this
/-- a row of one byte -/
theorem one_ext (w : World) (k : UInt8) : Ext (w.alloc (.cells #[vb k] 5)) w.heap.size (.slice (some ⟨w.heap.size, 0, none⟩) 1 1) [k] (.slice (some ⟨w.heap.size, 0, none⟩) 1 1) (w.alloc (.cells #[vb k] 5)) :=
  ⟨some ⟨w.heap.size, 0, none⟩, 1, rfl, ⟨rfl, .inr ⟨w.heap.size, 1, #[vb k], rfl, Nat.le_refl _, heap_alloc_new _ _, Nat.le_refl _, by simp only [maxLen]; omega, rfl, rfl⟩⟩, App.refl _ _⟩
def ackD (r : Nat) : List UInt8 := 2 :: enc r
def datD (s : Nat) (l : List UInt8) : List UInt8 := 1 :: (enc s ++ l)
theorem enc_le9 (s : Nat) : (enc s).length ≤ 9 := by rw [enc_len]; have := digits_len_le s; omega
theorem u64_of {s : Nat} (h : s ≤ 1000000000) : IntKind.u64.wrap ((s : Nat) : Int) = (s : Int) := by
  simp [IntKind.wrap, IntKind.bits, IntKind.signed]; omega
/-- the head of a datagram -/
theorem head_calls (k : UInt8) (s : Nat) (w : World) (hs : s ≤ 1000000000) : Calls Try.prog 34 #[.slice (some ⟨w.heap.size, 0, none⟩) 1 1, .int .u64 (s : Int)] (w.alloc (.cells #[vb k] 5)) fun e w' => ∃ X c, e = .returned (.slice X (1 + (enc s).length) c) ∧ w'.ownsRow w.heap.size 5 1 (.slice X (1 + (enc s).length) c) (1 + (enc s).length) ((k :: enc s).map vb) ∧ Below w.heap.size w w' := by
  have h := appendUint_calls w.heap.size _ [k] (BitVec.ofNat 64 s) _ (one_ext w k) (by simp) (by simp)
  rw [show vw (BitVec.ofNat 64 s) = .int .u64 (s : Int) by simp [BitVec.toNat_ofNat]; omega, show (BitVec.ofNat 64 s).toNat = s by simp [BitVec.toNat_ofNat]; omega] at h
  refine h.mono ?_
  rintro e w' ⟨v, rfl, X, c, rfl, ho, ha⟩
  have hl : ([k] ++ enc s).length = 1 + (enc s).length := by simp; omega
  obtain ⟨_, _, _, ho1, _⟩ := one_ext w k
  have hb := (below1 w (.cells #[vb k] 5)).trans (ha.below (n := 1) (B := w.heap.size) (xs := [vb k]) ⟨rfl, .inr ⟨w.heap.size, 1, #[vb k], rfl, Nat.le_refl _, heap_alloc_new _ _, Nat.le_refl _, by simp only [maxLen]; omega, rfl, rfl⟩⟩ (by simp))
  rw [hl] at ho ⊢
  exact ⟨X, c, rfl, ho, hb⟩
set_option maxRecDepth 100000 in
set_option maxHeartbeats 1000000 in
theorem ack_calls (B0 B g q r n : Nat) (E : Nat → Option Bs) (w : World) (h : IsC B0 w g q r n E) (hr : r ≤ 1000000000) : Calls Try.prog 20 #[.pointer (some ⟨g, 0, none⟩)] w (MadeB B (ackD r) w) := by
  have hgl : g < w.heap.size := (Array.getElem?_eq_some_iff.1 h.hd).1
  have c2 : w.cell? ⟨g, 2, none⟩ = some (.int .i64 (r : Int)) := (cell_of_row _ _ 2 _ _ _ h.hd).trans rfl
  have c2n : ∀ o, (w.alloc o).cell? ⟨g, 2, none⟩ = some (.int .i64 (r : Int)) := fun o => (World.cell?_alloc_lt w o ⟨g, 2, none⟩ hgl).trans c2
  have HU := Lib.hid (head_calls 2 r w hr)
  have huw := u64_of hr
  clear h
  go_enter Try.func20, Try.ntmps20
  go_wp2_with fail
  refine HU.out.mono ?_
  rintro e w1 ⟨X, c, rfl, ho, hb⟩
  have HO := Lib.hid ho
  have HB := Lib.hid hb
  clear ho hb
  go_wp2_with fail
  go_ret
  have hl : (ackD r).length = 1 + (enc r).length := by simp [ackD]; omega
  refine ⟨X, c, by rw [hl]; rfl, Pl.own (B' := w.heap.size) (k := 1 + (enc r).length) HO.out hl, HB.out⟩
set_option maxRecDepth 100000 in
set_option maxHeartbeats 1000000 in
theorem data_calls (B s : Nat) (A : Option Addr) (n c : Nat) (l : List UInt8) (w : World) (hs : s ≤ 1000000000) (hn : l.length = n) (hr : RB w A l) (hm : n ≤ 1000000) :
    Calls Try.prog 22 #[.int .i64 (s : Int), .slice A n c] w (MadeB B (datD s l) w) := by
  have HN := Lib.hid hn
  have HR := Lib.hid hr
  have HU := Lib.hid (head_calls 1 s w hs)
  have huw := u64_of hs
  clear hn hr
  have h9 := enc_le9 s
  go_enter Try.func22, Try.ntmps22
  go_wp2_with fail
  refine HU.out.mono ?_
  rintro e w1 ⟨X, c1, rfl, ho, hb⟩
  have HO := Lib.hid ho
  have HB := Lib.hid hb
  clear ho
  have HR1 := Lib.hid (HR.out.below hb)
  have hbs := hb.size
  clear hb
  obtain ⟨m, HM⟩ : ∃ y, Hid ((enc s).length = y) := ⟨_, Lib.hid rfl⟩
  rw [HM.out] at HO h9 ⊢
  go_wp2_with (at_builtin; refine wpList_apps _ rfl (.tmp 8) (.tmp 9) 32 rfl w.heap.size 5 (.int .u8 0) 1 Try.underlying32 info_u8 rfl (.slice X (1 + m) c1) (1 + m) ((1 :: enc s).map vb) rfl HO.out A n c (l.map vb) rfl (by simp; exact HN.out) HR1.out (vb_one _) (by simp only [maxLen]; omega) (by omega) hbs ?_; intro X5 c5 w5 hown5 happ5; have HO5 := Lib.hid hown5; have HP5 := Lib.hid happ5; clear hown5 happ5)
  go_ret
  have hl : (datD s l).length = 1 + m + n := by simp [datD, HN.out, HM.out]; omega
  refine ⟨X5, c5, by rw [hl]; rfl, Pl.own (B' := w.heap.size) (k := 1 + m + n) ?_ hl, HB.out.trans (HP5.out.below HO.out hbs)⟩
  have := HO5.out
  rw [← List.map_append] at this
  exact this
set_option maxRecDepth 100000 in
set_option maxHeartbeats 1000000 in
theorem chNew_calls (B : Nat) (w : World) (hB : B ≤ w.heap.size) : Calls Try.prog 5 #[] w fun e w' => ∃ g q, e = .returned (.pointer (some ⟨g, 0, none⟩)) ∧ IsC B w' g q 0 0 (fun _ => none) ∧ w.heap.size ≤ g ∧ w.heap.size ≤ q ∧ Below w.heap.size w w' := by
  have hb2 := below2 w (.map #[] 0) (.cells #[.int .i64 0, .int .i64 0, .int .i64 0, .slice none 0 0, .map (some w.heap.size)] 45)
  have k1 : ((w.alloc (.map #[] 0)).alloc (.cells #[.int .i64 0, .int .i64 0, .int .i64 0, .slice none 0 0, .map (some w.heap.size)] 45)).heap[w.heap.size + 1]? = _ := heap_alloc2_new _ _ _
  have hm : ((w.alloc (.map #[] 0)).alloc (.cells #[.int .i64 0, .int .i64 0, .int .i64 0, .slice none 0 0, .map (some w.heap.size)] 45)).ownsMap Try.prog 3 rv w.heap.size 0 (.map []) := (World.ownsMap_made w _ _ _).alloc _
  have HB := Lib.hid hb2
  have HK := Lib.hid k1
  have HM := Lib.hid hm
  clear hb2 k1 hm
  have hmm := @run_makeMap Try.prog
  go_enter Try.func5, Try.ntmps5
  go_wp2_with fail
  go_ret
  refine ⟨w.heap.size + 1, w.heap.size, by simp, ⟨HK.out, by omega, ⟨⟨_, HM.out, fun s _ => ⟨rfl, fun x hx => (by cases hx)⟩⟩, fun s x hx => (by cases hx), hB⟩⟩, by omega, Nat.le_refl _, HB.out⟩
set_option maxRecDepth 100000 in
theorem acked_calls (g : Nat) (k : Int) (v0 v2 v3 v4 : Value) (w : World) (h : w.heap[g]? = some (Obj.cells #[v0, .int .i64 k, v2, v3, v4] 45 (0, 0))) : Calls Try.prog 10 #[.pointer (some ⟨g, 0, none⟩)] w fun e w' => e = .returned (.int .i64 k) ∧ w = w' := by
  have c1 : w.cell? ⟨g, 1, none⟩ = some (.int .i64 k) := (cell_of_row _ _ 1 _ _ _ h).trans rfl
  clear h
  go_enter Try.func10, Try.ntmps10
  go_wp2_with fail
  go_ret
  exact ⟨rfl, rfl⟩
set_option maxRecDepth 100000 in
theorem received_calls (g : Nat) (k : Int) (v0 v1 v3 v4 : Value) (w : World) (h : w.heap[g]? = some (Obj.cells #[v0, v1, .int .i64 k, v3, v4] 45 (0, 0))) : Calls Try.prog 12 #[.pointer (some ⟨g, 0, none⟩)] w fun e w' => e = .returned (.int .i64 k) ∧ w = w' := by
  have c1 : w.cell? ⟨g, 2, none⟩ = some (.int .i64 k) := (cell_of_row _ _ 2 _ _ _ h).trans rfl
  clear h
  go_enter Try.func12, Try.ntmps12
  go_wp2_with fail
  go_ret
  exact ⟨rfl, rfl⟩
end Tc
end Go.Proofs.Ytjmcmilbkhacdaa
