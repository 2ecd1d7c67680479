/- The walk of refmeshlaw26.step. -/
import Derived.Test.YtmdconcbelmdpaaLsD
namespace Go.Proofs.Ytmdconcbelmdpaa
open Go.RowKit
namespace Ls

/-- a call of the law -/
structure Cl where
  kind : UInt8
  cl : Int
  ro : Int
  ti : Int
def Cl.fits (c : Cl) : Prop := -9223372036854775808 ≤ c.cl ∧ c.cl ≤ 9223372036854775807
def Cl.val (c : Cl) : Value := .agg #[vb c.kind, .int .i64 c.cl, .int .i64 c.ro, .int .i64 c.ti]
/-- the state after a call -/
def next (L : St) (c : Cl) : St :=
  if c.kind = 0 ∨ c.kind = 1 then hear L c.cl c.ro c.ti else if c.kind = 2 then { L with c := L.c + 1 } else L

def StepPost (w : World) (g : Nat) (L : St) (c : Cl) (e : Ending) (w' : World) : Prop :=
  ∃ v, e = .returned (.tuple #[v, .bool true]) ∧ IsL w' g (next L c) ∧ IsR w' v (next L c) ∧ Chg [g] w w'

set_option maxRecDepth 100000 in
set_option maxHeartbeats 1000000 in
theorem step_other (g : Nat) (v : Value) (L : St) (c : Cl) (w : World) (hL : IsL w g L) (hR : IsR w v L) (h0 : c.kind ≠ 0) (h1 : c.kind ≠ 1) (h2 : c.kind ≠ 2) :
    Calls Try.prog 26 #[.pointer (some ⟨g, 0, none⟩), v, c.val] w (StepPost w g L c) := by
  have HN : Hid (next L c = L) := by show _ = _; unfold next; rw [if_neg (by simp [h0, h1]), if_neg h2]
  obtain ⟨kd, cl, ro, ti⟩ := c
  have HL := Lib.hid hL
  have HR := Lib.hid hR
  obtain ⟨_, A, ca, B, cb, rfl, _, _⟩ := hR
  have d0 : ((kd.toNat : Int) == 0) = false := by rw [beq_eq_false_iff_ne]; intro hc; exact h0 (UInt8.toNat_inj.1 (by simp; omega))
  have d1 : ((kd.toNat : Int) == 1) = false := by rw [beq_eq_false_iff_ne]; intro hc; exact h1 (UInt8.toNat_inj.1 (by simp; omega))
  have d2 : ((kd.toNat : Int) == 2) = false := by rw [beq_eq_false_iff_ne]; intro hc; exact h2 (UInt8.toNat_inj.1 (by simp; omega))
  clear hL h0 h1 h2
  unfold Cl.val
  go_enter Try.func26, Try.ntmps26
  go_wp2_with fail
  have hb3 : Below w.heap.size w (((w.alloc (.cells #[.slice A L.m ca, .slice B L.m cb, .int .i64 L.c] 27)).alloc (.cells #[vb kd, .int .i64 cl, .int .i64 ro, .int .i64 ti] 43)).alloc (.cells #[.slice A L.m ca, .slice B L.m cb, .int .i64 L.c] 27)) :=
    (((Below.refl _ _).alloc (Nat.le_refl _) _).alloc (by simp) _).alloc (by simp; omega) _
  refine bodyPost_ret (results_cell_tmp rfl _ _ (w.heap.size + 1 + 1) 27 #[.slice A L.m ca, .slice B L.m cb, .int .i64 L.c] (0, 0) _ rfl (heap3_c _ _ _ _) Try.underlying27 rfl size_leases) rfl ⟨_, rfl, ?_, ?_, Chg.of_below hb3 _⟩
  · rw [HN.out]; exact HL.out.below hb3
  · rw [HN.out]; exact HR.out.below hb3

set_option maxRecDepth 100000 in
set_option maxHeartbeats 1000000 in
theorem step_next (g : Nat) (v : Value) (L : St) (c : Cl) (w : World) (hL : IsL w g L) (hR : IsR w v L) (h2 : c.kind = 2) (hc1 : 0 ≤ L.c) (hc2 : L.c ≤ 1000) :
    Calls Try.prog 26 #[.pointer (some ⟨g, 0, none⟩), v, c.val] w (StepPost w g L c) := by
  have HN : Hid (next L c = { L with c := L.c + 1 }) := by show _ = _; unfold next; rw [h2]; rfl
  obtain ⟨kd, cl, ro, ti⟩ := c
  obtain rfl : kd = 2 := h2
  have HL := Lib.hid hL
  have HR := Lib.hid hR
  obtain ⟨hm8, A, ca, B, cb, rfl, hA, hB⟩ := hR
  have HA := Lib.hid hA
  have HB := Lib.hid hB
  clear hL hA hB
  unfold Cl.val
  have hvb : vb 2 = .int .u8 2 := rfl
  rw [hvb]
  clear hvb
  go_enter Try.func26, Try.ntmps26
  go_wp2_with fail
  have hbx : (((w.alloc (.cells #[.slice A L.m ca, .slice B L.m cb, .int .i64 (L.c + 1)] 27)).alloc (.cells #[.int .u8 2, .int .i64 cl, .int .i64 ro, .int .i64 ti] 43)).alloc (.cells #[.slice none 0 0, .slice none 0 0, .int .i64 0] 27)).heap[w.heap.size]? = _ := heap3_a _ _ _ _
  have hrb : (((w.alloc (.cells #[.slice A L.m ca, .slice B L.m cb, .int .i64 (L.c + 1)] 27)).alloc (.cells #[.int .u8 2, .int .i64 cl, .int .i64 ro, .int .i64 ti] 43)).alloc (.cells #[.slice none 0 0, .slice none 0 0, .int .i64 0] 27)).heap[w.heap.size + 1 + 1]? = _ := heap3_c _ _ _ _
  have hb3 : Below w.heap.size w (((w.alloc (.cells #[.slice A L.m ca, .slice B L.m cb, .int .i64 (L.c + 1)] 27)).alloc (.cells #[.int .u8 2, .int .i64 cl, .int .i64 ro, .int .i64 ti] 43)).alloc (.cells #[.slice none 0 0, .slice none 0 0, .int .i64 0] 27)) := below3n _ _ _ _
  have hgl : g < w.heap.size := (Array.getElem?_eq_some_iff.1 HL.out.1).1
  generalize (((w.alloc (.cells #[.slice A L.m ca, .slice B L.m cb, .int .i64 (L.c + 1)] 27)).alloc (.cells #[.int .u8 2, .int .i64 cl, .int .i64 ro, .int .i64 ti] 43)).alloc (.cells #[.slice none 0 0, .slice none 0 0, .int .i64 0] 27)) = w3 at *
  have HL3 := Lib.hid (HL.out.below hb3)
  have HB3 := Lib.hid hb3
  have HRB := Lib.hid hrb
  have HBX := Lib.hid hbx
  have m0 : ∀ w', Chg [g, w.heap.size + 1 + 1] w3 w' → w'.cell? ⟨w.heap.size, 0, none⟩ = some (.slice A L.m ca) := fun w' h => (h.cellAt hbx (by simp; omega)).trans rfl
  have m1 : ∀ w', Chg [g, w.heap.size + 1 + 1] w3 w' → w'.cell? ⟨w.heap.size, 1, none⟩ = some (.slice B L.m cb) := fun w' h => (h.cellAt hbx (by simp; omega)).trans rfl
  have m2 : ∀ w', Chg [g, w.heap.size + 1 + 1] w3 w' → w'.cell? ⟨w.heap.size, 2, none⟩ = some (.int .i64 (L.c + 1)) := fun w' h => (h.cellAt hbx (by simp; omega)).trans rfl
  clear hrb hbx hb3
  go_region_held3 (fun w' => Chg [g, w.heap.size + 1 + 1] w3 w') (first | exact (Chg.refl _ _).drew | assumption | exact ((Chg.setCell (by assumption) (.inl (by simp)) _).setCell (.inl (by simp)) _).setCell (.inl (by simp)) _)
    (first | (go_at_call 21; refine (next_calls g L w3.drew HL3.out (by omega) (by omega)).mono ?_; rintro e w4 ⟨rfl, hl4, hc4⟩; have HL4 := Lib.hid hl4; have HC := Lib.hid (((Chg.refl [g] w3).drew).trans' hc4); have hc := HC.out.mono (S' := [g, w.heap.size + 1 + 1]) (by simp); have n0 : w4.cell? ⟨w.heap.size + 1 + 1, 0, none⟩ = some (.slice none 0 0) := (HC.out.cellAt HRB.out (by simp; omega)).trans rfl; have n1 : w4.cell? ⟨w.heap.size + 1 + 1, 1, none⟩ = some (.slice none 0 0) := (HC.out.cellAt HRB.out (by simp; omega)).trans rfl; have n2 : w4.cell? ⟨w.heap.size + 1 + 1, 2, none⟩ = some (.int .i64 0) := (HC.out.cellAt HRB.out (by simp; omega)).trans rfl; have f0 : w4.frozen? ⟨w.heap.size + 1 + 1, 0, none⟩ = false := HC.out.frozenAt HRB.out (by simp; omega); have f1 : w4.frozen? ⟨w.heap.size + 1 + 1, 1, none⟩ = false := HC.out.frozenAt HRB.out (by simp; omega); have f2 : w4.frozen? ⟨w.heap.size + 1 + 1, 2, none⟩ = false := HC.out.frozenAt HRB.out (by simp; omega); clear hc4 hl4))
  have hr5 := heap_set3 (HC.out.blk HRB.out (by simp; omega)) (.slice A L.m ca) (.slice B L.m cb) (.int .i64 (L.c + 1))
  have hc5 := chg_set3 w4 (w.heap.size + 1 + 1) (.slice A L.m ca) (.slice B L.m cb) (.int .i64 (L.c + 1))
  generalize ((w4.setCell ⟨w.heap.size + 1 + 1, 0, none⟩ (.slice A L.m ca)).setCell ⟨w.heap.size + 1 + 1, 1, none⟩ (.slice B L.m cb)).setCell ⟨w.heap.size + 1 + 1, 2, none⟩ (.int .i64 (L.c + 1)) = w5 at *
  have hcg : Chg [g] w w5 := ((Chg.of_below HB3.out [g]).trans' HC.out).trans hc5 (by simp; omega)
  have HCG := Lib.hid hcg
  have HR5 := Lib.hid hr5
  have HL5 : Hid (IsL w5 g { L with c := L.c + 1 }) := ⟨hc5.blk HL4.out.1 (by simp; omega), HL4.out.2⟩
  clear m0 m1 m2 n0 n1 n2 f0 f1 f2 hr5 hc5 hcg hc
  go_wp2_with fail
  refine bodyPost_ret (results_cell_tmp rfl _ _ (w.heap.size + 1 + 1) 27 #[.slice A L.m ca, .slice B L.m cb, .int .i64 (L.c + 1)] (0, 0) _ rfl HR5.out Try.underlying27 rfl size_leases) rfl ⟨_, rfl, ?_, ?_, HCG.out⟩
  · rw [HN.out]; exact HL5.out
  · rw [HN.out]
    obtain ⟨_, A', ca', B', cb', e, h1, h2⟩ := HR.out.chg HL.out HCG.out
    cases e
    exact ⟨hm8, _, _, _, _, rfl, h1, h2⟩

/-- a block that holds a struct of the reference's is not one of the slices' -/
theorem IsR.chg' {w w1 w2 : World} {v : Value} {L : St} {g R : Nat} {cs : List Value} (h : IsR w1 v L) (hc : Chg [R] w1 w2) (hR : w.heap[R]? = some (.cells cs.toArray 27 (0, 0))) (hg : Chg [g] w w1) (hne : R ∉ [g]) : IsR w2 v L := by
  obtain ⟨hm, A, ca, B, cb, rfl, h1, h2⟩ := h
  have hR1 := hg.blk hR hne
  exact ⟨hm, A, ca, B, cb, rfl, hc.own h1 (own_ne h1 hR1 (by decide)), hc.own h2 (own_ne h2 hR1 (by decide))⟩
theorem hear_m (L : St) (cl ro ti : Int) : (hear L cl ro ti).m = L.m := by unfold hear; split <;> rfl
theorem hear_c (L : St) (cl ro ti : Int) : (hear L cl ro ti).c = L.c := by unfold hear; split <;> rfl

set_option maxRecDepth 100000 in
set_option maxHeartbeats 1000000 in
theorem step_heard (g : Nat) (v : Value) (L : St) (c : Cl) (w : World) (hL : IsL w g L) (hR : IsR w v L) (h2 : c.kind = 0 ∨ c.kind = 1) (hf : c.fits) :
    Calls Try.prog 26 #[.pointer (some ⟨g, 0, none⟩), v, c.val] w (StepPost w g L c) := by
  have HN : Hid (next L c = hear L c.cl c.ro c.ti) := by show _ = _; unfold next; rw [if_pos h2]
  obtain ⟨kd, cl, ro, ti⟩ := c
  have HL := Lib.hid hL
  have HR := Lib.hid hR
  have hgl : g < w.heap.size := (Array.getElem?_eq_some_iff.1 hL.1).1
  obtain ⟨_, A, ca, B, cb, rfl, _, _⟩ := hR
  obtain ⟨hf1, hf2⟩ := hf
  simp only at hf1 hf2
  clear hL
  unfold Cl.val
  have hk : vb kd = .int .u8 0 ∨ vb kd = .int .u8 1 := by
    rcases h2 with h | h
    · simp only at h; subst h; exact .inl rfl
    · simp only at h; subst h; exact .inr rfl
  simp only
  generalize vb kd = vk at *
  have HN' : Hid (next L ⟨kd, cl, ro, ti⟩ = hear L cl ro ti) := HN
  clear h2 HN
  have HH : ∀ w', IsL w' g L → Hid (Calls Try.prog 16 #[.pointer (some ⟨g, 0, none⟩), .int .i64 cl, .int .i64 ro, .int .i64 ti] w' fun e w'' =>
      e = .returned (.int .i64 (hearE L cl ro ti)) ∧ IsL w'' g (hear L cl ro ti) ∧ Chg [g] w' w'') := fun w' h => heard_calls g L cl ro ti w' h hf2 hf1
  rcases hk with rfl | rfl
  · go_enter Try.func26, Try.ntmps26
    go_wp2_with fail
    have hcb : (((w.alloc (.cells #[.slice A L.m ca, .slice B L.m cb, .int .i64 L.c] 27)).alloc (.cells #[.int .u8 0, .int .i64 cl, .int .i64 ro, .int .i64 ti] 43)).alloc (.cells #[.slice none 0 0, .slice none 0 0, .int .i64 0] 27)).heap[w.heap.size + 1]? = _ := heap3_b _ _ _ _
    have hrb : (((w.alloc (.cells #[.slice A L.m ca, .slice B L.m cb, .int .i64 L.c] 27)).alloc (.cells #[.int .u8 0, .int .i64 cl, .int .i64 ro, .int .i64 ti] 43)).alloc (.cells #[.slice none 0 0, .slice none 0 0, .int .i64 0] 27)).heap[w.heap.size + 1 + 1]? = _ := heap3_c _ _ _ _
    have hb3 : Below w.heap.size w (((w.alloc (.cells #[.slice A L.m ca, .slice B L.m cb, .int .i64 L.c] 27)).alloc (.cells #[.int .u8 0, .int .i64 cl, .int .i64 ro, .int .i64 ti] 43)).alloc (.cells #[.slice none 0 0, .slice none 0 0, .int .i64 0] 27)) := below3n _ _ _ _
    generalize (((w.alloc (.cells #[.slice A L.m ca, .slice B L.m cb, .int .i64 L.c] 27)).alloc (.cells #[.int .u8 0, .int .i64 cl, .int .i64 ro, .int .i64 ti] 43)).alloc (.cells #[.slice none 0 0, .slice none 0 0, .int .i64 0] 27)) = w3 at *
    refine (rheard_calls _ L cl ro ti w3 (HR.out.below hb3) hf1 hf2).mono ?_
    rintro e w4 ⟨v4, rfl, hr4, hb4⟩
    have HR4 := Lib.hid hr4
    obtain ⟨_, A', ca', B', cb', rfl, _, _⟩ := hr4
    have hl3 : w.heap.size + 1 + 1 < w3.heap.size := (Array.getElem?_eq_some_iff.1 hrb).1
    have hcb4 := (hb4.block (w.heap.size + 1) (by omega)).trans hcb
    have hrb4 := (hb4.block (w.heap.size + 1 + 1) (by omega)).trans hrb
    have hbw4 := hb3.trans (hb4.mono hb3.size)
    have hl4 : w.heap.size + 1 + 1 < w4.heap.size := (Array.getElem?_eq_some_iff.1 hrb4).1
    have HCB := Lib.hid hcb4
    have HRB := Lib.hid hrb4
    have HBW := Lib.hid hbw4
    clear hcb hrb hb3 hb4 hcb4 hrb4 hbw4
    generalize hearE L cl ro ti = er at *
    generalize hear L cl ro ti = M at *
    go_wp2_with fail
    have hnb := heap_alloc_new w4 (.cells #[.slice A' M.m ca', .slice B' M.m cb', .int .i64 M.c] 27)
    have hb5 := below1 w4 (.cells #[.slice A' M.m ca', .slice B' M.m cb', .int .i64 M.c] 27)
    generalize w4.alloc (.cells #[.slice A' M.m ca', .slice B' M.m cb', .int .i64 M.c] 27) = w5 at *
    have hcb5 := (hb5.block (w.heap.size + 1) (by omega)).trans HCB.out
    have hrb5 := (hb5.block (w.heap.size + 1 + 1) (by omega)).trans HRB.out
    have HB5 := Lib.hid (HBW.out.trans (hb5.mono HBW.out.size))
    have HR5 := Lib.hid (HR4.out.below hb5)
    have HL5 := Lib.hid (HL.out.below HB5.out)
    have HRB5 := Lib.hid hrb5
    have m0 : ∀ w', Chg [g, w.heap.size + 1 + 1] w5 w' → w'.cell? ⟨w4.heap.size, 0, none⟩ = some (.slice A' M.m ca') := fun w' h => (h.cellAt hnb (by simp; omega)).trans rfl
    have m1 : ∀ w', Chg [g, w.heap.size + 1 + 1] w5 w' → w'.cell? ⟨w4.heap.size, 1, none⟩ = some (.slice B' M.m cb') := fun w' h => (h.cellAt hnb (by simp; omega)).trans rfl
    have m2 : ∀ w', Chg [g, w.heap.size + 1 + 1] w5 w' → w'.cell? ⟨w4.heap.size, 2, none⟩ = some (.int .i64 M.c) := fun w' h => (h.cellAt hnb (by simp; omega)).trans rfl
    have c1 : ∀ w', Chg [g, w.heap.size + 1 + 1] w5 w' → w'.cell? ⟨w.heap.size + 1, 1, none⟩ = some (.int .i64 cl) := fun w' h => (h.cellAt hcb5 (by simp; omega)).trans rfl
    have c2 : ∀ w', Chg [g, w.heap.size + 1 + 1] w5 w' → w'.cell? ⟨w.heap.size + 1, 2, none⟩ = some (.int .i64 ro) := fun w' h => (h.cellAt hcb5 (by simp; omega)).trans rfl
    have c3 : ∀ w', Chg [g, w.heap.size + 1 + 1] w5 w' → w'.cell? ⟨w.heap.size + 1, 3, none⟩ = some (.int .i64 ti) := fun w' h => (h.cellAt hcb5 (by simp; omega)).trans rfl
    clear hnb hcb5 hrb5 hb5 HCB HRB HBW HR4
    go_region_held3 (fun w' => Chg [g, w.heap.size + 1 + 1] w5 w') (first | exact (Chg.refl _ _).drew | assumption | exact ((Chg.setCell (by assumption) (.inl (by simp)) _).setCell (.inl (by simp)) _).setCell (.inl (by simp)) _) (first | (go_at_call 16; refine (HH w5.drew HL5.out).out.mono ?_; rintro e w6 ⟨rfl, hl6, hc6⟩; have HL6 := Lib.hid hl6; have HC := Lib.hid (((Chg.refl [g] w5).drew).trans' hc6); have hc := HC.out.mono (S' := [g, w.heap.size + 1 + 1]) (by simp); have n0 : w6.cell? ⟨w.heap.size + 1 + 1, 0, none⟩ = some (.slice none 0 0) := (HC.out.cellAt HRB5.out (by simp; omega)).trans rfl; have n1 : w6.cell? ⟨w.heap.size + 1 + 1, 1, none⟩ = some (.slice none 0 0) := (HC.out.cellAt HRB5.out (by simp; omega)).trans rfl; have n2 : w6.cell? ⟨w.heap.size + 1 + 1, 2, none⟩ = some (.int .i64 0) := (HC.out.cellAt HRB5.out (by simp; omega)).trans rfl; have f0 : w6.frozen? ⟨w.heap.size + 1 + 1, 0, none⟩ = false := HC.out.frozenAt HRB5.out (by simp; omega); have f1 : w6.frozen? ⟨w.heap.size + 1 + 1, 1, none⟩ = false := HC.out.frozenAt HRB5.out (by simp; omega); have f2 : w6.frozen? ⟨w.heap.size + 1 + 1, 2, none⟩ = false := HC.out.frozenAt HRB5.out (by simp; omega); clear hc6 hl6))
    have hr7 := heap_set3 (HC.out.blk HRB5.out (by simp; omega)) (.slice A' M.m ca') (.slice B' M.m cb') (.int .i64 M.c)
    have hc7 := chg_set3 w6 (w.heap.size + 1 + 1) (.slice A' M.m ca') (.slice B' M.m cb') (.int .i64 M.c)
    generalize ((w6.setCell ⟨w.heap.size + 1 + 1, 0, none⟩ (.slice A' M.m ca')).setCell ⟨w.heap.size + 1 + 1, 1, none⟩ (.slice B' M.m cb')).setCell ⟨w.heap.size + 1 + 1, 2, none⟩ (.int .i64 M.c) = w7 at *
    have hcg : Chg [g] w w7 := ((Chg.of_below HB5.out [g]).trans' HC.out).trans hc7 (by simp; omega)
    have HCG := Lib.hid hcg
    have HR7 := Lib.hid hr7
    have HL7 : Hid (IsL w7 g M) := ⟨hc7.blk HL6.out.1 (by simp; omega), HL6.out.2⟩
    have HQ : Hid (IsR w7 (.agg #[.slice A' M.m ca', .slice B' M.m cb', .int .i64 M.c]) M) := (HR5.out.chg HL5.out HC.out).chg' hc7 HRB5.out HC.out (by simp; omega)
    clear m0 m1 m2 c1 c2 c3 n0 n1 n2 f0 f1 f2 hr7 hc7 hcg hc
    go_wp2_with fail
    refine bodyPost_ret (results_cell_tmp rfl _ _ (w.heap.size + 1 + 1) 27 #[.slice A' M.m ca', .slice B' M.m cb', .int .i64 M.c] (0, 0) _ rfl HR7.out Try.underlying27 rfl size_leases) rfl ⟨_, rfl, ?_, ?_, HCG.out⟩
    · rw [HN'.out]; exact HL7.out
    · rw [HN'.out]; exact HQ.out
  · go_enter Try.func26, Try.ntmps26
    go_wp2_with fail
    have hcb : (((w.alloc (.cells #[.slice A L.m ca, .slice B L.m cb, .int .i64 L.c] 27)).alloc (.cells #[.int .u8 1, .int .i64 cl, .int .i64 ro, .int .i64 ti] 43)).alloc (.cells #[.slice none 0 0, .slice none 0 0, .int .i64 0] 27)).heap[w.heap.size + 1]? = _ := heap3_b _ _ _ _
    have hrb : (((w.alloc (.cells #[.slice A L.m ca, .slice B L.m cb, .int .i64 L.c] 27)).alloc (.cells #[.int .u8 1, .int .i64 cl, .int .i64 ro, .int .i64 ti] 43)).alloc (.cells #[.slice none 0 0, .slice none 0 0, .int .i64 0] 27)).heap[w.heap.size + 1 + 1]? = _ := heap3_c _ _ _ _
    have hb3 : Below w.heap.size w (((w.alloc (.cells #[.slice A L.m ca, .slice B L.m cb, .int .i64 L.c] 27)).alloc (.cells #[.int .u8 1, .int .i64 cl, .int .i64 ro, .int .i64 ti] 43)).alloc (.cells #[.slice none 0 0, .slice none 0 0, .int .i64 0] 27)) := below3n _ _ _ _
    generalize (((w.alloc (.cells #[.slice A L.m ca, .slice B L.m cb, .int .i64 L.c] 27)).alloc (.cells #[.int .u8 1, .int .i64 cl, .int .i64 ro, .int .i64 ti] 43)).alloc (.cells #[.slice none 0 0, .slice none 0 0, .int .i64 0] 27)) = w3 at *
    refine (rheard_calls _ L cl ro ti w3 (HR.out.below hb3) hf1 hf2).mono ?_
    rintro e w4 ⟨v4, rfl, hr4, hb4⟩
    have HR4 := Lib.hid hr4
    obtain ⟨_, A', ca', B', cb', rfl, _, _⟩ := hr4
    have hl3 : w.heap.size + 1 + 1 < w3.heap.size := (Array.getElem?_eq_some_iff.1 hrb).1
    have hcb4 := (hb4.block (w.heap.size + 1) (by omega)).trans hcb
    have hrb4 := (hb4.block (w.heap.size + 1 + 1) (by omega)).trans hrb
    have hbw4 := hb3.trans (hb4.mono hb3.size)
    have hl4 : w.heap.size + 1 + 1 < w4.heap.size := (Array.getElem?_eq_some_iff.1 hrb4).1
    have HCB := Lib.hid hcb4
    have HRB := Lib.hid hrb4
    have HBW := Lib.hid hbw4
    clear hcb hrb hb3 hb4 hcb4 hrb4 hbw4
    generalize hearE L cl ro ti = er at *
    generalize hear L cl ro ti = M at *
    go_wp2_with fail
    have hnb := heap_alloc_new w4 (.cells #[.slice A' M.m ca', .slice B' M.m cb', .int .i64 M.c] 27)
    have hb5 := below1 w4 (.cells #[.slice A' M.m ca', .slice B' M.m cb', .int .i64 M.c] 27)
    generalize w4.alloc (.cells #[.slice A' M.m ca', .slice B' M.m cb', .int .i64 M.c] 27) = w5 at *
    have hcb5 := (hb5.block (w.heap.size + 1) (by omega)).trans HCB.out
    have hrb5 := (hb5.block (w.heap.size + 1 + 1) (by omega)).trans HRB.out
    have HB5 := Lib.hid (HBW.out.trans (hb5.mono HBW.out.size))
    have HR5 := Lib.hid (HR4.out.below hb5)
    have HL5 := Lib.hid (HL.out.below HB5.out)
    have HRB5 := Lib.hid hrb5
    have m0 : ∀ w', Chg [g, w.heap.size + 1 + 1] w5 w' → w'.cell? ⟨w4.heap.size, 0, none⟩ = some (.slice A' M.m ca') := fun w' h => (h.cellAt hnb (by simp; omega)).trans rfl
    have m1 : ∀ w', Chg [g, w.heap.size + 1 + 1] w5 w' → w'.cell? ⟨w4.heap.size, 1, none⟩ = some (.slice B' M.m cb') := fun w' h => (h.cellAt hnb (by simp; omega)).trans rfl
    have m2 : ∀ w', Chg [g, w.heap.size + 1 + 1] w5 w' → w'.cell? ⟨w4.heap.size, 2, none⟩ = some (.int .i64 M.c) := fun w' h => (h.cellAt hnb (by simp; omega)).trans rfl
    have c1 : ∀ w', Chg [g, w.heap.size + 1 + 1] w5 w' → w'.cell? ⟨w.heap.size + 1, 1, none⟩ = some (.int .i64 cl) := fun w' h => (h.cellAt hcb5 (by simp; omega)).trans rfl
    have c2 : ∀ w', Chg [g, w.heap.size + 1 + 1] w5 w' → w'.cell? ⟨w.heap.size + 1, 2, none⟩ = some (.int .i64 ro) := fun w' h => (h.cellAt hcb5 (by simp; omega)).trans rfl
    have c3 : ∀ w', Chg [g, w.heap.size + 1 + 1] w5 w' → w'.cell? ⟨w.heap.size + 1, 3, none⟩ = some (.int .i64 ti) := fun w' h => (h.cellAt hcb5 (by simp; omega)).trans rfl
    clear hnb hcb5 hrb5 hb5 HCB HRB HBW HR4
    go_region_held3 (fun w' => Chg [g, w.heap.size + 1 + 1] w5 w') (first | exact (Chg.refl _ _).drew | assumption | exact ((Chg.setCell (by assumption) (.inl (by simp)) _).setCell (.inl (by simp)) _).setCell (.inl (by simp)) _) (first | (go_at_call 16; refine (HH w5.drew HL5.out).out.mono ?_; rintro e w6 ⟨rfl, hl6, hc6⟩; have HL6 := Lib.hid hl6; have HC := Lib.hid (((Chg.refl [g] w5).drew).trans' hc6); have hc := HC.out.mono (S' := [g, w.heap.size + 1 + 1]) (by simp); have n0 : w6.cell? ⟨w.heap.size + 1 + 1, 0, none⟩ = some (.slice none 0 0) := (HC.out.cellAt HRB5.out (by simp; omega)).trans rfl; have n1 : w6.cell? ⟨w.heap.size + 1 + 1, 1, none⟩ = some (.slice none 0 0) := (HC.out.cellAt HRB5.out (by simp; omega)).trans rfl; have n2 : w6.cell? ⟨w.heap.size + 1 + 1, 2, none⟩ = some (.int .i64 0) := (HC.out.cellAt HRB5.out (by simp; omega)).trans rfl; have f0 : w6.frozen? ⟨w.heap.size + 1 + 1, 0, none⟩ = false := HC.out.frozenAt HRB5.out (by simp; omega); have f1 : w6.frozen? ⟨w.heap.size + 1 + 1, 1, none⟩ = false := HC.out.frozenAt HRB5.out (by simp; omega); have f2 : w6.frozen? ⟨w.heap.size + 1 + 1, 2, none⟩ = false := HC.out.frozenAt HRB5.out (by simp; omega); clear hc6 hl6))
    have hr7 := heap_set3 (HC.out.blk HRB5.out (by simp; omega)) (.slice A' M.m ca') (.slice B' M.m cb') (.int .i64 M.c)
    have hc7 := chg_set3 w6 (w.heap.size + 1 + 1) (.slice A' M.m ca') (.slice B' M.m cb') (.int .i64 M.c)
    generalize ((w6.setCell ⟨w.heap.size + 1 + 1, 0, none⟩ (.slice A' M.m ca')).setCell ⟨w.heap.size + 1 + 1, 1, none⟩ (.slice B' M.m cb')).setCell ⟨w.heap.size + 1 + 1, 2, none⟩ (.int .i64 M.c) = w7 at *
    have hcg : Chg [g] w w7 := ((Chg.of_below HB5.out [g]).trans' HC.out).trans hc7 (by simp; omega)
    have HCG := Lib.hid hcg
    have HR7 := Lib.hid hr7
    have HL7 : Hid (IsL w7 g M) := ⟨hc7.blk HL6.out.1 (by simp; omega), HL6.out.2⟩
    have HQ : Hid (IsR w7 (.agg #[.slice A' M.m ca', .slice B' M.m cb', .int .i64 M.c]) M) := (HR5.out.chg HL5.out HC.out).chg' hc7 HRB5.out HC.out (by simp; omega)
    clear m0 m1 m2 c1 c2 c3 n0 n1 n2 f0 f1 f2 hr7 hc7 hcg hc
    go_wp2_with fail
    refine bodyPost_ret (results_cell_tmp rfl _ _ (w.heap.size + 1 + 1) 27 #[.slice A' M.m ca', .slice B' M.m cb', .int .i64 M.c] (0, 0) _ rfl HR7.out Try.underlying27 rfl size_leases) rfl ⟨_, rfl, ?_, ?_, HCG.out⟩
    · rw [HN'.out]; exact HL7.out
    · rw [HN'.out]; exact HQ.out
end Ls
end Go.Proofs.Ytmdconcbelmdpaa
