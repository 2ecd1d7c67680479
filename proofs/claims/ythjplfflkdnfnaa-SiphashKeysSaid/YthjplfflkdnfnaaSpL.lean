/- The walk of the reference's Derive. -/
import Derived.Test.YthjplfflkdnfnaaSpK
import Derived.Test.YthjplfflkdnfnaaAny
namespace Go.Proofs.Ythjplfflkdnfnaa
open Go.RowKit
namespace Sp
open Sip
attribute [local go_sem ↓] Go.wp_at_zero Go.wp_at_succ

/-- a slice with the bytes of a string, in a block of its own -/
def MK (w0 : World) (s : ByteArray) (w : World) (v : Value) : Prop :=
  ∃ g cur fz, v = .slice (some ⟨g, 0, none⟩) s.size cur.size ∧ w0.heap.size ≤ g ∧ w.heap[g]? = some (.cells cur 5 fz) ∧ cur.size ≤ fz.1 ∧ s.size ≤ cur.size ∧ cur.toList.take s.size = s.data.toList.map vb
/-- a slice with one byte, in a block of its own -/
def ONE (w0 : World) (y : UInt8) (w : World) (v : Value) : Prop :=
  ∃ g, v = .slice (some ⟨g, 0, none⟩) 1 1 ∧ w0.heap.size ≤ g ∧ w.heap[g]? = some (.cells #[vb y] 5 (0, 0))
/-- a slice that reads as these bytes -/
def RD (l : List UInt8) (w : World) (v : Value) : Prop := ∃ X k, v = .slice X l.length k ∧ RB w X l
theorem MK.below {w0 w w' : World} {s : ByteArray} {v : Value} (h : MK w0 s w v) (hb : Below w.heap.size w w') : MK w0 s w' v := by
  obtain ⟨g, cur, fz, h1, h2, h3, h4⟩ := h
  exact ⟨g, cur, fz, h1, h2, (hb.block g (Array.getElem?_eq_some_iff.1 h3).1).trans h3, h4⟩
theorem ONE.below {w0 w w' : World} {y : UInt8} {v : Value} (h : ONE w0 y w v) (hb : Below w.heap.size w w') : ONE w0 y w' v := by
  obtain ⟨g, h1, h2, h3⟩ := h
  exact ⟨g, h1, h2, (hb.block g (Array.getElem?_eq_some_iff.1 h3).1).trans h3⟩
theorem RD.below {w w' : World} {l : List UInt8} {v : Value} (h : RD l w v) (hb : Below w.heap.size w w') : RD l w' v := by
  obtain ⟨X, k, h1, h2⟩ := h
  exact ⟨X, k, h1, RB.below h2 hb⟩
theorem MK.chg {w0 w w' : World} {s : ByteArray} {v : Value} {g : Nat} (h : MK w0 s w v) (hb : Chg [g] w w') (hn : v.ownBlock ≠ some g) : MK w0 s w' v := by
  obtain ⟨g', cur, fz, rfl, h2, h3, h4⟩ := h
  exact ⟨g', cur, fz, rfl, h2, hb.blk h3 (by simpa [Value.ownBlock] using hn), h4⟩
theorem ONE.chg {w0 w w' : World} {y : UInt8} {v : Value} {g : Nat} (h : ONE w0 y w v) (hb : Chg [g] w w') (hn : v.ownBlock ≠ some g) : ONE w0 y w' v := by
  obtain ⟨g', rfl, h2, h3⟩ := h
  exact ⟨g', rfl, h2, hb.blk h3 (by simpa [Value.ownBlock] using hn)⟩
theorem MK.own {w0 w : World} {s : ByteArray} {v : Value} (h : MK w0 s w v) (b : Nat) (hb : v.ownBlock = some b) : b < w.heap.size := by
  obtain ⟨g, cur, fz, rfl, _, h3, _⟩ := h
  obtain rfl : g = b := by simpa [Value.ownBlock] using hb
  exact (Array.getElem?_eq_some_iff.1 h3).1
theorem ONE.own {w0 w : World} {y : UInt8} {v : Value} (h : ONE w0 y w v) (b : Nat) (hb : v.ownBlock = some b) : b < w.heap.size := by
  obtain ⟨g, rfl, _, h3⟩ := h
  obtain rfl : g = b := by simpa [Value.ownBlock] using hb
  exact (Array.getElem?_eq_some_iff.1 h3).1

/-- what holds while the region runs -/
structure IV (w0 : World) (R K : Nat) (k0 k1 : BitVec 64) (s : ByteArray) (h0 h1 : BitVec 64) (l : Array Bool) (a : Act) (w : World) : Prop where
  sz : a.tmps.size = 25
  df : a.defers = []
  t1 : a.eval (.tmp 1) = .string s
  t6 : a.eval (.tmp 6) = .pointer (some ⟨R, 0, none⟩)
  t7 : a.eval (.tmp 7) = .pointer (some ⟨K, 0, none⟩)
  lo : Below w0.heap.size w0 w
  s12 : on l 0 = true → a.eval (.tmp 12) = .agg #[vw k0, vw k1]
  s13 : on l 1 = true → a.eval (.tmp 13) = .string s
  s14 : on l 2 = true → on l 4 = false → MK w0 s w (a.eval (.tmp 14))
  s15 : on l 3 = true → on l 4 = false → ONE w0 0 w (a.eval (.tmp 15))
  s16 : on l 4 = true → on l 5 = false → RD (s.data.toList ++ [0]) w (a.eval (.tmp 16))
  s17 : on l 5 = true → a.eval (.tmp 17) = vw h0
  s18 : on l 6 = true → a.eval (.tmp 18) = .agg #[vw k0, vw k1]
  s19 : on l 7 = true → a.eval (.tmp 19) = .string s
  s20 : on l 8 = true → on l 10 = false → MK w0 s w (a.eval (.tmp 20))
  s21 : on l 9 = true → on l 10 = false → ONE w0 1 w (a.eval (.tmp 21))
  s22 : on l 10 = true → on l 11 = false → RD (s.data.toList ++ [1]) w (a.eval (.tmp 22))
  s23 : on l 11 = true → a.eval (.tmp 23) = vw h1
  s24 : on l 12 = true → a.eval (.tmp 24) = .agg #[vw h0, vw h1]
  n1 : on l 2 = true → on l 8 = true → on l 4 = false → (a.eval (.tmp 14)).ownBlock ≠ (a.eval (.tmp 20)).ownBlock
  n2 : on l 2 = true → on l 9 = true → on l 4 = false → (a.eval (.tmp 14)).ownBlock ≠ (a.eval (.tmp 21)).ownBlock
  q14 : on l 2 = true → ∀ b, (a.eval (.tmp 14)).ownBlock = some b → b < w.heap.size
  q20 : on l 8 = true → ∀ b, (a.eval (.tmp 20)).ownBlock = some b → b < w.heap.size
  q21 : on l 9 = true → ∀ b, (a.eval (.tmp 21)).ownBlock = some b → b < w.heap.size
  c5 : on l 5 = true → on l 4 = true
  c10 : on l 10 = true → on l 5 = true

set_option maxRecDepth 100000 in
set_option maxHeartbeats 4000000 in
theorem rderive_calls (k0 : BitVec 64) (m : Int) (k1 : BitVec 64) (hm : IntKind.u64.wrap m = (k1.toNat : Int)) (s : ByteArray) (hs : s.size ≤ 1000) (w : World) :
    Calls Try.prog 20 #[vw k0, .string s, .int .i64 m] w fun e w' => e = .returned (.agg #[vw (sum k0 k1 (s.data.toList ++ [0])), vw (sum k0 k1 (s.data.toList ++ [1]))]) ∧ Below w.heap.size w w' := by
  have HM := Lib.hid hm
  clear hm
  obtain ⟨h0, H0⟩ : ∃ x, Hid (x = sum k0 k1 (s.data.toList ++ [0])) := ⟨_, Lib.hid rfl⟩
  obtain ⟨h1, H1⟩ : ∃ x, Hid (x = sum k0 k1 (s.data.toList ++ [1])) := ⟨_, Lib.hid rfl⟩
  rw [← H0.out, ← H1.out]
  go_enter Try.func20, Try.ntmps20
  go_wp2_with fail
  rw [HM.out]
  have hR : Hid (((w.alloc (.cells #[.int .u64 0, .int .u64 0] 26)).alloc (.cells #[vw k0, vw k1] 26)).heap[w.heap.size]? = some (.cells #[.int .u64 0, .int .u64 0] 26 (0, 0))) := heap_first _ _ _
  have hK : Hid (((w.alloc (.cells #[.int .u64 0, .int .u64 0] 26)).alloc (.cells #[vw k0, vw k1] 26)).heap[w.heap.size + 1]? = some (.cells #[vw k0, vw k1] 26 (0, 0))) := heap_alloc2_new _ _ _
  have hB := Lib.hid (below2 w (.cells #[.int .u64 0, .int .u64 0] 26) (.cells #[vw k0, vw k1] 26))
  show Code.wp _ _ _ _ ((w.alloc (.cells #[.int .u64 0, .int .u64 0] 26)).alloc (.cells #[vw k0, vw k1] 26))
  generalize (w.alloc (.cells #[.int .u64 0, .int .u64 0] 26)).alloc (.cells #[vw k0, vw k1] 26) = w1 at *
  have hkl : w.heap.size + 1 < w1.heap.size := (Array.getElem?_eq_some_iff.1 hK.out).1
  have key0 : ∀ w', Below w1.heap.size w1 w' → w'.cell? ⟨w.heap.size + 1, 0, none⟩ = some (vw k0) := fun w' h => (cell_of_row _ _ 0 _ _ _ ((h.block _ hkl).trans hK.out)).trans rfl
  have key1 : ∀ w', Below w1.heap.size w1 w' → w'.cell? ⟨w.heap.size + 1, 1, none⟩ = some (vw k1) := fun w' h => (cell_of_row _ _ 1 _ _ _ ((h.block _ hkl).trans hK.out)).trans rfl
  have hcv := convB s
  have hln : ∀ y : UInt8, (s.data.toList ++ [y]).length = s.size + 1 := fun y => by simp
  refine wp_region_inv (by kernel_rfl) (fun l a wi => (on l 13 = false ∧ IV w1 w.heap.size (w.heap.size + 1) k0 k1 s h0 h1 l a wi) ∨ ((∀ i, i < 14 → on l i = true) ∧ a.defers = [] ∧ a.eval (.tmp 6) = .pointer (some ⟨w.heap.size, 0, none⟩) ∧ wi.heap[w.heap.size]? = some (.cells #[vw h0, vw h1] 26 (0, 0)) ∧ Below w.heap.size w wi)) ?step ?fin ?start
  case start =>
    refine .inl ⟨by decide, ?_⟩
    have hn : ∀ i, on (Array.replicate 14 false) i = true → False := fun i h => by
      unfold on at h
      by_cases hi : i < 14
      · simp [hi] at h
      · simp [hi] at h
    constructor
    case sz => rfl
    case df => rfl
    case t1 => rfl
    case t6 => rfl
    case t7 => rfl
    case lo => exact (Below.refl _ _).drew
    all_goals (intro h; exact (hn _ h).elim)
  case fin =>
    intro l a wi hls hI hr
    have hall := all_on (forwards_spec (by kernel_rfl)) hls hr
    rcases hI with ⟨h13, _⟩ | ⟨_, hd, h6, hR2, hB2⟩
    · rw [hall 13 (by decide)] at h13; cases h13
    · have e6 := ev_get h6
      go_wp2_with fail
      trace_state
      exact bodyPost_ret (results_cell_row rfl _ _ w.heap.size 26 _ (0, 0) _ h6 hR2 Try.underlying26 rfl (by kernel_rfl)) hd ⟨rfl, hB2⟩
  case step =>
    intro l a wi i o hls hI ho hlt hoff hdep
    have hi14 : i < 14 := by rw [hls] at hlt; exact hlt
    rcases hI with ⟨h13, H⟩ | ⟨hall, _⟩
    case inr => rw [hall i hi14] at hoff; cases hoff
    have hcase : i = 0 ∨ i = 1 ∨ i = 2 ∨ i = 3 ∨ i = 4 ∨ i = 5 ∨ i = 6 ∨ i = 7 ∨ i = 8 ∨ i = 9 ∨ i = 10 ∨ i = 11 ∨ i = 12 ∨ i = 13 := by omega
    clear hi14
    rcases hcase with rfl | rfl | rfl | rfl | rfl | rfl | rfl | rfl | rfl | rfl | rfl | rfl | rfl | rfl <;> obtain rfl := Option.some.inj ho
    · have hb := Below.refl wi.heap.size wi; have HL := H.lo; have hsz := hb.size
      have m0 := key0 wi H.lo
      have m1 := key1 wi H.lo
      have e7 := ev_get H.t7
      refine wpOp_mk rfl rfl ?_
      unfold Oper.wp
      go_simp
      refine .inl ⟨(on_ne (by decide)).trans h13, ?_⟩; show IV _ _ _ _ _ _ _ _ _ (a.put (some 12) _) _; constructor
      case s12 => intro _; rw [ev_same (by rw [H.sz]; decide)]
      all_goals ((try simp (disch := decide) only [on_ne, ev_ne, size_put, defers_put]); first | exact H.sz | exact H.df | exact H.t1 | exact H.t6 | exact H.t7 | exact HL | exact H.s12 | exact H.s13 | exact H.s17 | exact H.s18 | exact H.s19 | exact H.s23 | exact H.s24 | exact H.n1 | exact H.n2 | exact H.c5 | exact H.c10 | exact fun h h2 => (H.s14 h h2).below hb | exact fun h h2 => (H.s15 h h2).below hb | exact fun h h2 => (H.s16 h h2).below hb | exact fun h h2 => (H.s20 h h2).below hb | exact fun h h2 => (H.s21 h h2).below hb | exact fun h h2 => (H.s22 h h2).below hb | exact fun h b hbk => Nat.lt_of_lt_of_le (H.q14 h b hbk) hsz | exact fun h b hbk => Nat.lt_of_lt_of_le (H.q20 h b hbk) hsz | exact fun h b hbk => Nat.lt_of_lt_of_le (H.q21 h b hbk) hsz)
    · have hb := Below.refl wi.heap.size wi; have HL := H.lo; have hsz := hb.size
      refine wpOp_mk rfl rfl ?_
      show (_ : Prop) ∨ _
      refine .inl ⟨(on_ne (by decide)).trans h13, ?_⟩; show IV _ _ _ _ _ _ _ _ _ (a.put (some 13) _) _; constructor
      case s13 => intro _; rw [ev_same (by rw [H.sz]; decide)]; exact H.t1
      all_goals ((try simp (disch := decide) only [on_ne, ev_ne, size_put, defers_put]); first | exact H.sz | exact H.df | exact H.t1 | exact H.t6 | exact H.t7 | exact HL | exact H.s12 | exact H.s13 | exact H.s17 | exact H.s18 | exact H.s19 | exact H.s23 | exact H.s24 | exact H.n1 | exact H.n2 | exact H.c5 | exact H.c10 | exact fun h h2 => (H.s14 h h2).below hb | exact fun h h2 => (H.s15 h h2).below hb | exact fun h h2 => (H.s16 h h2).below hb | exact fun h h2 => (H.s20 h h2).below hb | exact fun h h2 => (H.s21 h h2).below hb | exact fun h h2 => (H.s22 h h2).below hb | exact fun h b hbk => Nat.lt_of_lt_of_le (H.q14 h b hbk) hsz | exact fun h b hbk => Nat.lt_of_lt_of_le (H.q20 h b hbk) hsz | exact fun h b hbk => Nat.lt_of_lt_of_le (H.q21 h b hbk) hsz)
    · have d1 := hdep ⟨1, .data⟩ (by simp) rfl
      have e13 := ev_get (H.s13 d1)
      refine wpOp_mk rfl rfl ?_
      unfold Oper.wp
      go_simp
      have hb : Below wi.heap.size wi ((wi.alloc (.cells (bytesRow s (grownCap wi s.size 0 5)) 5 ((bytesRow s (grownCap wi s.size 0 5)).size, (bytesRow s (grownCap wi s.size 0 5)).size + 1))).drew) := (below1 wi _).drew; have hmk : MK w1 s ((wi.alloc (.cells (bytesRow s (grownCap wi s.size 0 5)) 5 ((bytesRow s (grownCap wi s.size 0 5)).size, (bytesRow s (grownCap wi s.size 0 5)).size + 1))).drew) (.slice (some ⟨wi.heap.size, 0, none⟩) s.size (grownCap wi s.size 0 5)) := ⟨_, _, _, by rw [bytes_size], H.lo.size, heap_alloc_new wi _, Nat.le_refl _, by rw [bytes_size]; exact grownCap_ge _ _ _ _, bytes_take _ _ _⟩
      have hsz := hb.size; have HL := H.lo.trans (hb.mono H.lo.size)
      refine .inl ⟨(on_ne (by decide)).trans h13, ?_⟩; show IV _ _ _ _ _ _ _ _ _ (a.put (some 14) _) _; constructor
      case s14 => intro _ _; rw [ev_same (by rw [H.sz]; decide)]; exact hmk
      case q14 => intro _ b hbk; rw [ev_same (by rw [H.sz]; decide)] at hbk; exact hmk.own b hbk
      case n1 => intro _ h8 _; rw [on_ne (by decide)] at h8; rw [ev_same (by rw [H.sz]; decide), ev_ne (by decide)]; exact fun he => absurd (H.q20 h8 _ he.symm) (Nat.lt_irrefl _)
      case n2 => intro _ h8 _; rw [on_ne (by decide)] at h8; rw [ev_same (by rw [H.sz]; decide), ev_ne (by decide)]; exact fun he => absurd (H.q21 h8 _ he.symm) (Nat.lt_irrefl _)
      all_goals ((try simp (disch := decide) only [on_ne, ev_ne, size_put, defers_put]); first | exact H.sz | exact H.df | exact H.t1 | exact H.t6 | exact H.t7 | exact HL | exact H.s12 | exact H.s13 | exact H.s17 | exact H.s18 | exact H.s19 | exact H.s23 | exact H.s24 | exact H.n1 | exact H.n2 | exact H.c5 | exact H.c10 | exact fun h h2 => (H.s14 h h2).below hb | exact fun h h2 => (H.s15 h h2).below hb | exact fun h h2 => (H.s16 h h2).below hb | exact fun h h2 => (H.s20 h h2).below hb | exact fun h h2 => (H.s21 h h2).below hb | exact fun h h2 => (H.s22 h h2).below hb | exact fun h b hbk => Nat.lt_of_lt_of_le (H.q14 h b hbk) hsz | exact fun h b hbk => Nat.lt_of_lt_of_le (H.q20 h b hbk) hsz | exact fun h b hbk => Nat.lt_of_lt_of_le (H.q21 h b hbk) hsz)
    · refine wpOp_mk rfl rfl ?_
      unfold Oper.wp
      go_simp
      have hb : Below wi.heap.size wi (wi.alloc (.cells #[vb 0] 5)) := below1 wi _; have hone : ONE w1 0 (wi.alloc (.cells #[vb 0] 5)) (.slice (some ⟨wi.heap.size, 0, none⟩) 1 1) := ⟨_, rfl, H.lo.size, heap_alloc_new wi _⟩
      have hsz := hb.size; have HL := H.lo.trans (hb.mono H.lo.size)
      refine .inl ⟨(on_ne (by decide)).trans h13, ?_⟩; show IV _ _ _ _ _ _ _ _ _ (a.put (some 15) _) _; constructor
      case s15 => intro _ _; rw [ev_same (by rw [H.sz]; decide)]; exact hone
      all_goals ((try simp (disch := decide) only [on_ne, ev_ne, size_put, defers_put]); first | exact H.sz | exact H.df | exact H.t1 | exact H.t6 | exact H.t7 | exact HL | exact H.s12 | exact H.s13 | exact H.s17 | exact H.s18 | exact H.s19 | exact H.s23 | exact H.s24 | exact H.n1 | exact H.n2 | exact H.c5 | exact H.c10 | exact fun h h2 => (H.s14 h h2).below hb | exact fun h h2 => (H.s15 h h2).below hb | exact fun h h2 => (H.s16 h h2).below hb | exact fun h h2 => (H.s20 h h2).below hb | exact fun h h2 => (H.s21 h h2).below hb | exact fun h h2 => (H.s22 h h2).below hb | exact fun h b hbk => Nat.lt_of_lt_of_le (H.q14 h b hbk) hsz | exact fun h b hbk => Nat.lt_of_lt_of_le (H.q20 h b hbk) hsz | exact fun h b hbk => Nat.lt_of_lt_of_le (H.q21 h b hbk) hsz)
    · have d2 := hdep ⟨2, .data⟩ (by simp) rfl
      have d3 := hdep ⟨3, .data⟩ (by simp) rfl
      obtain ⟨g, cur, fz, hv, hgl, hgb, hf1, hf2, hf3⟩ := H.s14 d2 hoff
      obtain ⟨g', hv', _, hgb'⟩ := H.s15 d3 hoff
      refine wpOp_mk rfl rfl ?_
      refine wp_app_mark _ (.tmp 14) (.tmp 15) 23 rfl 5 (.int .u8 0) 1 Try.underlying23 info_u8 g s.size cur.size cur fz hv hgb hf1 rfl (s.data.toList.map vb) hf3 hf2 _ 1 1 [vb 0] hv' rfl (by decide) (rd_blk hgb') (by simp [Value.oneCell']) (by unfold maxLen; omega) (by omega) ?_
      intro X k wi' hrd hch
      have hsz := hch.size
      have HL := belowC H.lo hch (Nat.le_refl _) hgl
      have hown : (a.eval (.tmp 14)).ownBlock = some g := by rw [hv]; rfl
      refine .inl ⟨(on_ne (by decide)).trans h13, ?_⟩; show IV _ _ _ _ _ _ _ _ _ (a.put (some 16) _) _; constructor
      case s16 => intro _ _; rw [ev_same (by rw [H.sz]; decide)]; exact ⟨X, k, by rw [hln], by unfold RB; rw [List.map_append]; exact hrd⟩
      case s14 => intro _ h2; rw [on_same hlt] at h2; cases h2
      case s15 => intro _ h2; rw [on_same hlt] at h2; cases h2
      case n1 => intro _ _ h2; rw [on_same hlt] at h2; cases h2
      case n2 => intro _ _ h2; rw [on_same hlt] at h2; cases h2
      case c5 => intro _; exact on_same hlt
      case s20 => intro h h2; rw [on_ne (by decide)] at h h2; rw [ev_ne (by decide)]; exact (H.s20 h h2).chg hch (fun he => H.n1 d2 h hoff (hown.trans he.symm))
      case s21 => intro h h2; rw [on_ne (by decide)] at h h2; rw [ev_ne (by decide)]; exact (H.s21 h h2).chg hch (fun he => H.n2 d2 h hoff (hown.trans he.symm))
      case s22 => intro h _; rw [on_ne (by decide)] at h; exact absurd (H.c5 (H.c10 h)) (by rw [hoff]; decide)
      all_goals ((try simp (disch := decide) only [on_ne, ev_ne, size_put, defers_put]); first | exact H.sz | exact H.df | exact H.t1 | exact H.t6 | exact H.t7 | exact HL | exact H.s12 | exact H.s13 | exact H.s17 | exact H.s18 | exact H.s19 | exact H.s23 | exact H.s24 | exact H.n1 | exact H.n2 | exact H.c5 | exact H.c10 | exact fun h h2 => (H.s14 h h2).below hb | exact fun h h2 => (H.s15 h h2).below hb | exact fun h h2 => (H.s16 h h2).below hb | exact fun h h2 => (H.s20 h h2).below hb | exact fun h h2 => (H.s21 h h2).below hb | exact fun h h2 => (H.s22 h h2).below hb | exact fun h b hbk => Nat.lt_of_lt_of_le (H.q14 h b hbk) hsz | exact fun h b hbk => Nat.lt_of_lt_of_le (H.q20 h b hbk) hsz | exact fun h b hbk => Nat.lt_of_lt_of_le (H.q21 h b hbk) hsz)
    · have d0 := hdep ⟨0, .data⟩ (by simp) rfl
      have d4 := hdep ⟨4, .data⟩ (by simp) rfl
      have e12 := ev_get (H.s12 d0)
      obtain ⟨X, k, hv, hrd⟩ := H.s16 d4 hoff
      have e16 := ev_get hv
      rw [hln] at e16
      refine wpOp_mk rfl rfl ?_
      unfold Oper.wp
      go_simp
      refine (rsum_calls k0 k1 X (s.size + 1) k (s.data.toList ++ [0]) wi (hln _) hrd (by omega)).mono ?_
      rintro e wi' ⟨rfl, hb⟩
      rw [← sum_eq, ← H0.out]
      have hsz := hb.size; have HL := H.lo.trans (hb.mono H.lo.size)
      refine .inl ⟨(on_ne (by decide)).trans h13, ?_⟩; show IV _ _ _ _ _ _ _ _ _ (a.put (some 17) _) _; constructor
      case s17 => intro _; rw [ev_same (by rw [H.sz]; decide)]
      case s16 => intro _ h2; rw [on_same hlt] at h2; cases h2
      case c5 => intro _; rw [on_ne (by decide)]; exact d4
      case c10 => intro _; exact on_same hlt
      all_goals ((try simp (disch := decide) only [on_ne, ev_ne, size_put, defers_put]); first | exact H.sz | exact H.df | exact H.t1 | exact H.t6 | exact H.t7 | exact HL | exact H.s12 | exact H.s13 | exact H.s17 | exact H.s18 | exact H.s19 | exact H.s23 | exact H.s24 | exact H.n1 | exact H.n2 | exact H.c5 | exact H.c10 | exact fun h h2 => (H.s14 h h2).below hb | exact fun h h2 => (H.s15 h h2).below hb | exact fun h h2 => (H.s16 h h2).below hb | exact fun h h2 => (H.s20 h h2).below hb | exact fun h h2 => (H.s21 h h2).below hb | exact fun h h2 => (H.s22 h h2).below hb | exact fun h b hbk => Nat.lt_of_lt_of_le (H.q14 h b hbk) hsz | exact fun h b hbk => Nat.lt_of_lt_of_le (H.q20 h b hbk) hsz | exact fun h b hbk => Nat.lt_of_lt_of_le (H.q21 h b hbk) hsz)
    · have hb := Below.refl wi.heap.size wi; have HL := H.lo; have hsz := hb.size
      have m0 := key0 wi H.lo
      have m1 := key1 wi H.lo
      have e7 := ev_get H.t7
      refine wpOp_mk rfl rfl ?_
      unfold Oper.wp
      go_simp
      refine .inl ⟨(on_ne (by decide)).trans h13, ?_⟩; show IV _ _ _ _ _ _ _ _ _ (a.put (some 18) _) _; constructor
      case s18 => intro _; rw [ev_same (by rw [H.sz]; decide)]
      all_goals ((try simp (disch := decide) only [on_ne, ev_ne, size_put, defers_put]); first | exact H.sz | exact H.df | exact H.t1 | exact H.t6 | exact H.t7 | exact HL | exact H.s12 | exact H.s13 | exact H.s17 | exact H.s18 | exact H.s19 | exact H.s23 | exact H.s24 | exact H.n1 | exact H.n2 | exact H.c5 | exact H.c10 | exact fun h h2 => (H.s14 h h2).below hb | exact fun h h2 => (H.s15 h h2).below hb | exact fun h h2 => (H.s16 h h2).below hb | exact fun h h2 => (H.s20 h h2).below hb | exact fun h h2 => (H.s21 h h2).below hb | exact fun h h2 => (H.s22 h h2).below hb | exact fun h b hbk => Nat.lt_of_lt_of_le (H.q14 h b hbk) hsz | exact fun h b hbk => Nat.lt_of_lt_of_le (H.q20 h b hbk) hsz | exact fun h b hbk => Nat.lt_of_lt_of_le (H.q21 h b hbk) hsz)
    · have hb := Below.refl wi.heap.size wi; have HL := H.lo; have hsz := hb.size
      refine wpOp_mk rfl rfl ?_
      show (_ : Prop) ∨ _
      refine .inl ⟨(on_ne (by decide)).trans h13, ?_⟩; show IV _ _ _ _ _ _ _ _ _ (a.put (some 19) _) _; constructor
      case s19 => intro _; rw [ev_same (by rw [H.sz]; decide)]; exact H.t1
      all_goals ((try simp (disch := decide) only [on_ne, ev_ne, size_put, defers_put]); first | exact H.sz | exact H.df | exact H.t1 | exact H.t6 | exact H.t7 | exact HL | exact H.s12 | exact H.s13 | exact H.s17 | exact H.s18 | exact H.s19 | exact H.s23 | exact H.s24 | exact H.n1 | exact H.n2 | exact H.c5 | exact H.c10 | exact fun h h2 => (H.s14 h h2).below hb | exact fun h h2 => (H.s15 h h2).below hb | exact fun h h2 => (H.s16 h h2).below hb | exact fun h h2 => (H.s20 h h2).below hb | exact fun h h2 => (H.s21 h h2).below hb | exact fun h h2 => (H.s22 h h2).below hb | exact fun h b hbk => Nat.lt_of_lt_of_le (H.q14 h b hbk) hsz | exact fun h b hbk => Nat.lt_of_lt_of_le (H.q20 h b hbk) hsz | exact fun h b hbk => Nat.lt_of_lt_of_le (H.q21 h b hbk) hsz)
    · have d1 := hdep ⟨7, .data⟩ (by simp) rfl
      have e13 := ev_get (H.s19 d1)
      refine wpOp_mk rfl rfl ?_
      unfold Oper.wp
      go_simp
      have hb : Below wi.heap.size wi ((wi.alloc (.cells (bytesRow s (grownCap wi s.size 0 5)) 5 ((bytesRow s (grownCap wi s.size 0 5)).size, (bytesRow s (grownCap wi s.size 0 5)).size + 1))).drew) := (below1 wi _).drew; have hmk : MK w1 s ((wi.alloc (.cells (bytesRow s (grownCap wi s.size 0 5)) 5 ((bytesRow s (grownCap wi s.size 0 5)).size, (bytesRow s (grownCap wi s.size 0 5)).size + 1))).drew) (.slice (some ⟨wi.heap.size, 0, none⟩) s.size (grownCap wi s.size 0 5)) := ⟨_, _, _, by rw [bytes_size], H.lo.size, heap_alloc_new wi _, Nat.le_refl _, by rw [bytes_size]; exact grownCap_ge _ _ _ _, bytes_take _ _ _⟩
      have hsz := hb.size; have HL := H.lo.trans (hb.mono H.lo.size)
      refine .inl ⟨(on_ne (by decide)).trans h13, ?_⟩; show IV _ _ _ _ _ _ _ _ _ (a.put (some 20) _) _; constructor
      case s20 => intro _ _; rw [ev_same (by rw [H.sz]; decide)]; exact hmk
      case q20 => intro _ b hbk; rw [ev_same (by rw [H.sz]; decide)] at hbk; exact hmk.own b hbk
      case n1 => intro h8 _ _; rw [on_ne (by decide)] at h8; rw [ev_same (by rw [H.sz]; decide), ev_ne (by decide)]; exact fun he => absurd (H.q14 h8 _ he) (Nat.lt_irrefl _)
      all_goals ((try simp (disch := decide) only [on_ne, ev_ne, size_put, defers_put]); first | exact H.sz | exact H.df | exact H.t1 | exact H.t6 | exact H.t7 | exact HL | exact H.s12 | exact H.s13 | exact H.s17 | exact H.s18 | exact H.s19 | exact H.s23 | exact H.s24 | exact H.n1 | exact H.n2 | exact H.c5 | exact H.c10 | exact fun h h2 => (H.s14 h h2).below hb | exact fun h h2 => (H.s15 h h2).below hb | exact fun h h2 => (H.s16 h h2).below hb | exact fun h h2 => (H.s20 h h2).below hb | exact fun h h2 => (H.s21 h h2).below hb | exact fun h h2 => (H.s22 h h2).below hb | exact fun h b hbk => Nat.lt_of_lt_of_le (H.q14 h b hbk) hsz | exact fun h b hbk => Nat.lt_of_lt_of_le (H.q20 h b hbk) hsz | exact fun h b hbk => Nat.lt_of_lt_of_le (H.q21 h b hbk) hsz)
    · refine wpOp_mk rfl rfl ?_
      unfold Oper.wp
      go_simp
      have hb : Below wi.heap.size wi (wi.alloc (.cells #[vb 1] 5)) := below1 wi _; have hone : ONE w1 1 (wi.alloc (.cells #[vb 1] 5)) (.slice (some ⟨wi.heap.size, 0, none⟩) 1 1) := ⟨_, rfl, H.lo.size, heap_alloc_new wi _⟩
      have hsz := hb.size; have HL := H.lo.trans (hb.mono H.lo.size)
      refine .inl ⟨(on_ne (by decide)).trans h13, ?_⟩; show IV _ _ _ _ _ _ _ _ _ (a.put (some 21) _) _; constructor
      case s21 => intro _ _; rw [ev_same (by rw [H.sz]; decide)]; exact hone
      case q21 => intro _ b hbk; rw [ev_same (by rw [H.sz]; decide)] at hbk; exact hone.own b hbk
      case n2 => intro h8 _ _; rw [on_ne (by decide)] at h8; rw [ev_same (by rw [H.sz]; decide), ev_ne (by decide)]; exact fun he => absurd (H.q14 h8 _ he) (Nat.lt_irrefl _)
      all_goals ((try simp (disch := decide) only [on_ne, ev_ne, size_put, defers_put]); first | exact H.sz | exact H.df | exact H.t1 | exact H.t6 | exact H.t7 | exact HL | exact H.s12 | exact H.s13 | exact H.s17 | exact H.s18 | exact H.s19 | exact H.s23 | exact H.s24 | exact H.n1 | exact H.n2 | exact H.c5 | exact H.c10 | exact fun h h2 => (H.s14 h h2).below hb | exact fun h h2 => (H.s15 h h2).below hb | exact fun h h2 => (H.s16 h h2).below hb | exact fun h h2 => (H.s20 h h2).below hb | exact fun h h2 => (H.s21 h h2).below hb | exact fun h h2 => (H.s22 h h2).below hb | exact fun h b hbk => Nat.lt_of_lt_of_le (H.q14 h b hbk) hsz | exact fun h b hbk => Nat.lt_of_lt_of_le (H.q20 h b hbk) hsz | exact fun h b hbk => Nat.lt_of_lt_of_le (H.q21 h b hbk) hsz)
    · have d2 := hdep ⟨8, .data⟩ (by simp) rfl
      have d3 := hdep ⟨9, .data⟩ (by simp) rfl
      obtain ⟨g, cur, fz, hv, hgl, hgb, hf1, hf2, hf3⟩ := H.s20 d2 hoff
      obtain ⟨g', hv', _, hgb'⟩ := H.s21 d3 hoff
      refine wpOp_mk rfl rfl ?_
      refine wp_app_mark _ (.tmp 20) (.tmp 21) 23 rfl 5 (.int .u8 0) 1 Try.underlying23 info_u8 g s.size cur.size cur fz hv hgb hf1 rfl (s.data.toList.map vb) hf3 hf2 _ 1 1 [vb 1] hv' rfl (by decide) (rd_blk hgb') (by simp [Value.oneCell']) (by unfold maxLen; omega) (by omega) ?_
      intro X k wi' hrd hch
      have hsz := hch.size
      have HL := belowC H.lo hch (Nat.le_refl _) hgl
      have hown : (a.eval (.tmp 20)).ownBlock = some g := by rw [hv]; rfl
      refine .inl ⟨(on_ne (by decide)).trans h13, ?_⟩; show IV _ _ _ _ _ _ _ _ _ (a.put (some 22) _) _; constructor
      case s22 => intro _ _; rw [ev_same (by rw [H.sz]; decide)]; exact ⟨X, k, by rw [hln], by unfold RB; rw [List.map_append]; exact hrd⟩
      case s20 => intro _ h2; rw [on_same hlt] at h2; cases h2
      case s21 => intro _ h2; rw [on_same hlt] at h2; cases h2
      case c10 => intro _; rw [on_ne (by decide)]; exact hdep ⟨5, .chain⟩ (by simp) rfl
      case s14 => intro _ h2; rw [on_ne (by decide)] at h2; exact absurd (H.c5 (hdep ⟨5, .chain⟩ (by simp) rfl)) (by rw [h2]; decide)
      case s15 => intro _ h2; rw [on_ne (by decide)] at h2; exact absurd (H.c5 (hdep ⟨5, .chain⟩ (by simp) rfl)) (by rw [h2]; decide)
      case s16 => intro _ h2; rw [on_ne (by decide)] at h2; exact absurd (hdep ⟨5, .chain⟩ (by simp) rfl) (by rw [h2]; decide)
      all_goals ((try simp (disch := decide) only [on_ne, ev_ne, size_put, defers_put]); first | exact H.sz | exact H.df | exact H.t1 | exact H.t6 | exact H.t7 | exact HL | exact H.s12 | exact H.s13 | exact H.s17 | exact H.s18 | exact H.s19 | exact H.s23 | exact H.s24 | exact H.n1 | exact H.n2 | exact H.c5 | exact H.c10 | exact fun h h2 => (H.s14 h h2).below hb | exact fun h h2 => (H.s15 h h2).below hb | exact fun h h2 => (H.s16 h h2).below hb | exact fun h h2 => (H.s20 h h2).below hb | exact fun h h2 => (H.s21 h h2).below hb | exact fun h h2 => (H.s22 h h2).below hb | exact fun h b hbk => Nat.lt_of_lt_of_le (H.q14 h b hbk) hsz | exact fun h b hbk => Nat.lt_of_lt_of_le (H.q20 h b hbk) hsz | exact fun h b hbk => Nat.lt_of_lt_of_le (H.q21 h b hbk) hsz)
    · have d0 := hdep ⟨6, .data⟩ (by simp) rfl
      have d4 := hdep ⟨10, .data⟩ (by simp) rfl
      have e12 := ev_get (H.s18 d0)
      obtain ⟨X, k, hv, hrd⟩ := H.s22 d4 hoff
      have e16 := ev_get hv
      rw [hln] at e16
      refine wpOp_mk rfl rfl ?_
      unfold Oper.wp
      go_simp
      refine (rsum_calls k0 k1 X (s.size + 1) k (s.data.toList ++ [1]) wi (hln _) hrd (by omega)).mono ?_
      rintro e wi' ⟨rfl, hb⟩
      rw [← sum_eq, ← H1.out]
      have hsz := hb.size; have HL := H.lo.trans (hb.mono H.lo.size)
      refine .inl ⟨(on_ne (by decide)).trans h13, ?_⟩; show IV _ _ _ _ _ _ _ _ _ (a.put (some 23) _) _; constructor
      case s23 => intro _; rw [ev_same (by rw [H.sz]; decide)]
      case s22 => intro _ h2; rw [on_same hlt] at h2; cases h2
      all_goals ((try simp (disch := decide) only [on_ne, ev_ne, size_put, defers_put]); first | exact H.sz | exact H.df | exact H.t1 | exact H.t6 | exact H.t7 | exact HL | exact H.s12 | exact H.s13 | exact H.s17 | exact H.s18 | exact H.s19 | exact H.s23 | exact H.s24 | exact H.n1 | exact H.n2 | exact H.c5 | exact H.c10 | exact fun h h2 => (H.s14 h h2).below hb | exact fun h h2 => (H.s15 h h2).below hb | exact fun h h2 => (H.s16 h h2).below hb | exact fun h h2 => (H.s20 h h2).below hb | exact fun h h2 => (H.s21 h h2).below hb | exact fun h h2 => (H.s22 h h2).below hb | exact fun h b hbk => Nat.lt_of_lt_of_le (H.q14 h b hbk) hsz | exact fun h b hbk => Nat.lt_of_lt_of_le (H.q20 h b hbk) hsz | exact fun h b hbk => Nat.lt_of_lt_of_le (H.q21 h b hbk) hsz)
    · have hb := Below.refl wi.heap.size wi; have HL := H.lo; have hsz := hb.size
      have e17 := ev_get (H.s17 (hdep ⟨5, .data⟩ (by simp) rfl))
      have e23 := ev_get (H.s23 (hdep ⟨11, .data⟩ (by simp) rfl))
      refine wpOp_mk rfl rfl ?_
      unfold Oper.wp
      go_simp
      refine .inl ⟨(on_ne (by decide)).trans h13, ?_⟩; show IV _ _ _ _ _ _ _ _ _ (a.put (some 24) _) _; constructor
      case s24 => intro _; rw [ev_same (by rw [H.sz]; decide)]
      all_goals ((try simp (disch := decide) only [on_ne, ev_ne, size_put, defers_put]); first | exact H.sz | exact H.df | exact H.t1 | exact H.t6 | exact H.t7 | exact HL | exact H.s12 | exact H.s13 | exact H.s17 | exact H.s18 | exact H.s19 | exact H.s23 | exact H.s24 | exact H.n1 | exact H.n2 | exact H.c5 | exact H.c10 | exact fun h h2 => (H.s14 h h2).below hb | exact fun h h2 => (H.s15 h h2).below hb | exact fun h h2 => (H.s16 h h2).below hb | exact fun h h2 => (H.s20 h h2).below hb | exact fun h h2 => (H.s21 h h2).below hb | exact fun h h2 => (H.s22 h h2).below hb | exact fun h b hbk => Nat.lt_of_lt_of_le (H.q14 h b hbk) hsz | exact fun h b hbk => Nat.lt_of_lt_of_le (H.q20 h b hbk) hsz | exact fun h b hbk => Nat.lt_of_lt_of_le (H.q21 h b hbk) hsz)
    · have e6 := ev_get H.t6
      have e24 := ev_get (H.s24 (hdep ⟨12, .data⟩ (by simp) rfl))
      have hR2 := (H.lo.block _ (by omega)).trans hR.out
      have c0 : wi.cell? ⟨w.heap.size, 0, none⟩ = some (.int .u64 0) := (cell_of_row _ _ 0 _ _ _ hR2).trans rfl
      have c1 : wi.cell? ⟨w.heap.size, 1, none⟩ = some (.int .u64 0) := (cell_of_row _ _ 1 _ _ _ hR2).trans rfl
      have f0 : wi.frozen? ⟨w.heap.size, 0, none⟩ = false := frozen_of_row _ _ _ _ _ hR2
      have f1 : wi.frozen? ⟨w.heap.size, 1, none⟩ = false := frozen_of_row _ _ _ _ _ hR2
      refine wpOp_mk rfl rfl ?_
      unfold Oper.wp
      go_simp
      refine .inr ⟨?_, H.df, ?_, ?_⟩
      · intro i hi
        have hc : i = 0 ∨ i = 1 ∨ i = 2 ∨ i = 3 ∨ i = 4 ∨ i = 5 ∨ i = 6 ∨ i = 7 ∨ i = 8 ∨ i = 9 ∨ i = 10 ∨ i = 11 ∨ i = 12 ∨ i = 13 := by omega
        clear hi
        rcases hc with rfl | rfl | rfl | rfl | rfl | rfl | rfl | rfl | rfl | rfl | rfl | rfl | rfl | rfl
        all_goals first | exact on_same hlt | (rw [on_ne (by decide)]; exact hdep ⟨_, .phase⟩ (by simp) rfl)
      · exact heap_setCell_same _ _ _ _ _ _ (heap_setCell_same _ _ _ _ _ _ hR2)
      · exact ((hB.out.trans (H.lo.mono hB.out.size)).setCell (p := ⟨w.heap.size, 0, none⟩) (Nat.le_refl _) _).setCell (p := ⟨w.heap.size, 1, none⟩) (Nat.le_refl _) _
end Sp
end Go.Proofs.Ythjplfflkdnfnaa
