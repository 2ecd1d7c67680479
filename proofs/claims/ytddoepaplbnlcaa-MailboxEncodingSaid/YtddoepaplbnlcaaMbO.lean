/- The walk of Put. -/
import Derived.Test.YtddoepaplbnlcaaMbN
namespace Go.Proofs.Ytddoepaplbnlcaa
open Go.RowKit Go.Shelf
namespace Mb

theorem enters_put1 : ∀ (args : Array Value) (w' : World), (callFunc 40 args).run Try.prog w' = .ok (.enter 40 args) w' := enters_of Try.func40 (by kernel_rfl) rfl
/-- the message of a call of Put, made -/
def MadeM (w w0 : World) (m : Msg) (p : Value) (wx : World) : Prop := ∃ q X cx, p = .pointer (some ⟨q, 0, none⟩) ∧ w0.heap.size ≤ q ∧ wx.heap[q]? = some (.cells (Mm.mk m X cx).cells.toArray 76 (0, 0)) ∧ Below w0.heap.size w0 wx ∧
  ∃ NN : List Nat, (Mm.mk m X cx).ok wx NN ∧ (∀ y ∈ NN, w.heap.size ≤ y ∧ y < wx.heap.size)
def PutP (K : List Nat) (B g : Nat) (l : List Msg) (m : Msg) (w : World) (e : Ending) (w' : World) : Prop := e = .returned (.int .i64 (putE l m)) ∧ BxW K B g (putL l m) w w'
theorem made {w w3 wx : World} {NX S : List Nat} {m : Msg} {xa X : Option Addr} {xc cx B3 : Nat} (hx : (Mm.mk m xa xc).ok w NX) (ho : w3.ownsRow B3 3 1 (.slice X m.ar.length cx) m.ar.length (m.ar.map (Value.int .i64))) (hc : Chg S w3 wx) (hS : ∀ y ∈ S, y < B3) (hB : w.heap.size ≤ B3) :
    ∃ NN : List Nat, (Mm.mk m X cx).ok wx NN ∧ ∀ y ∈ NN, w.heap.size ≤ y ∧ y < wx.heap.size := by
  obtain ⟨_, _, e, h1, h2, _, hr⟩ := own_form ho
  cases e
  have hX : ∀ b off, X = some ⟨b, off, none⟩ → B3 ≤ b ∧ b < w3.heap.size := fun b off e => by
    rcases ho.2 with ⟨h, _⟩ | ⟨g, cap, cur, h, hb, hh, _⟩
    · injection h with h _ _; rw [h] at e; cases e
    · injection h with h _ _; rw [h] at e; cases e
      exact ⟨hb, (Array.getElem?_eq_some_iff.1 hh).1⟩
  refine ⟨(Value.slice X m.ar.length cx).ownBlock.toList, ⟨hc.rd hr (fun b off e hm => by have := (hX b off e).1; have := hS b hm; omega), h1, h2, fun _ b off e => by have e' : X = some ⟨b, off, none⟩ := e; rw [e']; simp [Value.ownBlock], hx.a1, hx.a2, hx.i1, hx.i2, hx.ar, hx.s⟩, fun y hy => ?_⟩
  have hy' : (Value.slice X m.ar.length cx).ownBlock = some y := by simpa using hy
  rcases ho.2 with ⟨h, _⟩ | ⟨g, cap, cur, h, hb, hh, _⟩
  · rw [h] at hy'; cases hy'
  · rw [h] at hy'
    simp only [Value.ownBlock, Option.some.injEq] at hy'
    subst hy'
    have := (Array.getElem?_eq_some_iff.1 hh).1
    have := hc.size
    exact ⟨by omega, by omega⟩
theorem heap_set6 {w : World} {R : Nat} {a b c d e f : Value} {t : TypeId} (k : w.heap[R]? = some (.cells #[a, b, c, d, e, f] t (0, 0))) (a' b' c' d' e' f' : Value) :
    ((((((w.setCell ⟨R, 0, none⟩ a').setCell ⟨R, 1, none⟩ b').setCell ⟨R, 2, none⟩ c').setCell ⟨R, 3, none⟩ d').setCell ⟨R, 4, none⟩ e').setCell ⟨R, 5, none⟩ f').heap[R]? = some (.cells #[a', b', c', d', e', f'] t (0, 0)) := by
  have k1 : (w.setCell ⟨R, 0, none⟩ a').heap[R]? = some (.cells #[a', b, c, d, e, f] t (0, 0)) := heap_setCell_same _ _ _ _ _ _ k
  have k2 : ((w.setCell ⟨R, 0, none⟩ a').setCell ⟨R, 1, none⟩ b').heap[R]? = some (.cells #[a', b', c, d, e, f] t (0, 0)) := heap_setCell_same _ _ _ _ _ _ k1
  have k3 : (((w.setCell ⟨R, 0, none⟩ a').setCell ⟨R, 1, none⟩ b').setCell ⟨R, 2, none⟩ c').heap[R]? = some (.cells #[a', b', c', d, e, f] t (0, 0)) := heap_setCell_same _ _ _ _ _ _ k2
  have k4 : ((((w.setCell ⟨R, 0, none⟩ a').setCell ⟨R, 1, none⟩ b').setCell ⟨R, 2, none⟩ c').setCell ⟨R, 3, none⟩ d').heap[R]? = some (.cells #[a', b', c', d', e, f] t (0, 0)) := heap_setCell_same _ _ _ _ _ _ k3
  have k5 : (((((w.setCell ⟨R, 0, none⟩ a').setCell ⟨R, 1, none⟩ b').setCell ⟨R, 2, none⟩ c').setCell ⟨R, 3, none⟩ d').setCell ⟨R, 4, none⟩ e').heap[R]? = some (.cells #[a', b', c', d', e', f] t (0, 0)) := heap_setCell_same _ _ _ _ _ _ k4
  exact heap_setCell_same _ _ _ _ _ _ k5
theorem chgN6 (w : World) (g : Nat) (u0 u1 u2 u3 u4 u5 : Value) : Chg [g] w ((((((w.setCell ⟨g, 0, none⟩ u0).setCell ⟨g, 1, none⟩ u1).setCell ⟨g, 2, none⟩ u2).setCell ⟨g, 3, none⟩ u3).setCell ⟨g, 4, none⟩ u4).setCell ⟨g, 5, none⟩ u5) :=
  ((((((Chg.refl [g] w).setCell (p := ⟨g, 0, none⟩) (.inl List.mem_cons_self) u0).setCell (p := ⟨g, 1, none⟩) (.inl List.mem_cons_self) u1).setCell (p := ⟨g, 2, none⟩) (.inl List.mem_cons_self) u2).setCell (p := ⟨g, 3, none⟩) (.inl List.mem_cons_self) u3).setCell (p := ⟨g, 4, none⟩) (.inl List.mem_cons_self) u4).setCell (p := ⟨g, 5, none⟩) (.inl List.mem_cons_self) u5
theorem made1 {w w2 w3 : World} {NX : List Nat} {m : Msg} {xa X : Option Addr} {xc cx : Nat} (hx : (Mm.mk m xa xc).ok w NX) (h2 : Below w.heap.size w w2) (h3 : Below w2.heap.size w2 w3) (ho : w3.ownsRow w2.heap.size 3 1 (.slice X m.ar.length cx) m.ar.length (m.ar.map (Value.int .i64))) :
    MadeM w w2 m (.pointer (some ⟨w3.heap.size, 0, none⟩)) (w3.alloc (.cells (Mm.mk m X cx).cells.toArray 76)) :=
  ⟨_, X, cx, rfl, h3.size, heap_alloc_new _ _, h3.alloc h3.size _, made hx ho (Chg.of_below (below1 w3 _) []) (by simp) h2.size⟩
theorem made2 {w w2 w3 : World} {NX : List Nat} {m : Msg} {xa X : Option Addr} {xc cx : Nat} {a b c d e f : Value} (hx : (Mm.mk m xa xc).ok w NX) (h2 : Below w.heap.size w w2) (h3 : Below w2.heap.size w2 w3) (ho : w3.ownsRow (w2.heap.size + 1) 3 1 (.slice X m.ar.length cx) m.ar.length (m.ar.map (Value.int .i64))) (hz : w3.heap[w2.heap.size]? = some (.cells #[a, b, c, d, e, f] 76 (0, 0))) :
    MadeM w w2 m (.pointer (some ⟨w2.heap.size, 0, none⟩)) ((((((w3.setCell ⟨w2.heap.size, 0, none⟩ (.int .i64 m.a1)).setCell ⟨w2.heap.size, 1, none⟩ (.int .i64 m.a2)).setCell ⟨w2.heap.size, 2, none⟩ (.int .i64 m.i1)).setCell ⟨w2.heap.size, 3, none⟩ (.int .i64 m.i2)).setCell ⟨w2.heap.size, 4, none⟩ (.string m.me)).setCell ⟨w2.heap.size, 5, none⟩ (.slice X m.ar.length cx)) :=
  ⟨_, X, cx, rfl, Nat.le_refl _, heap_set6 hz _ _ _ _ _ _, h3.trans ((chgN6 w3 w2.heap.size _ _ _ _ _ _).below h3.size (by simp)), made hx ho (chgN6 w3 w2.heap.size _ _ _ _ _ _) (by simp) (Nat.le_trans h2.size (Nat.le_succ _))⟩
set_option maxRecDepth 100000 in
set_option maxHeartbeats 4000000 in
theorem put_calls (K : List Nat) (B g : Nat) (l : List Msg) (x : Mm) (NX : List Nat) (w : World) (h : Bx K B g l w) (hB : B ≤ w.heap.size) (hx : x.ok w NX) (hal : x.m.ar.length ≤ 1000000) :
    Calls Try.prog 17 #[.pointer (some ⟨g, 0, none⟩), .agg #[.int .i64 x.m.a1, .int .i64 x.m.a2], .agg #[.int .i64 x.m.i1, .int .i64 x.m.i2], .string x.m.me, .slice x.a x.m.ar.length x.c] w (PutP K B g l x.m w) := by
  obtain ⟨m, xa, xc⟩ := x
  simp only at *
  have HX := Lib.hid hx
  have HB0 := Lib.hid h
  have hb2 := below2 w (.cells #[.int .i64 m.a1, .int .i64 m.a2] 30) (.cells #[.int .i64 m.i1, .int .i64 m.i2] 30)
  have k0 : ((w.alloc (.cells #[.int .i64 m.a1, .int .i64 m.a2] 30)).alloc (.cells #[.int .i64 m.i1, .int .i64 m.i2] 30)).heap[w.heap.size]? = _ := (Below.heap_alloc _ _ _ (by simp)).trans (heap_alloc_new _ _)
  have k1 : ((w.alloc (.cells #[.int .i64 m.a1, .int .i64 m.a2] 30)).alloc (.cells #[.int .i64 m.i1, .int .i64 m.i2] 30)).heap[w.heap.size + 1]? = _ := heap_alloc2_new _ _ _
  clear h hx
  go_enter Try.func17, Try.ntmps17
  go_upto_region 1 with (fail)
  generalize ((w.alloc _).alloc _) = w2 at *
  have z0 := (Array.getElem?_eq_some_iff.1 k0).1
  have z1 := (Array.getElem?_eq_some_iff.1 k1).1
  have HB2 := Lib.hid hb2
  have HK := Lib.hid (And.intro k0 (And.intro k1 (And.intro z0 z1)))
  go_cut [11] (fun p wx => MadeM w w2 m p wx)
  case first =>
    have m00 : w2.cell? ⟨w.heap.size, 0, none⟩ = some (.int .i64 m.a1) := (cell_of_row _ _ 0 _ _ _ k0).trans rfl
    have n00 : ∀ o, (w2.alloc o).cell? ⟨w.heap.size, 0, none⟩ = some (.int .i64 m.a1) := fun o => (World.cell?_alloc_lt w2 o ⟨w.heap.size, 0, none⟩ z0).trans m00
    have m01 : w2.cell? ⟨w.heap.size, 1, none⟩ = some (.int .i64 m.a2) := (cell_of_row _ _ 1 _ _ _ k0).trans rfl
    have n01 : ∀ o, (w2.alloc o).cell? ⟨w.heap.size, 1, none⟩ = some (.int .i64 m.a2) := fun o => (World.cell?_alloc_lt w2 o ⟨w.heap.size, 1, none⟩ z0).trans m01
    have m10 : w2.cell? ⟨w.heap.size + 1, 0, none⟩ = some (.int .i64 m.i1) := (cell_of_row _ _ 0 _ _ _ k1).trans rfl
    have n10 : ∀ o, (w2.alloc o).cell? ⟨w.heap.size + 1, 0, none⟩ = some (.int .i64 m.i1) := fun o => (World.cell?_alloc_lt w2 o ⟨w.heap.size + 1, 0, none⟩ z1).trans m10
    have m11 : w2.cell? ⟨w.heap.size + 1, 1, none⟩ = some (.int .i64 m.i2) := (cell_of_row _ _ 1 _ _ _ k1).trans rfl
    have n11 : ∀ o, (w2.alloc o).cell? ⟨w.heap.size + 1, 1, none⟩ = some (.int .i64 m.i2) := fun o => (World.cell?_alloc_lt w2 o ⟨w.heap.size + 1, 1, none⟩ z1).trans m11
    have HCL := Lib.hid (fun (w' : World) (hb : Below w2.heap.size w2 w') => cloneI_calls xa m.ar.length xc m.ar w' rfl (HX.out.rd.below (HB2.out.trans (hb.mono HB2.out.size))) hal)
    clear hb2 k0 k1
    have hdr : Below w2.heap.size w2 w2.drew := (Below.refl _ _).drew
    have hdz : Below w2.heap.size w2 (w2.alloc (.cells #[.int .i64 0, .int .i64 0, .int .i64 0, .int .i64 0, .string ⟨#[]⟩, .slice none 0 0] 76)).drew := (below1 w2 _).drew
    go_region_law (first | (go_simp; go_at_call 37; (with_reducible refine (HCL.out w2.drew hdr).mono ?_); rintro e w3 ⟨X, cx, rfl, hown, hb⟩; have hb3 : Below w2.heap.size w2 w3 := hdr.trans hb; have hoo : Hid (w3.ownsRow w2.heap.size 3 1 (.slice X m.ar.length cx) m.ar.length (m.ar.map (Value.int .i64))) := hown; clear hown hb; have p00 : w3.cell? ⟨w.heap.size, 0, none⟩ = some (.int .i64 m.a1) := (hb3.cell (p := ⟨w.heap.size, 0, none⟩) z0).trans m00; have p01 : w3.cell? ⟨w.heap.size, 1, none⟩ = some (.int .i64 m.a2) := (hb3.cell (p := ⟨w.heap.size, 1, none⟩) z0).trans m01; have p10 : w3.cell? ⟨w.heap.size + 1, 0, none⟩ = some (.int .i64 m.i1) := (hb3.cell (p := ⟨w.heap.size + 1, 0, none⟩) z1).trans m10; have p11 : w3.cell? ⟨w.heap.size + 1, 1, none⟩ = some (.int .i64 m.i2) := (hb3.cell (p := ⟨w.heap.size + 1, 1, none⟩) z1).trans m11; have q00 : ∀ o, (w3.alloc o).cell? ⟨w.heap.size, 0, none⟩ = some (.int .i64 m.a1) := fun o => (World.cell?_alloc_lt w3 o ⟨w.heap.size, 0, none⟩ (Nat.lt_of_lt_of_le z0 hb3.size)).trans p00; have q01 : ∀ o, (w3.alloc o).cell? ⟨w.heap.size, 1, none⟩ = some (.int .i64 m.a2) := fun o => (World.cell?_alloc_lt w3 o ⟨w.heap.size, 1, none⟩ (Nat.lt_of_lt_of_le z0 hb3.size)).trans p01; have q10 : ∀ o, (w3.alloc o).cell? ⟨w.heap.size + 1, 0, none⟩ = some (.int .i64 m.i1) := fun o => (World.cell?_alloc_lt w3 o ⟨w.heap.size + 1, 0, none⟩ (Nat.lt_of_lt_of_le z1 hb3.size)).trans p10; have q11 : ∀ o, (w3.alloc o).cell? ⟨w.heap.size + 1, 1, none⟩ = some (.int .i64 m.i2) := fun o => (World.cell?_alloc_lt w3 o ⟨w.heap.size + 1, 1, none⟩ (Nat.lt_of_lt_of_le z1 hb3.size)).trans p11; have tok1 : True := trivial) | (go_simp; go_at_call 37; (with_reducible refine (HCL.out (w2.alloc (.cells #[.int .i64 0, .int .i64 0, .int .i64 0, .int .i64 0, .string ⟨#[]⟩, .slice none 0 0] 76)).drew hdz).mono ?_); rintro e w3 ⟨X, cx, rfl, hown, hb⟩; have hb3 : Below w2.heap.size w2 w3 := hdz.trans (hb.mono (by simp)); have hzz : w3.heap[w2.heap.size]? = some (.cells #[.int .i64 0, .int .i64 0, .int .i64 0, .int .i64 0, .string ⟨#[]⟩, .slice none 0 0] 76 (0, 0)) := (hb.block _ (by simp)).trans (heap_alloc_new w2 (.cells #[.int .i64 0, .int .i64 0, .int .i64 0, .int .i64 0, .string ⟨#[]⟩, .slice none 0 0] 76)); have hoo : Hid (w3.ownsRow (w2.heap.size + 1) 3 1 (.slice X m.ar.length cx) m.ar.length (m.ar.map (Value.int .i64))) := own_base hown (by simp); have nz0 : w3.cell? ⟨w2.heap.size, 0, none⟩ = some _ := (cell_of_row _ _ 0 _ _ _ hzz).trans rfl; have nf0 : w3.frozen? ⟨w2.heap.size, 0, none⟩ = false := frozen_of_row _ _ _ _ _ hzz; have nz1 : w3.cell? ⟨w2.heap.size, 1, none⟩ = some _ := (cell_of_row _ _ 1 _ _ _ hzz).trans rfl; have nf1 : w3.frozen? ⟨w2.heap.size, 1, none⟩ = false := frozen_of_row _ _ _ _ _ hzz; have nz2 : w3.cell? ⟨w2.heap.size, 2, none⟩ = some _ := (cell_of_row _ _ 2 _ _ _ hzz).trans rfl; have nf2 : w3.frozen? ⟨w2.heap.size, 2, none⟩ = false := frozen_of_row _ _ _ _ _ hzz; have nz3 : w3.cell? ⟨w2.heap.size, 3, none⟩ = some _ := (cell_of_row _ _ 3 _ _ _ hzz).trans rfl; have nf3 : w3.frozen? ⟨w2.heap.size, 3, none⟩ = false := frozen_of_row _ _ _ _ _ hzz; have nz4 : w3.cell? ⟨w2.heap.size, 4, none⟩ = some _ := (cell_of_row _ _ 4 _ _ _ hzz).trans rfl; have nf4 : w3.frozen? ⟨w2.heap.size, 4, none⟩ = false := frozen_of_row _ _ _ _ _ hzz; have nz5 : w3.cell? ⟨w2.heap.size, 5, none⟩ = some _ := (cell_of_row _ _ 5 _ _ _ hzz).trans rfl; have nf5 : w3.frozen? ⟨w2.heap.size, 5, none⟩ = false := frozen_of_row _ _ _ _ _ hzz; clear hown hb; have p00 : w3.cell? ⟨w.heap.size, 0, none⟩ = some (.int .i64 m.a1) := (hb3.cell (p := ⟨w.heap.size, 0, none⟩) z0).trans m00; have p01 : w3.cell? ⟨w.heap.size, 1, none⟩ = some (.int .i64 m.a2) := (hb3.cell (p := ⟨w.heap.size, 1, none⟩) z0).trans m01; have p10 : w3.cell? ⟨w.heap.size + 1, 0, none⟩ = some (.int .i64 m.i1) := (hb3.cell (p := ⟨w.heap.size + 1, 0, none⟩) z1).trans m10; have p11 : w3.cell? ⟨w.heap.size + 1, 1, none⟩ = some (.int .i64 m.i2) := (hb3.cell (p := ⟨w.heap.size + 1, 1, none⟩) z1).trans m11; have tok2 : True := trivial))
    all_goals first
      | (have _t := tok1; have HG := Lib.hid (made1 HX.out HB2.out hb3 hoo.out); go_wp2_with fail; go_meet; exact HG.out)
      | (have _t := tok2; have HG := Lib.hid (made2 HX.out HB2.out hb3 hoo.out hzz); go_wp2_with fail; go_meet; exact HG.out)
  case rest =>
    rename World => wx
    obtain ⟨q, X, cx, rfl, hq, hqx, hbx, NN, hok, hNN⟩ := hcut
    have HQX := Lib.hid hqx
    have HOK := Lib.hid hok
    have HNN := Lib.hid hNN
    have HBX := Lib.hid (HB2.out.trans (hbx.mono HB2.out.size))
    have HBX2 := Lib.hid hbx
    have HV := Lib.hid (valid_calls _ wx NN hok)
    have c0 : wx.cell? ⟨q, 0, none⟩ = some (.int .i64 m.a1) := (cell_of_row _ _ 0 _ _ _ hqx).trans rfl
    have c1 : wx.cell? ⟨q, 1, none⟩ = some (.int .i64 m.a2) := (cell_of_row _ _ 1 _ _ _ hqx).trans rfl
    have c2 : wx.cell? ⟨q, 2, none⟩ = some (.int .i64 m.i1) := (cell_of_row _ _ 2 _ _ _ hqx).trans rfl
    have c3 : wx.cell? ⟨q, 3, none⟩ = some (.int .i64 m.i2) := (cell_of_row _ _ 3 _ _ _ hqx).trans rfl
    have c4 : wx.cell? ⟨q, 4, none⟩ = some (.string m.me) := (cell_of_row _ _ 4 _ _ _ hqx).trans rfl
    have c5 : wx.cell? ⟨q, 5, none⟩ = some (.slice X m.ar.length cx) := (cell_of_row _ _ 5 _ _ _ hqx).trans rfl
    unfold mval Mm.cells ValB at HV
    simp only at HV
    clear hqx hok hNN hbx hb2 k0 k1 z0 z1
    cases hv : valid m with
    | false =>
      have HE : Hid (putE l m = 1) := Lib.hid (by unfold putE; rw [if_pos hv])
      rw [hv] at HV
      clear hv
      go_wp2_with ((with_reducible refine HV.out.mono ?_); rintro e w4 ⟨rfl, hb⟩; have HB4 := Lib.hid hb; clear hb)
      go_ret
      have hl : putL l m = l := by unfold putL; rw [if_neg (by rw [HE.out]; omega)]
      have hb4 := HBX.out.trans (HB4.out.mono HBX.out.size)
      exact ⟨by rw [HE.out]; rfl, by rw [hl]; exact ⟨HB0.out.below hb4, Same.of_below HB0.out.lt hb4, hb4.mono hB⟩⟩
    | true =>
      rw [hv] at HV
      go_upto_region 4 with (((with_reducible refine HV.out.mono ?_); rintro e w4 ⟨rfl, hb⟩; have HB4 := Lib.hid hb; clear hb))
      obtain ⟨N, A, n, c, xs, hbx0, hl, hi, hK⟩ := HB0.out
      have hbx := hbx0.below HBX.out
      have HX0 := Lib.hid hbx0
      have HK0 := Lib.hid hK
      have hbx4 := hbx.below HB4.out
      have g4 : w4.cell? ⟨g, 0, none⟩ = some (.slice A n c) := (cell_of_row _ _ 0 _ _ _ hbx4.hd).trans rfl
      have hkid : w4.heap[w.heap.size + 1]? = some (.cells #[.int .i64 m.i1, .int .i64 m.i2] 30 (0, 0)) := (HB4.out.block _ (Nat.lt_of_lt_of_le HK.out.2.2.2 HBX2.out.size)).trans ((HBX2.out.block _ HK.out.2.2.2).trans HK.out.2.1)
      have hzid : w.heap.size + 1 < w4.heap.size := (Array.getElem?_eq_some_iff.1 hkid).1
      have hnl : n = l.length := by rw [← hl, List.length_map]; exact hbx.hn.symm
      have hn1 : n ≤ 1024 := by rw [hnl]; exact hi.n
      have HC := Lib.hid (containsM_calls 40 #[.pointer (some ⟨w.heap.size + 1, 0, none⟩)] enters_put1 (fun y => sameId y m) A n c xs w4 hbx4.hn hbx4.rd (by omega)
        (fun y w' hb => put1_calls y (w.heap.size + 1) m.i1 m.i2 w' ((cell_of_row _ _ 0 _ _ _ ((hb.block _ hzid).trans hkid)).trans rfl) ((cell_of_row _ _ 1 _ _ _ ((hb.block _ hzid).trans hkid)).trans rfl)))
      have e5 : (xs.any fun y => sameId y.m m) = l.any fun y => sameId y m := by rw [← hl, List.any_map]; rfl
      rw [e5] at HC
      have HX4 := Lib.hid hbx4
      have HL := Lib.hid hl
      have HI := Lib.hid hi
      have HNL := Lib.hid hnl
      have HW4 := Lib.hid (HBX.out.trans (HB4.out.mono HBX.out.size))
      clear hbx hbx0 hl hi hK hbx4 hkid hzid hnl e5 c0 c1 c2 c3 c4 c5
      cases ha : l.any fun y => sameId y m with
      | true =>
        have HE : Hid (putE l m = 5) := Lib.hid (by unfold putE; rw [if_neg (by rw [hv]; simp), if_pos ha])
        rw [ha] at HC
        clear ha hv
        go_wp2_with ((with_reducible refine HC.out.mono ?_); rintro e w5 ⟨rfl, hb⟩; have HB5 := Lib.hid hb; clear hb)
        go_ret
        have hl : putL l m = l := by unfold putL; rw [if_neg (by rw [HE.out]; omega)]
        have hb5 := HW4.out.trans (HB5.out.mono HW4.out.size)
        exact ⟨by rw [HE.out]; rfl, by rw [hl]; exact ⟨HB0.out.below hb5, Same.of_below HB0.out.lt hb5, hb5.mono hB⟩⟩
      | false =>
        rw [ha] at HC
        by_cases hfull : 1024 ≤ n
        · have HE : Hid (putE l m = 8) := Lib.hid (by unfold putE; rw [if_neg (by rw [hv]; simp), if_neg (by rw [ha]; simp), if_pos (by rw [← HNL.out]; exact hfull)])
          have q1 : (1024 : Int) ≤ (n : Int) := by omega
          clear ha hv
          go_wp2_with (((with_reducible refine HC.out.mono ?_); rintro e w5 ⟨rfl, hb⟩; have HB5 := Lib.hid hb; have g5 := (hb.cell (p := ⟨g, 0, none⟩) HX4.out.lt).trans g4; clear hb))
          go_ret
          have hl : putL l m = l := by unfold putL; rw [if_neg (by rw [HE.out]; omega)]
          have hb5 := HW4.out.trans (HB5.out.mono HW4.out.size)
          exact ⟨by rw [HE.out]; rfl, by rw [hl]; exact ⟨HB0.out.below hb5, Same.of_below HB0.out.lt hb5, hb5.mono hB⟩⟩
        · have HE : Hid (putE l m = 0) := Lib.hid (by unfold putE; rw [if_neg (by rw [hv]; simp), if_neg (by rw [ha]; simp), if_neg (by rw [← HNL.out]; exact hfull)])
          have HBP := Lib.hid (HI.out.put m)
          have hpl : putL l m = ins l m := by unfold putL; rw [if_pos HE.out]
          rw [hpl] at HBP
          have HPL := Lib.hid hpl
          have q1 : ¬ (1024 : Int) ≤ (n : Int) := by omega
          have q2 : decide ((1024 : Int) ≤ (n : Int)) = false := decide_eq_false q1
          clear ha hv hpl
          go_upto_region 8 with (((with_reducible refine HC.out.mono ?_); rintro e w5 ⟨rfl, hb⟩; have HB5 := Lib.hid hb; have g5 := (hb.cell (p := ⟨g, 0, none⟩) HX4.out.lt).trans g4; clear hb))
          have HX5 := Lib.hid (HX4.out.below HB5.out)
          have hq5 : w5.heap[q]? = _ := (HB5.out.block q (by have := (Array.getElem?_eq_some_iff.1 HQX.out).1; have := HB4.out.size; omega)).trans ((HB4.out.block q (Array.getElem?_eq_some_iff.1 HQX.out).1).trans HQX.out)
          have HQ5 := Lib.hid hq5
          clear g4 hq5
          have ca : w5.cell? ⟨q, 0, none⟩ = some (.int .i64 m.a1) := (cell_of_row _ _ 0 _ _ _ HQ5.out).trans rfl; have cb : w5.cell? ⟨q, 1, none⟩ = some (.int .i64 m.a2) := (cell_of_row _ _ 1 _ _ _ HQ5.out).trans rfl; have cc : w5.cell? ⟨q, 2, none⟩ = some (.int .i64 m.i1) := (cell_of_row _ _ 2 _ _ _ HQ5.out).trans rfl; have cd : w5.cell? ⟨q, 3, none⟩ = some (.int .i64 m.i2) := (cell_of_row _ _ 3 _ _ _ HQ5.out).trans rfl; have ce : w5.cell? ⟨q, 4, none⟩ = some (.string m.me) := (cell_of_row _ _ 4 _ _ _ HQ5.out).trans rfl; have cf : w5.cell? ⟨q, 5, none⟩ = some (.slice X m.ar.length cx) := (cell_of_row _ _ 5 _ _ _ HQ5.out).trans rfl
          have HS := Lib.hid (search_calls g n c A xs ⟨m, X, cx⟩ w5 HX5.out.hd HX5.out.hn HX5.out.rd (by omega) (by rw [HL.out]; exact HI.out.s))
          unfold mval Mm.cells SrchP at HS
          simp only at HS
          obtain ⟨P, HP⟩ : ∃ P, Hid (pos (xs.map (·.m)) m = P) := ⟨_, rfl⟩
          obtain ⟨fb, HFB⟩ : ∃ P, Hid (foundB (xs.map (·.m)) m = P) := ⟨_, rfl⟩
          rw [HP.out, HFB.out] at HS
          go_upto_region 9 with (((with_reducible refine HS.out.mono ?_); rintro e w6 ⟨rfl, hb⟩; have HB6 := Lib.hid hb; have g6 := (hb.cell (p := ⟨g, 0, none⟩) HX5.out.lt).trans g5; clear hb))
          have HX6 := Lib.hid (HX5.out.below HB6.out)
          have HQ6 := Lib.hid ((HB6.out.block q (Array.getElem?_eq_some_iff.1 HQ5.out).1).trans HQ5.out)
          clear g5 ca cb cc cd ce cf
          have ca : w6.cell? ⟨q, 0, none⟩ = some (.int .i64 m.a1) := (cell_of_row _ _ 0 _ _ _ HQ6.out).trans rfl; have cb : w6.cell? ⟨q, 1, none⟩ = some (.int .i64 m.a2) := (cell_of_row _ _ 1 _ _ _ HQ6.out).trans rfl; have cc : w6.cell? ⟨q, 2, none⟩ = some (.int .i64 m.i1) := (cell_of_row _ _ 2 _ _ _ HQ6.out).trans rfl; have cd : w6.cell? ⟨q, 3, none⟩ = some (.int .i64 m.i2) := (cell_of_row _ _ 3 _ _ _ HQ6.out).trans rfl; have ce : w6.cell? ⟨q, 4, none⟩ = some (.string m.me) := (cell_of_row _ _ 4 _ _ _ HQ6.out).trans rfl; have cf : w6.cell? ⟨q, 5, none⟩ = some (.slice X m.ar.length cx) := (cell_of_row _ _ 5 _ _ _ HQ6.out).trans rfl
          have g6a : ∀ o, (w6.alloc o).cell? ⟨g, 0, none⟩ = some (.slice A n c) := fun o => (World.cell?_alloc_lt w6 o ⟨g, 0, none⟩ HX6.out.lt).trans g6
          have HIN := Lib.hid (insert_calls B n c w6.heap.size P A xs ⟨m, X, cx⟩ (w6.alloc (.cells #[.int .i64 m.a1, .int .i64 m.a2, .int .i64 m.i1, .int .i64 m.i2, .string m.me, .slice X m.ar.length cx] 76)).drew (own_belowS HX6.out.ow (below1 w6 (.cells #[.int .i64 m.a1, .int .i64 m.a2, .int .i64 m.i1, .int .i64 m.i2, .string m.me, .slice X m.ar.length cx] 76)).drew) (heap_alloc_new w6 (.cells #[.int .i64 m.a1, .int .i64 m.a2, .int .i64 m.i1, .int .i64 m.i2, .string m.me, .slice X m.ar.length cx] 76)) (fun b off e => by have := (HX6.out.lts b off e).1; omega) (Nat.le_trans hB (Nat.le_trans HW4.out.size (Nat.le_trans HB5.out.size (Nat.le_trans HB6.out.size (by simp))))) (by omega) HX6.out.hn (by rw [← HP.out]; have := pos_le (xs.map (·.m)) m; rw [List.length_map, HX6.out.hn] at this; exact this))
          have HUP : Hid (∀ e w8, InsP B (.slice A n c) (xs.take P ++ (⟨m, X, cx⟩ : Mm) :: xs.drop P) (w6.alloc (.cells #[.int .i64 m.a1, .int .i64 m.a2, .int .i64 m.i1, .int .i64 m.i2, .string m.me, .slice X m.ar.length cx] 76)).drew e w8 → ∃ A' n' c', e = .returned (.slice A' n' c') ∧ w8.cell? ⟨g, 0, none⟩ = some (.slice A n c) ∧ w8.frozen? ⟨g, 0, none⟩ = false ∧ BxW K B g (ins l m) w (w8.setCell ⟨g, 0, none⟩ (.slice A' n' c'))) := Lib.hid (by
            rintro e w8 ⟨A', c', rfl, ho, ha⟩
            have hW6 : Below w.heap.size w w6 := (HW4.out.trans (HB5.out.mono HW4.out.size)).trans (HB6.out.mono (Nat.le_trans HW4.out.size HB5.out.size))
            have hw1 : Below w.heap.size w (w6.alloc (.cells #[.int .i64 m.a1, .int .i64 m.a2, .int .i64 m.i1, .int .i64 m.i2, .string m.me, .slice X m.ar.length cx] 76)).drew := hW6.trans ((below1 w6 (.cells #[.int .i64 m.a1, .int .i64 m.a2, .int .i64 m.i1, .int .i64 m.i2, .string m.me, .slice X m.ar.length cx] 76)).drew.mono hW6.size)
            have hg8 : w8.heap[g]? = some (.cells #[.slice A n c] 74 (0, 0)) := ha.old ((below1 w6 (.cells #[.int .i64 m.a1, .int .i64 m.a2, .int .i64 m.i1, .int .i64 m.i2, .string m.me, .slice X m.ar.length cx] 76)).drew.block g HX6.out.lt |>.trans HX6.out.hd) (fun e => by
              cases A with
              | none => cases e
              | some a =>
                rcases HX6.out.ow.2 with ⟨h2, _⟩ | ⟨g', c', cur, he, _⟩
                · cases h2
                · cases he
                  simp only [Value.ownBlock, Option.some.injEq] at e
                  subst e
                  exact HX6.out.apart 0 rfl)
            refine ⟨A', _, c', rfl, (cell_of_row _ _ 0 _ _ _ hg8).trans rfl, frozen_of_row _ _ _ _ _ hg8, ?_⟩
            have hsx : wx.heap.size ≤ w6.heap.size := Nat.le_trans HB4.out.size (Nat.le_trans HB5.out.size HB6.out.size)
            have hbx6 : Below wx.heap.size wx (w6.alloc (.cells #[.int .i64 m.a1, .int .i64 m.a2, .int .i64 m.i1, .int .i64 m.i2, .string m.me, .slice X m.ar.length cx] 76)).drew := (HB4.out.trans ((HB5.out.trans (HB6.out.mono HB5.out.size)).mono HB4.out.size)).trans ((below1 w6 (.cells #[.int .i64 m.a1, .int .i64 m.a2, .int .i64 m.i1, .int .i64 m.i2, .string m.me, .slice X m.ar.length cx] 76)).drew.mono hsx)
            refine HX0.out.upd hB hw1 ho ha (N' := NN ++ N) (fun x hx => ?_) (fun y hy => ?_) ?_ HBP.out HK0.out
            · rcases List.mem_append.1 hx with hx | hx
              · exact ((HX0.out.ok x (List.mem_of_mem_take hx)).same (Same.of_below (fun y hy => (HX0.out.nn y hy).1) hw1)).sub (fun y hy => List.mem_append_right _ hy)
              · rcases List.mem_cons.1 hx with rfl | hx
                · exact (HOK.out.same (Same.of_below (fun y hy => (HNN.out y hy).2) hbx6)).sub (fun y hy => List.mem_append_left _ hy)
                · exact ((HX0.out.ok x (List.mem_of_mem_drop hx)).same (Same.of_below (fun y hy => (HX0.out.nn y hy).1) hw1)).sub (fun y hy => List.mem_append_right _ hy)
            · rcases List.mem_append.1 hy with hy | hy
              · have h1 := HNN.out y hy
                have h2 := hbx6.size
                exact ⟨by omega, .inr h1.1⟩
              · have h1 := HX0.out.nn y hy
                have h2 := hw1.size
                exact ⟨by omega, .inl hy⟩
            · rw [List.map_append, List.map_cons, List.map_take, List.map_drop, HL.out]
              unfold ins
              rw [← HP.out, HL.out])
          have HCC : Hid (Calls Try.prog 42 #[.slice A n c, .int .i64 (P : Int), .slice (some ⟨w6.heap.size, 0, none⟩) 1 1] (w6.alloc (.cells #[.int .i64 m.a1, .int .i64 m.a2, .int .i64 m.i1, .int .i64 m.i2, .string m.me, .slice X m.ar.length cx] 76)).drew fun e w8 => ∃ A' n' c', e = .returned (.slice A' n' c') ∧ w8.cell? ⟨g, 0, none⟩ = some (.slice A n c) ∧ w8.frozen? ⟨g, 0, none⟩ = false ∧ BxW K B g (ins l m) w (w8.setCell ⟨g, 0, none⟩ (.slice A' n' c'))) := Lib.hid (HIN.out.mono (fun e w8 h => HUP.out e w8 h))
          clear HIN HUP
          go_region_law (go_simp; go_at_call 42; (with_reducible refine HCC.out.mono ?_); rintro e w8 ⟨A', n', c', rfl, h8, f8, hup⟩; have HUP := Lib.hid hup; clear hup)
          all_goals
            go_wp2_with fail
            go_ret
            exact ⟨by rw [HE.out]; rfl, by rw [HPL.out]; exact HUP.out⟩
end Mb
end Go.Proofs.Ytddoepaplbnlcaa
