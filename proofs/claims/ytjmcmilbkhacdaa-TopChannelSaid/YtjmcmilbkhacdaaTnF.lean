/- The walks of netsim.Drop, Double. -/
import Derived.Test.YtjmcmilbkhacdaaTnE
namespace Go.Proofs.Ytjmcmilbkhacdaa
open Go.RowKit Go.Shelf
namespace Tc

theorem NetW.base {B g m m' : Nat} {A : Option Addr} {ps : List Pk} {w w1 w2 : World} (h : NetW B g A ps m w1 w2) (hb : Below w.heap.size w w1) (hm : m' ≤ m) : NetW B g A ps m' w w2 :=
  ⟨(h.mono hm).net, (Chg.of_below hb _).trans' h.chg⟩
def DropP (B g : Nat) (A : Option Addr) (n : Nat) (ps : List Pk) (k : Int) (w : World) (e : Ending) (w' : World) : Prop :=
  (n = 0 ∧ (∃ v, e = .returned v) ∧ Below w.heap.size w w') ∨ (0 < n ∧ (∃ v, e = .returned v) ∧ NetW B g A (ps.take (chI k n) ++ ps.drop (chI k n + 1)) w.heap.size w w')
theorem NetW.later {B g m : Nat} {A : Option Addr} {ps : List Pk} {w w1 w2 : World} (h : NetW B g A ps m w w1) (hB : B ≤ w.heap.size) (hb : Below w1.heap.size w1 w2) : NetW B g A ps m w w2 := by
  obtain ⟨A', n', c', last', h1, h2⟩ := h.net
  exact ⟨⟨A', n', c', last', h1.below (Nat.le_trans hB h.chg.size) hb, h2⟩, h.chg.trans' (Chg.of_below hb _)⟩
set_option maxRecDepth 100000 in
set_option maxHeartbeats 4000000 in
theorem drop_calls (B g n c : Nat) (A : Option Addr) (last : Int) (ps : List Pk) (k : Int) (w : World) (h : IsNet B w g A n c last ps) (hB : B ≤ w.heap.size) (hn : n ≤ 100000) :
    Calls Try.prog 15 #[.pointer (some ⟨g, 0, none⟩), .int .i64 k] w (DropP B g A n ps k w) := by
  have HD := Lib.hid (deliver_calls B g n c A last ps k w h hB hn)
  have HPS : Hid (ps.length = n) := Lib.hid h.hn
  clear h
  go_enter Try.func15, Try.ntmps15
  go_wp2_with fail
  refine HD.out.mono ?_
  rintro e w1 (⟨hz, rfl, hb⟩ | ⟨hi, rfl, hnw⟩)
  · have hb2 := below1 w1 (.cells #[.int .i64 0, .int .i64 0, .int .i64 0, .slice none 0 0] 50)
    have HF : Hid (DropP B g A n ps k w (.returned (.bool false)) (w1.alloc (.cells #[.int .i64 0, .int .i64 0, .int .i64 0, .slice none 0 0] 50))) := Lib.hid (.inl ⟨hz, ⟨_, rfl⟩, hb.trans (hb2.mono hb.size)⟩)
    clear hz hb hb2 HD
    go_wp2_with fail
    go_ret
    exact HF.out
  · obtain ⟨z, HZ⟩ : ∃ y, Hid (ps[chI k n] = y) := ⟨ps[chI k n], Lib.hid rfl⟩
    rw [HZ.out, show pval z = .agg #[.int .i64 z.num, .int .i64 z.f, .int .i64 z.t, .slice z.a z.d.length z.c] from rfl]
    have hb2 := below1 w1 (.cells #[.int .i64 z.num, .int .i64 z.f, .int .i64 z.t, .slice z.a z.d.length z.c] 50)
    have HF : Hid (DropP B g A n ps k w (.returned (.bool true)) (w1.alloc (.cells #[.int .i64 z.num, .int .i64 z.f, .int .i64 z.t, .slice z.a z.d.length z.c] 50))) := Lib.hid (.inr ⟨by have := HPS.out; omega, ⟨_, rfl⟩, hnw.later hB hb2⟩)
    clear hnw hb2 HD
    go_wp2_with fail
    go_ret
    exact HF.out
theorem enters_dbl : ∀ (args : Array Value) (w' : World), (callFunc 25 args).run Try.prog w' = .ok (.enter 25 args) w' := enters_of Try.func25 (by kernel_rfl) rfl
set_option maxRecDepth 100000 in
set_option maxHeartbeats 4000000 in
theorem dbl1_calls (B g n c q0 i : Nat) (A : Option Addr) (last : Int) (ps : List Pk) (w0 w : World) (h0 : IsNet B w0 g A n c last ps) (hB : B ≤ w0.heap.size) (hb : Below w0.heap.size w0 w) (hq0 : w.heap[q0]? = some (Obj.cells #[.pointer (some ⟨g, 0, none⟩)] 24 (0, 0))) (hn : n ≤ 100000) (hi : i < n) (hip : i < ps.length) :
    Calls Try.prog 25 #[.int .i64 (i : Nat), .pointer (some ⟨q0, 0, none⟩)] w fun e w' => e = .returned (.tuple #[]) ∧ ∃ num X cX, NetW B g A (ps ++ [⟨num, ps[i].f, ps[i].t, ps[i].d, X, cX⟩]) w0.heap.size w0 w' := by
  have h := h0.below hB hb
  obtain ⟨_, _, e0, _, _, _, hrr⟩ := own_formS h.ow
  cases e0
  obtain ⟨b, off, e, hbl, x0, x1, x2, x3⟩ := rd4 hrr i hip
  subst e
  have g1 : w.cell? ⟨g, 1, none⟩ = some (.slice (some ⟨b, off, none⟩) n c) := (cell_of_row _ _ 1 _ _ _ h.hd).trans rfl
  have b0 : w.cell? ⟨q0, 0, none⟩ = some (.pointer (some ⟨g, 0, none⟩)) := (cell_of_row _ _ 0 _ _ _ hq0).trans rfl
  have j0 : (0 : Int) ≤ (i : Int) := by omega
  have j1 : (i : Int) < (n : Int) := by omega
  have HOK := Lib.hid (h.ok _ (List.getElem_mem hip))
  have HDL := Lib.hid (h.dl _ (List.getElem_mem hip))
  have HI := Lib.hid h
  have HB := Lib.hid hb
  have hq0l : q0 < w.heap.size := (Array.getElem?_eq_some_iff.1 hq0).1
  have b0n : ∀ o, (w.alloc o).cell? ⟨q0, 0, none⟩ = some (.pointer (some ⟨g, 0, none⟩)) := fun o => (World.cell?_alloc_lt w o ⟨q0, 0, none⟩ hq0l).trans b0
  obtain ⟨z, HZ⟩ : ∃ y, Hid (ps[i] = y) := ⟨ps[i], Lib.hid rfl⟩
  rw [HZ.out] at x0 x1 x2 x3 HOK HDL ⊢
  have hbz := below1 w (.cells #[.int .i64 z.num, .int .i64 z.f, .int .i64 z.t, .slice z.a z.d.length z.c] 50)
  have hBw := Nat.le_trans hB hb.size
  have HSC := Lib.hid (send_calls B g n c _ last ps z.f z.t z.d z.a z.c (w.alloc (.cells #[.int .i64 z.num, .int .i64 z.f, .int .i64 z.t, .slice z.a z.d.length z.c] 50)) (HI.out.below hBw hbz) (Nat.le_trans hBw hbz.size) (HOK.out.st (Fz.of_below hBw hbz)) HDL.out hn)
  have HBZ := Lib.hid (HB.out.trans (hbz.mono HB.out.size))
  clear h h0 hb hrr hq0 hbz
  go_enter Try.func25, Try.ntmps25
  go_wp2_with fail
  refine HSC.out.mono ?_
  rintro e w2 ⟨⟨v, rfl⟩, num, X, cX, hnw⟩
  have HN2 := Lib.hid (hnw.base HBZ.out HBZ.out.size)
  clear hnw x0 x1 x2 x3 g1 b0 b0n HSC
  go_wp2_with fail
  go_end0
  exact ⟨rfl, num, X, cX, HN2.out⟩
def dblQ (B g : Nat) (A : Option Addr) (n : Nat) (ps : List Pk) (k : Int) (w w' : World) : Prop := ∃ hi : chI k n < ps.length, ∃ (num : Int) (X : Option Addr) (cX : Nat), NetW B g A (ps ++ [Pk.mk num ps[chI k n].f ps[chI k n].t ps[chI k n].d X cX]) w.heap.size w w'
def DblP (B g : Nat) (A : Option Addr) (n : Nat) (ps : List Pk) (k : Int) (w : World) (e : Ending) (w' : World) : Prop :=
  (n = 0 ∧ (∃ v, e = .returned v) ∧ Below w.heap.size w w') ∨ ((∃ v, e = .returned v) ∧ dblQ B g A n ps k w w')
set_option maxRecDepth 100000 in
set_option maxHeartbeats 4000000 in
theorem double_calls (B g n c : Nat) (A : Option Addr) (last : Int) (ps : List Pk) (k : Int) (w : World) (h : IsNet B w g A n c last ps) (hB : B ≤ w.heap.size) (hn : n ≤ 100000) :
    Calls Try.prog 16 #[.pointer (some ⟨g, 0, none⟩), .int .i64 k] w (DblP B g A n ps k w) := by
  have hb1 := below1 w (.cells #[.pointer (some ⟨g, 0, none⟩)] 24)
  have k0 := heap_alloc_new w (.cells #[.pointer (some ⟨g, 0, none⟩)] 24)
  have HI := Lib.hid h
  have HPS : Hid (ps.length = n) := Lib.hid h.hn
  clear h
  go_enter Try.func16, Try.ntmps16
  go_upto_region 1 with (fail)
  generalize w.alloc _ = w2 at *
  have HB2 := Lib.hid hb1
  have h2 := HI.out.below hB hb1
  have HW := Lib.hid (with_calls 25 #[.pointer (some ⟨w.heap.size, 0, none⟩)] enters_dbl g n c A last k w2 h2.hd hn
    (fun w' => dblQ B g A n ps k w w')
    (fun hp => by
      have hlt : chI k n < n := chI_lt k hp
      have hip : chI k n < ps.length := by rw [HPS.out]; exact hlt
      refine (dbl1_calls B g n c w.heap.size (chI k n) A last ps w w2 HI.out hB hb1 k0 hn hlt hip).mono ?_
      rintro e w' ⟨h1, h3⟩
      exact ⟨h1, hip, h3⟩))
  have b0 : w2.cell? ⟨w.heap.size, 0, none⟩ = some (.pointer (some ⟨g, 0, none⟩)) := (cell_of_row _ _ 0 _ _ _ k0).trans rfl
  clear h2 hb1 k0
  go_wp2_with fail
  refine HW.out.mono ?_
  rintro e w3 (⟨hz, rfl, rfl⟩ | ⟨_, rfl, hnw⟩)
  · have HZ := Lib.hid hz
    clear hz HW b0
    go_wp2_with fail
    go_ret
    exact .inl ⟨HZ.out, ⟨_, rfl⟩, HB2.out⟩
  · have HNW := Lib.hid hnw
    clear hnw HW b0
    go_wp2_with fail
    go_ret
    exact .inr ⟨⟨_, rfl⟩, HNW.out⟩
end Tc
end Go.Proofs.Ytjmcmilbkhacdaa
