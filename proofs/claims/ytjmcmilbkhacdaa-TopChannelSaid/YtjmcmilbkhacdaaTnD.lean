/- A network in memory; the walk of netsim.Send. -/
import Derived.Test.YtjmcmilbkhacdaaTnC
namespace Go.Proofs.Ytjmcmilbkhacdaa
open Go.RowKit Go.Shelf
namespace Tc

/-- a network in memory: block g and its row -/
structure IsNet (B : Nat) (w : World) (g : Nat) (A : Option Addr) (n c : Nat) (last : Int) (ps : List Pk) : Prop where
  hd : w.heap[g]? = some (Obj.cells #[.int .i64 last, .slice A n c] 42 (0, 0))
  gB : B ≤ g
  ow : w.ownsRow B 50 4 (.slice A n c) n (cells4 ps)
  hn : ps.length = n
  ok : ∀ p ∈ ps, Pl B w p.a p.d p.c
  dl : ∀ p ∈ ps, p.d.length ≤ 1000
/-- the blocks that a network may write -/
def netS (g : Nat) (A : Option Addr) : List Nat := g :: (Value.slice A 0 0).ownBlock.toList
theorem IsNet.lt {B g n c : Nat} {w : World} {A : Option Addr} {last : Int} {ps : List Pk} (h : IsNet B w g A n c last ps) : g < w.heap.size := (Array.getElem?_eq_some_iff.1 h.hd).1
theorem own_tyne {w : World} {B n sz p : Nat} {e t : TypeId} {v : Value} {xs : List Value} {cs : Array Value} {fr : Nat × Nat} (h : w.ownsRow B e sz v n xs) (hp : w.heap[p]? = some (Obj.cells cs t fr)) (ht : t ≠ e) : v.ownBlock ≠ some p := by
  rcases h.2 with ⟨h2, _⟩ | ⟨b, cap, cur, e1, _, e3, _⟩
  · rw [h2]; intro h; cases h
  · rw [e1]
    intro h
    simp only [Value.ownBlock, Option.some.injEq] at h
    subst h
    rw [hp] at e3
    injection e3 with e3
    injection e3 with _ e4
    exact ht e4
theorem ownBlock_any (A : Option Addr) (n c n' c' : Nat) : (Value.slice A n c).ownBlock = (Value.slice A n' c').ownBlock := by
  cases A <;> rfl
theorem IsNet.st {B g n c : Nat} {w w' : World} {A : Option Addr} {last : Int} {ps : List Pk} {S : List Nat} (h : IsNet B w g A n c last ps) (hc : Chg S w w') (hS : ∀ x ∈ S, x ∉ netS g A) (hf : Fz B w w') : IsNet B w' g A n c last ps :=
  ⟨hc.blk h.hd (fun hm => hS g hm (by simp [netS])), h.gB, hc.ownS h.ow (fun b hb hm => hS b hm (by rw [ownBlock_any A n c 0 0] at hb; simp [netS, hb])), h.hn, fun p hp => (h.ok p hp).st hf, h.dl⟩
theorem IsNet.below {B g n c : Nat} {w w' : World} {A : Option Addr} {last : Int} {ps : List Pk} (h : IsNet B w g A n c last ps) (hB : B ≤ w.heap.size) (hb : Below w.heap.size w w') : IsNet B w' g A n c last ps :=
  h.st (Chg.of_below hb []) (by simp) (Fz.of_below hB hb)
/-- a network's own writes leave byte rows -/
theorem IsNet.fz {B g n c : Nat} {w w' : World} {A : Option Addr} {last : Int} {ps : List Pk} (h : IsNet B w g A n c last ps) (hB : B ≤ w.heap.size) (hc : Chg (netS g A) w w') : Fz B w w' := by
  refine Fz.of_chg hB hc (fun x hx => ?_)
  simp only [netS, List.mem_cons, Option.mem_toList] at hx
  rcases hx with rfl | hx
  · refine ⟨h.gB, fun cs fr he => ?_⟩
    rw [h.hd] at he
    injection he with he
    injection he with _ he
    exact absurd he (by decide)
  · rw [ownBlock_any A 0 0 n c] at hx
    refine ⟨(h.ow.lt x hx).1, fun cs fr he => own_tyne h.ow he (by decide) hx⟩
/-- packets were added or taken -/
structure NetW (B : Nat) (g : Nat) (A : Option Addr) (ps : List Pk) (m : Nat) (w w' : World) : Prop where
  net : ∃ A' n' c' last', IsNet B w' g A' n' c' last' ps ∧ ((Value.slice A' 0 0).ownBlock = (Value.slice A 0 0).ownBlock ∨ ∃ b, (Value.slice A' 0 0).ownBlock = some b ∧ m ≤ b)
  chg : Chg (netS g A) w w'
theorem NetW.mono {B g m m' : Nat} {A : Option Addr} {ps : List Pk} {w w' : World} (h : NetW B g A ps m w w') (hm : m' ≤ m) : NetW B g A ps m' w w' := by
  obtain ⟨A', n', c', last', h1, h2⟩ := h.net
  exact ⟨⟨A', n', c', last', h1, h2.imp id fun ⟨b, h3, h4⟩ => ⟨b, h3, Nat.le_trans hm h4⟩⟩, h.chg⟩
/-- a new block, not the network's, is written behind it -/
theorem NetW.new {B g m : Nat} {A : Option Addr} {ps : List Pk} {w w1 w2 : World} {q : Nat} (h : NetW B g A ps m w w1) (hB : B ≤ w.heap.size) (hc : Chg [q] w1 w2) (hq : w.heap.size ≤ q) (hqm : q < m) (hqt : ∀ cs fr, w1.heap[q]? ≠ some (Obj.cells cs 5 fr)) (hg : g < w.heap.size) (hA : ∀ b, (Value.slice A 0 0).ownBlock = some b → b < w.heap.size) : NetW B g A ps m w w2 := by
  obtain ⟨A', n', c', last', h1, h2⟩ := h.net
  have hB1 : B ≤ w1.heap.size := Nat.le_trans hB h.chg.size
  refine ⟨⟨A', n', c', last', h1.st hc (fun x hx => ?_) (Fz.of_chg hB1 hc (fun x hx => ?_)), h2⟩, h.chg.trans hc (fun x hx => ?_)⟩
  · rw [List.mem_singleton.1 hx]
    simp only [netS, List.mem_cons, Option.mem_toList]
    rintro (h3 | h3)
    · omega
    · rcases h2 with h2 | ⟨b, h2, h4⟩
      · rw [h2] at h3
        have := hA q h3
        omega
      · rw [h2] at h3
        injection h3 with h3
        omega
  · rw [List.mem_singleton.1 hx]; exact ⟨Nat.le_trans hB hq, hqt⟩
  · rw [List.mem_singleton.1 hx]; exact .inr hq
theorem net_push {B g n c cX cx3 : Nat} {A X X3 : Option Addr} {last l1 f t : Int} {ps : List Pk} {d : List UInt8} {w w1 w2 wa w3 : World} (h : IsNet B w g A n c last ps) (hB : B ≤ w.heap.size) (hc1 : Chg [g] w w1) (hk1 : w1.heap[g]? = some (Obj.cells #[.int .i64 l1, .slice A n c] 42 (0, 0)))
    (ho1 : w1.ownsRow B 50 4 (.slice A n c) n (cells4 ps)) (hb2 : Below w1.heap.size w1 w2) (hp : Pl B w2 X d cX) (hdl : d.length ≤ 1000) (hba : Below w2.heap.size w2 wa)
    (ho3 : w3.ownsRow B 50 4 (.slice X3 (n + 1) cx3) (n + 1) (cells4 ps ++ [.int .i64 l1, .int .i64 f, .int .i64 t, .slice X d.length cX])) (ha : App wa (.slice A n c) w3 (.slice X3 (n + 1) cx3)) (hg3 : w3.heap[g]? = some (Obj.cells #[.int .i64 l1, .slice A n c] 42 (0, 0))) :
    (w3.setCell ⟨g, 1, none⟩ (.slice X3 (n + 1) cx3)).cell? ⟨g, 0, none⟩ = some (.int .i64 l1) ∧ NetW B g A (ps ++ [⟨l1, f, t, d, X, cX⟩]) w.heap.size w (w3.setCell ⟨g, 1, none⟩ (.slice X3 (n + 1) cx3)) := by
  have hrow : ∀ x, (Value.slice A n c).ownBlock = some x → x ∈ netS g A := fun x hx => by
    rw [ownBlock_any A n c 0 0] at hx; simp [netS, hx]
  have hcs : Chg (netS g A) w3 (w3.setCell ⟨g, 1, none⟩ (.slice X3 (n + 1) cx3)) := (Chg.refl _ w3).setCell (p := ⟨g, 1, none⟩) (.inl (by simp [netS])) _
  have hca : Chg (netS g A) wa w3 := Chg.of_grown ha.1 hrow
  have hc2x : Chg (netS g A) w2 (w3.setCell ⟨g, 1, none⟩ (.slice X3 (n + 1) cx3)) := ((Chg.of_below hba _).trans' hca).trans' hcs
  have hcx : Chg (netS g A) w (w3.setCell ⟨g, 1, none⟩ (.slice X3 (n + 1) cx3)) := ((hc1.mono (by simp [netS])).trans' (Chg.of_below hb2 _)).trans' hc2x
  have hfx := h.fz hB hcx
  have hB2 : B ≤ w2.heap.size := Nat.le_trans hB (Nat.le_trans hc1.size hb2.size)
  have hk2 := (hb2.block g (Array.getElem?_eq_some_iff.1 hk1).1).trans hk1
  have ho2 := own_belowS ho1 hb2
  have hf2 : Fz B w2 (w3.setCell ⟨g, 1, none⟩ (.slice X3 (n + 1) cx3)) := Fz.of_chg hB2 hc2x (fun x hx => by
    simp only [netS, List.mem_cons, Option.mem_toList] at hx
    rcases hx with rfl | hx
    · refine ⟨h.gB, fun cs fr he => ?_⟩
      rw [hk2] at he
      injection he with he
      injection he with _ he
      exact absurd he (by decide)
    · rw [ownBlock_any A 0 0 n c] at hx
      exact ⟨(ho2.lt x hx).1, fun cs fr he => own_tyne ho2 he (by decide) hx⟩)
  have hkx : (w3.setCell ⟨g, 1, none⟩ (.slice X3 (n + 1) cx3)).heap[g]? = some (Obj.cells #[.int .i64 l1, .slice X3 (n + 1) cx3] 42 (0, 0)) := heap_setCell_same _ _ _ _ _ _ hg3
  refine ⟨(cell_of_row _ _ 0 _ _ _ hkx).trans rfl, ⟨X3, n + 1, cx3, l1, ⟨hkx, h.gB, ?_, by rw [List.length_append, h.hn]; rfl, fun p hp2 => ?_, fun p hp2 => ?_⟩, ?_⟩, hcx⟩
  · have e : cells4 (ps ++ [⟨l1, f, t, d, X, cX⟩]) = cells4 ps ++ [.int .i64 l1, .int .i64 f, .int .i64 t, .slice X d.length cX] := by unfold cells4; rw [List.map_append, List.flatten_append]; rfl
    rw [e]
    exact ((Chg.refl [g] w3).setCell (p := ⟨g, 1, none⟩) (.inl (by simp)) (.slice X3 (n + 1) cx3)).ownS ho3 (fun b hb hm => own_tyne ho3 hg3 (by decide) (by rw [hb, List.mem_singleton.1 hm]))
  · rcases List.mem_append.1 hp2 with hp2 | hp2
    · exact (h.ok p hp2).st hfx
    · rw [List.mem_singleton.1 hp2]; exact hp.st hf2
  · rcases List.mem_append.1 hp2 with hp2 | hp2
    · exact h.dl p hp2
    · rw [List.mem_singleton.1 hp2]; exact hdl
  · rcases ha.2 with h1 | ⟨b, h1, h2⟩
    · rw [ownBlock_any X3 0 0 (n + 1) cx3, h1, ownBlock_any A n c 0 0]; exact .inl rfl
    · exact .inr ⟨b, by rw [ownBlock_any X3 0 0 (n + 1) cx3]; exact h1, Nat.le_trans hc1.size (Nat.le_trans hb2.size (Nat.le_trans hba.size h2))⟩
set_option maxRecDepth 100000 in
set_option maxHeartbeats 4000000 in
theorem send_calls (B g n c : Nat) (A : Option Addr) (last : Int) (ps : List Pk) (f t : Int) (d : List UInt8) (a : Option Addr) (ca : Nat) (w : World) (h : IsNet B w g A n c last ps) (hB : B ≤ w.heap.size) (hd : Pl B w a d ca) (hdl : d.length ≤ 1000) (hn : n ≤ 100000) :
    Calls Try.prog 14 #[.pointer (some ⟨g, 0, none⟩), .int .i64 f, .int .i64 t, .slice a d.length ca] w fun e w' => (∃ v, e = .returned v) ∧ ∃ num X cX, NetW B g A (ps ++ [⟨num, f, t, d, X, cX⟩]) w.heap.size w w' := by
  have HN := Lib.hid h
  have hgl := h.lt
  have c0 : w.cell? ⟨g, 0, none⟩ = some (.int .i64 last) := (cell_of_row _ _ 0 _ _ _ h.hd).trans rfl
  have f0 : w.frozen? ⟨g, 0, none⟩ = false := frozen_of_row _ _ 0 _ _ h.hd
  have hc1 : Chg [g] w (w.setCell ⟨g, 0, none⟩ (.int .i64 (wrap64 (last + 1)))) := (Chg.refl [g] w).setCell (p := ⟨g, 0, none⟩) (.inl (by simp)) _
  have hk1 : (w.setCell ⟨g, 0, none⟩ (.int .i64 (wrap64 (last + 1)))).heap[g]? = some (Obj.cells #[.int .i64 (wrap64 (last + 1)), .slice A n c] 42 (0, 0)) := heap_setCell_same _ _ _ _ _ _ h.hd
  have HC1 := Lib.hid hc1
  have HK1 := Lib.hid hk1
  have hf1 : Fz B w (w.setCell ⟨g, 0, none⟩ (.int .i64 (wrap64 (last + 1)))) := Fz.of_chg hB hc1 (by
    simp only [List.mem_singleton]
    rintro x rfl
    refine ⟨h.gB, fun cs fr he => ?_⟩
    rw [h.hd] at he
    injection he with he
    injection he with _ he
    exact absurd he (by decide))
  have HF1 := Lib.hid hf1
  have HP1 := Lib.hid (hd.st hf1)
  have HO1 := Lib.hid (hc1.ownS h.ow (fun b hb hm => own_tyne h.ow h.hd (by decide) (by rw [hb, List.mem_singleton.1 hm])))
  have HDL := Lib.hid hdl
  clear h hc1 hk1 hf1 hd hdl
  go_enter Try.func14, Try.ntmps14
  go_upto_region 2 with (fail)
  clear c0 f0
  generalize wrap64 (last + 1) = l1 at *
  generalize w.setCell _ _ = w1 at *
  have hB1 : B ≤ w1.heap.size := Nat.le_trans hB HC1.out.size
  have hg1 : g < w1.heap.size := (Array.getElem?_eq_some_iff.1 HK1.out).1
  have c0 : w1.cell? ⟨g, 0, none⟩ = some (.int .i64 l1) := (cell_of_row _ _ 0 _ _ _ HK1.out).trans rfl
  have c1 : w1.cell? ⟨g, 1, none⟩ = some (.slice A n c) := (cell_of_row _ _ 1 _ _ _ HK1.out).trans rfl
  have HPN : Hid ((Value.slice A n c).ownBlock ≠ some g) := Lib.hid (own_tyne HO1.out HK1.out (by decide))
  obtain ⟨N, HNN⟩ : ∃ y, Hid (d.length = y) := ⟨_, rfl⟩
  have HCP : Hid (Calls Try.prog 23 #[.agg #[.int .i64 l1, .int .i64 f, .int .i64 t, .slice a N ca]] w1.drew fun e w2 => ∃ X cX, e = .returned (.agg #[.int .i64 l1, .int .i64 f, .int .i64 t, .slice X N cX]) ∧ Pl B w2 X d cX ∧ Below w1.heap.size w1 w2) := Lib.hid (by
    have h1 := copied_calls ⟨l1, f, t, d, a, ca⟩ B w1.drew (HP1.out.st (Fz.of_below hB1 (Below.refl _ _).drew)) (Nat.le_trans HDL.out (by omega))
    rw [show pval ⟨l1, f, t, d, a, ca⟩ = .agg #[.int .i64 l1, .int .i64 f, .int .i64 t, .slice a d.length ca] from rfl, HNN.out] at h1
    refine h1.mono ?_
    rintro e w2 ⟨X, cX, rfl, hp, hb⟩
    exact ⟨X, cX, by rw [show pval ⟨l1, f, t, d, X, cX⟩ = .agg #[.int .i64 l1, .int .i64 f, .int .i64 t, .slice X d.length cX] from rfl, HNN.out], hp, (Below.refl _ _).drew.trans hb⟩)
  rw [HNN.out]
  go_region_law (first | (refine step_appS _ (by rfl) _ _ 40 (by rfl) B 50 zP 4 48 Try.underlying40 info_p rfl (by omega) (.slice A n c) n (cells4 ps) (by rfl) (own_belowS HO1.out (HB2.out.trans ((below1 w2 _).mono HB2.out.size))) (some ⟨w2.heap.size, 0, none⟩) 1 1 [.int .i64 l1, .int .i64 f, .int .i64 t, .slice X N cX] (by rfl) rfl (Rd.new w2 [.int .i64 l1, .int .i64 f, .int .i64 t, .slice X N cX] _ _) (by simp [Value.oneCell']) (by simp only [maxLen]; omega) (by omega) (Nat.le_trans hB1 (Nat.le_trans HB2.out.size (by simp))) ?_; intro X3 cx3 w3 hown3 happ3; have hg3 := happ3.old (((HB2.out.trans ((below1 w2 _).mono HB2.out.size)).block g hg1).trans HK1.out) HPN.out; have e3 : w3.cell? ⟨g, 1, none⟩ = some (.slice A n c) := (cell_of_row _ _ 1 _ _ _ hg3).trans rfl; have f3 : w3.frozen? ⟨g, 1, none⟩ = false := frozen_of_row _ _ _ _ _ hg3; have HO3 := Lib.hid hown3; have HA3 := Lib.hid happ3; have HG3 := Lib.hid hg3; clear hown3 happ3 hg3) | (go_simp; go_at_call 23; refine HCP.out.mono ?_; rintro e w2 ⟨X, cX, rfl, hpl2, hb2⟩; have HPL2 := Lib.hid hpl2; have HB2 := Lib.hid hb2; have e2 : w2.cell? ⟨g, 1, none⟩ = some (.slice A n c) := (hb2.cell (p := ⟨g, 1, none⟩) hg1).trans c1; have e2b : ∀ o : Obj, (w2.alloc o).cell? ⟨g, 1, none⟩ = some (.slice A n c) := fun o => (World.cell?_alloc_lt w2 o ⟨g, 1, none⟩ (block_lt_of_cell e2)).trans e2; clear hpl2 hb2))
  all_goals
    have HG := Lib.hid (net_push HN.out hB HC1.out HK1.out HO1.out HB2.out HPL2.out HDL.out (below1 w2 _) (by rw [HNN.out]; exact HO3.out) HA3.out HG3.out)
    clear e2 e2b e3 f3 HO3 HA3 HPL2 HB2 HPN
    have r0 := HG.out.1
    clear c0 c1
    go_wp2_with fail
    go_ret
    exact ⟨⟨_, rfl⟩, _, _, _, HG.out.2⟩
end Tc
end Go.Proofs.Ytjmcmilbkhacdaa
