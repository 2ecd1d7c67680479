/- The walk of TakeAll. -/
import Derived.Test.YtddoepaplbnlcaaMbT
namespace Go.Proofs.Ytddoepaplbnlcaa
open Go.RowKit Go.Shelf
namespace Mb

/-- what TakeAll answers -/
def TakeAllP (K : List Nat) (B g : Nat) (l : List Msg) (a1 a2 : Int) (w : World) (e : Ending) (w' : World) : Prop :=
  ∃ X c, e = .returned (.slice X (ofL l a1 a2).length c) ∧ Rd w' X (cells2 (ofL l a1 a2)) ∧ BxW K B g (restL l a1 a2) w w'
theorem enters_ta1 : ∀ (args : Array Value) (w' : World), (callFunc 87 args).run Try.prog w' = .ok (.enter 87 args) w' := enters_of Try.func87 (by kernel_rfl) rfl
set_option maxRecDepth 100000 in
set_option maxHeartbeats 2000000 in
theorem takeAll_calls (K : List Nat) (B g : Nat) (l : List Msg) (a1 a2 : Int) (w : World) (h : Bx K B g l w) (hB : B ≤ w.heap.size) :
    Calls Try.prog 64 #[.pointer (some ⟨g, 0, none⟩), .agg #[.int .i64 a1, .int .i64 a2]] w (TakeAllP K B g l a1 a2 w) := by
  have HB0 := Lib.hid h
  have hb1 := below1 w (.cells #[.int .i64 a1, .int .i64 a2] 30)
  have k0 := heap_alloc_new w (.cells #[.int .i64 a1, .int .i64 a2] 30)
  clear h
  go_enter Try.func64, Try.ntmps64
  go_upto_region 1 with (fail)
  generalize w.alloc _ = w1 at *
  have HB1 := Lib.hid hb1
  have HK1 := Lib.hid k0
  have hz1 := (Array.getElem?_eq_some_iff.1 k0).1
  have m0 : w1.cell? ⟨w.heap.size, 0, none⟩ = some (.int .i64 a1) := (cell_of_row _ _ 0 _ _ _ k0).trans rfl
  have m1 : w1.cell? ⟨w.heap.size, 1, none⟩ = some (.int .i64 a2) := (cell_of_row _ _ 1 _ _ _ k0).trans rfl
  have HOF := Lib.hid (of_calls K B g l a1 a2 w1 (HB0.out.below hb1))
  clear hb1 k0
  go_upto_region 2 with (((with_reducible refine HOF.out.mono ?_); rintro e w2 ⟨X, cx, rfl, hown, hb⟩; have HO2 := Lib.hid hown; have HB2 := Lib.hid hb; clear hown hb))
  obtain ⟨N, A, n, c, xs, hbx, hl, hi, hK⟩ := HB0.out
  have HW2 := Lib.hid (HB1.out.trans (HB2.out.mono HB1.out.size))
  have HX := Lib.hid hbx
  have HX2 := Lib.hid (hbx.below HW2.out)
  have g2 : w2.cell? ⟨g, 0, none⟩ = some (.slice A n c) := (cell_of_row _ _ 0 _ _ _ HX2.out.hd).trans rfl
  have hn1 : n ≤ 1024 := by rw [show n = l.length by rw [← hl, List.length_map]; exact hbx.hn.symm]; exact hi.n
  have hw2k : w2.heap[w.heap.size]? = some (.cells #[.int .i64 a1, .int .i64 a2] 30 (0, 0)) := (HB2.out.block _ hz1).trans HK1.out
  have hzl : w.heap.size < w2.heap.size := (Array.getElem?_eq_some_iff.1 hw2k).1
  have HD := Lib.hid (deleteFunc_calls 87 #[.pointer (some ⟨w.heap.size, 0, none⟩)] enters_ta1 (isA a1 a2) B n c A xs w2 HX2.out.ow HX2.out.rd (by omega) HX2.out.hn (fun x w' hc hb => by
    have hkk : w'.heap[w.heap.size]? = some (.cells #[.int .i64 a1, .int .i64 a2] 30 (0, 0)) := by
      cases hA : A with
      | none => exact ((hb hA).block _ hzl).trans hw2k
      | some a =>
        rcases HX2.out.ow.2 with ⟨h2, _⟩ | ⟨g', c', cur, he, _⟩
        · cases h2; cases hA
        · injection he with e1 _ _
          have hgl := (HX.out.lts g' 0 e1).1
          refine ((hc g' 0 e1).block _ hzl (fun hm => ?_)).trans hw2k
          simp only [List.mem_singleton] at hm
          omega
    exact takeAll1_calls x w.heap.size a1 a2 w' ((cell_of_row _ _ 0 _ _ _ hkk).trans rfl) ((cell_of_row _ _ 1 _ _ _ hkk).trans rfl)))
  obtain ⟨oln, HOL⟩ : ∃ y, Hid ((ofL l a1 a2).length = y) := ⟨_, rfl⟩
  have HUP : Hid (∀ e w8, InsP B (.slice A n c) (xs.filter fun x => !isA a1 a2 x.m) w2 e w8 → ∃ A' n' c', e = .returned (.slice A' n' c') ∧ w8.cell? ⟨g, 0, none⟩ = some (.slice A n c) ∧ w8.frozen? ⟨g, 0, none⟩ = false ∧ TakeAllP K B g l a1 a2 w (.returned (.slice X oln cx)) (w8.setCell ⟨g, 0, none⟩ (.slice A' n' c'))) := Lib.hid (by
    rintro e w8 ⟨A', c', rfl, ho, ha⟩
    have hg8 : w8.heap[g]? = some (.cells #[.slice A n c] 74 (0, 0)) := ha.old HX2.out.hd (fun e => by
      cases A with
      | none => cases e
      | some a =>
        rcases HX2.out.ow.2 with ⟨h2, _⟩ | ⟨g', c', cur, he, _⟩
        · cases h2
        · cases he
          simp only [Value.ownBlock, Option.some.injEq] at e
          subst e
          exact HX2.out.apart 0 rfl)
    refine ⟨A', _, c', rfl, (cell_of_row _ _ 0 _ _ _ hg8).trans rfl, frozen_of_row _ _ _ _ _ hg8, X, cx, by rw [HOL.out], ?_, ?_⟩
    · -- the identities' row stands
      have hXr : Rd w2 X (cells2 (ofL l a1 a2)) := by
        obtain ⟨_, _, e, _, _, _, hr⟩ := own_formS HO2.out
        cases e; exact hr
      have hXb : ∀ b off, X = some ⟨b, off, none⟩ → w1.heap.size ≤ b ∧ b < w2.heap.size := fun b off e => by
        rcases HO2.out.2 with ⟨h2, _⟩ | ⟨g', c', cur, he, hb, hh, _⟩
        · injection h2 with h2 _ _; rw [h2] at e; cases e
        · injection he with he _ _; rw [he] at e; cases e
          exact ⟨hb, (Array.getElem?_eq_some_iff.1 hh).1⟩
      refine hXr.keep (fun p v hc hp => ?_)
      cases hX : X with
      | none => rw [hX] at hp; cases hp
      | some a =>
        obtain ⟨ab, ao, ap⟩ := a
        rw [hX] at hp
        simp only [Option.map_some, Option.some.injEq] at hp
        have hpl := block_lt_of_cell hc
        have hab : ap = none := by
          rcases HO2.out.2 with ⟨h2, _⟩ | ⟨g', c', cur, he, hb, hh, _⟩
          · injection h2 with h2 _ _; rw [h2] at hX; cases hX
          · injection he with he _ _; rw [he] at hX; cases hX; rfl
        subst hab
        have hbb := hXb ab ao hX
        have hgw := HX.out.lt
        have hs1 := HB1.out.size
        refine (World.cell?_of_block (a := p) ?_).trans hc
        rw [← hp]
        refine (Below.heap_setCell w8 _ _ ab (fun e => ?_)).trans (ha.1.block ab hbb.2 (fun e => ?_))
        · have e' : ab = g := e
          omega
        · rcases HX2.out.ow.2 with ⟨h2, _⟩ | ⟨g', c', cur, he, _⟩
          · rw [h2] at e; cases e
          · rw [he] at e
            simp only [Value.ownBlock, Option.some.injEq] at e
            injection he with e1 _ _
            have := (HX.out.lts g' 0 e1).1
            omega
    · refine HX.out.upd hB HW2.out ho ha (N' := N) (fun x hx => (HX.out.ok x (List.mem_filter.1 hx).1).same (Same.of_below (fun y hy => (HX.out.nn y hy).1) HW2.out)) (fun y hy => ⟨Nat.lt_of_lt_of_le (HX.out.nn y hy).1 HW2.out.size, .inl hy⟩) ?_ (hi.rest a1 a2) hK
      unfold restL
      rw [← hl, List.filter_map]
      rfl)
  have HCC : Hid (Calls Try.prog 86 #[.slice A n c, .func (.func 87) #[] #[.pointer (some ⟨w.heap.size, 0, none⟩)]] w2 fun e w8 => ∃ A' n' c', e = .returned (.slice A' n' c') ∧ w8.cell? ⟨g, 0, none⟩ = some (.slice A n c) ∧ w8.frozen? ⟨g, 0, none⟩ = false ∧ TakeAllP K B g l a1 a2 w (.returned (.slice X oln cx)) (w8.setCell ⟨g, 0, none⟩ (.slice A' n' c'))) := Lib.hid (HD.out.mono (fun e w8 h => HUP.out e w8 h))
  rw [HOL.out]
  clear HD HUP hbx hl hi hK hw2k hzl m0 m1
  go_wp2_with ((with_reducible refine HCC.out.mono ?_); rintro e w8 ⟨A', n', c', rfl, h8, f8, hup⟩; have HUP := Lib.hid hup; clear hup)
  go_ret
  exact HUP.out
end Mb
end Go.Proofs.Ytddoepaplbnlcaa
