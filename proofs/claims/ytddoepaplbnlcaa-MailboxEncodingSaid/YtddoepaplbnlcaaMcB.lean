/- The walk of refmeshref46's Put. -/
import Derived.Test.YtddoepaplbnlcaaMcA
import Derived.Test.YtddoepaplbnlcaaMbO
import Derived.Deep.CutBlock
namespace Go.Proofs.Ytddoepaplbnlcaa
open Go.RowKit Go.Shelf
namespace Mb

theorem Mm.ok.below {w w' : World} {N : List Nat} {x : Mm} (h : x.ok w N) (hb : Below w.heap.size w w') : x.ok w' N := ⟨h.rd.below hb, h.c1, h.c2, h.b, h.a1, h.a2, h.i1, h.i2, h.ar, h.s⟩
theorem below_drw (w : World) : Below w.heap.size w w.drew := (Below.refl _ _).drew
theorem heap_fst (w : World) (X Y : Obj) : ((w.alloc X).alloc Y).heap[w.heap.size]? = some X := (Below.heap_alloc _ _ _ (by simp)).trans (heap_alloc_new _ _)
/-- what the reference's Put answers -/
def RPutP (M : List Nat) (l : List Msg) (m : Msg) (w : World) (e : Ending) (w' : World) : Prop := ∃ A n c, e = .returned (.tuple #[.slice A n c, .int .i64 (putE l m)]) ∧ NewM M (putL l m) (.slice A n c) w w'
theorem NewM.trans {M : List Nat} {l : List Msg} {v : Value} {w w1 w' : World} (hb : Below w.heap.size w w1) (h : NewM M l v w1 w') : NewM M l v w w' := by
  obtain ⟨M', h1, h2, h3⟩ := h
  exact ⟨M', h1, fun y hy => (h2 y hy).imp id (fun h => ⟨Nat.le_trans hb.size h.1, h.2⟩), hb.trans (h3.mono hb.size)⟩
set_option maxRecDepth 100000 in
set_option maxHeartbeats 4000000 in
theorem rput_calls (M : List Nat) (l : List Msg) (v : Value) (x : Mm) (NX : List Nat) (w : World) (h : Mo M l v w) (hx : x.ok w NX) (hal : x.m.ar.length ≤ 1000000) (hi : Inv l) :
    Calls Try.prog 55 #[v, mval x] w (RPutP M l x.m w) := by
  obtain ⟨m, xa, xc⟩ := x
  have HM0 := Lib.hid h
  obtain ⟨A, n, c, xs, rfl, hm, hl⟩ := h
  have hnl : n = l.length := by rw [← hl, List.length_map]; exact hm.hn.symm
  have hn1 : n ≤ 1024 := by rw [hnl]; exact hi.n
  simp only at hal
  have hb1 := below1 w (.cells #[.int .i64 m.a1, .int .i64 m.a2, .int .i64 m.i1, .int .i64 m.i2, .string m.me, .slice xa m.ar.length xc] 36)
  have k0 := heap_alloc_new w (.cells #[.int .i64 m.a1, .int .i64 m.a2, .int .i64 m.i1, .int .i64 m.i2, .string m.me, .slice xa m.ar.length xc] 36)
  have HX := Lib.hid hx
  have HM := Lib.hid hm
  have HL := Lib.hid hl
  have HI := Lib.hid hi
  have HNL := Lib.hid hnl
  obtain ⟨q, HQ⟩ : ∃ q, Hid (w.heap.size = q) := ⟨_, rfl⟩
  clear hx hm hl hi hnl
  unfold mval Mm.cells
  simp only
  go_enter Try.func55, Try.ntmps55
  go_upto_region 1 with (fail)
  generalize w.alloc _ = w1 at *
  rw [HQ.out] at k0 ⊢
  have HB1 := Lib.hid hb1
  have HK1 := Lib.hid k0
  have HV := Lib.hid (rvalidM_calls ⟨m, xa, xc⟩ w1 NX (HX.out.below hb1))
  unfold mval Mm.cells ValB at HV
  simp only at HV
  have k1a : w1.cell? ⟨q, 0, none⟩ = some (.int .i64 m.a1) := (cell_of_row _ _ 0 _ _ _ HK1.out).trans rfl; have k1b : w1.cell? ⟨q, 1, none⟩ = some (.int .i64 m.a2) := (cell_of_row _ _ 1 _ _ _ HK1.out).trans rfl; have k1c : w1.cell? ⟨q, 2, none⟩ = some (.int .i64 m.i1) := (cell_of_row _ _ 2 _ _ _ HK1.out).trans rfl; have k1d : w1.cell? ⟨q, 3, none⟩ = some (.int .i64 m.i2) := (cell_of_row _ _ 3 _ _ _ HK1.out).trans rfl; have k1e : w1.cell? ⟨q, 4, none⟩ = some (.string m.me) := (cell_of_row _ _ 4 _ _ _ HK1.out).trans rfl; have k1f : w1.cell? ⟨q, 5, none⟩ = some (.slice xa m.ar.length xc) := (cell_of_row _ _ 5 _ _ _ HK1.out).trans rfl
  clear hb1 k0
  cases hv : valid m with
  | false =>
    have HE : Hid (putE l m = 1) := Lib.hid (by unfold putE; rw [if_pos hv])
    rw [hv] at HV
    clear hv
    go_wp2_with ((with_reducible refine HV.out.mono ?_); rintro e w4 ⟨rfl, hb⟩; have HB4 := Lib.hid (HB1.out.trans (hb.mono HB1.out.size)); clear hb)
    go_ret2
    have hpl : putL l m = l := by unfold putL; rw [if_neg (by rw [HE.out]; omega)]
    exact ⟨A, n, c, by rw [HE.out]; rfl, by rw [hpl]; exact HM0.out.new HB4.out⟩
  | true =>
    rw [hv] at HV
    go_upto_region 3 with (((with_reducible refine HV.out.mono ?_); rintro e w2 ⟨rfl, hb⟩; have HB2 := Lib.hid (HB1.out.trans (hb.mono HB1.out.size)); have HK2 := Lib.hid ((hb.block _ (Array.getElem?_eq_some_iff.1 HK1.out).1).trans HK1.out); clear hb))
    clear k1a k1b k1c k1d k1e k1f HV
    have k2a : w2.cell? ⟨q, 0, none⟩ = some (.int .i64 m.a1) := (cell_of_row _ _ 0 _ _ _ HK2.out).trans rfl; have k2b : w2.cell? ⟨q, 1, none⟩ = some (.int .i64 m.a2) := (cell_of_row _ _ 1 _ _ _ HK2.out).trans rfl; have k2c : w2.cell? ⟨q, 2, none⟩ = some (.int .i64 m.i1) := (cell_of_row _ _ 2 _ _ _ HK2.out).trans rfl; have k2d : w2.cell? ⟨q, 3, none⟩ = some (.int .i64 m.i2) := (cell_of_row _ _ 3 _ _ _ HK2.out).trans rfl; have k2e : w2.cell? ⟨q, 4, none⟩ = some (.string m.me) := (cell_of_row _ _ 4 _ _ _ HK2.out).trans rfl; have k2f : w2.cell? ⟨q, 5, none⟩ = some (.slice xa m.ar.length xc) := (cell_of_row _ _ 5 _ _ _ HK2.out).trans rfl
    have hq2 := (Array.getElem?_eq_some_iff.1 HK2.out).1
    have HM2 := Lib.hid (HM.out.below HB2.out)
    go_wp2_with fail
    go_loopw [6] (fun i wr => ∃ k : Nat, k ≤ n ∧ i = .int .i64 k ∧ (∀ x ∈ l.take k, sameId x m = false) ∧ Below w2.heap.size w2 wr) (fun i _ => n - (intOf i).toNat)
    case atStart => exact ⟨0, by omega, rfl, by simp, Below.refl _ _⟩
    case round =>
      obtain ⟨k, hk, rfl, hall, hb⟩ := hrel
      have HA := Lib.hid hall
      have HB := Lib.hid hb
      clear hall hb
      have j0 : (0 : Int) ≤ (k : Int) := by omega
      by_cases hlt : k < n
      · have j1 : (k : Int) < (n : Int) := by omega
        have hkx : k < xs.length := by rw [HM.out.hn]; exact hlt
        have hkl : k < l.length := by rw [← HNL.out]; exact hlt
        obtain ⟨b, off, e, hbl, x0, x1, x2, x3, x4, x5⟩ := rd6 (HM2.out.rd.below HB.out) k hkx
        subst e
        have hml : l[k] = xs[k].m := by simp only [← HL.out, List.getElem_map]
        have HT := Lib.hid (take_more (P := fun x => sameId x m = false) hkl HA.out)
        have HMEM : Hid (l[k] ∈ l) := Lib.hid (List.getElem_mem hkl)
        rw [hml] at HT HMEM
        clear hml
        generalize xs[k] = z at *
        have e2 : wr.cell? ⟨q, 2, none⟩ = some (.int .i64 m.i1) := (HB.out.cell (p := ⟨q, 2, none⟩) hq2).trans k2c
        have e3 : wr.cell? ⟨q, 3, none⟩ = some (.int .i64 m.i2) := (HB.out.cell (p := ⟨q, 3, none⟩) hq2).trans k2d
        have heq := eq_pair (z.m.i1, z.m.i2) (m.i1, m.i2)
        simp only at heq
        by_cases hi : (z.m.i1, z.m.i2) = (m.i1, m.i2)
        · rw [decide_eq_true hi] at heq
          have hany : (l.any fun x => sameId x m) = true := by
            rw [List.any_eq_true]
            exact ⟨z.m, HMEM.out, by simp only [Prod.mk.injEq] at hi; unfold sameId; exact decide_eq_true hi⟩
          have HE : Hid (putE l m = 5) := Lib.hid (by unfold putE; rw [if_neg (by rw [hv]; simp), if_pos hany])
          clear hi hany HT hv
          go_wp2_with fail
          go_quiet (fail)
          have HB3 := Lib.hid (HB2.out.trans ((blw_drewN HB.out nq).mono HB2.out.size))
          go_wp2_with fail
          go_ret2
          have hpl : putL l m = l := by unfold putL; rw [if_neg (by rw [HE.out]; omega)]
          exact ⟨_, n, c, by rw [HE.out]; rfl, by rw [hpl]; exact HM0.out.new HB3.out⟩
        · rw [decide_eq_false hi] at heq
          have HT2 := Lib.hid (HT.out (by simp only [Prod.mk.injEq] at hi; unfold sameId; exact decide_eq_false hi))
          clear hi HT
          go_wp2_with fail
          go_quiet (fail)
          have HB3 := Lib.hid (blw_drewN HB.out nq)
          go_wp2_with fail
          go_roundw
          case rel => exact ⟨k + 1, by omega, by go_num, HT2.out, HB3.out⟩
          case measure => simp [intOf]; omega
      · obtain rfl : k = n := by omega
        have hany : (l.any fun x => sameId x m) = false := by
          rw [List.any_eq_false]
          intro x hx
          have := HA.out x (by rw [List.take_of_length_le (Nat.le_of_eq HNL.out.symm)]; exact hx)
          simp [this]
        have HB3 := Lib.hid (HB2.out.trans (HB.out.mono HB2.out.size))
        by_cases hfull : 1024 ≤ k
        · have HE : Hid (putE l m = 8) := Lib.hid (by unfold putE; rw [if_neg (by rw [hv]; simp), if_neg (by rw [hany]; simp), if_pos (by rw [← HNL.out]; exact hfull)])
          have q1 : (1024 : Int) ≤ (k : Int) := by omega
          clear hv hany
          go_wp2_with fail
          go_ret2
          have hpl : putL l m = l := by unfold putL; rw [if_neg (by rw [HE.out]; omega)]
          exact ⟨_, k, c, by rw [HE.out]; rfl, by rw [hpl]; exact HM0.out.new HB3.out⟩
        · have HE : Hid (putE l m = 0) := Lib.hid (by unfold putE; rw [if_neg (by rw [hv]; simp), if_neg (by rw [hany]; simp), if_neg (by rw [← HNL.out]; exact hfull)])
          have q1 : ¬ (1024 : Int) ≤ (k : Int) := by omega
          clear hv hany
          have HK3 := Lib.hid ((HB.out.block q hq2).trans HK2.out)
          have HM3 := Lib.hid (HM2.out.below HB.out)
          clear k2a k2b k2c k2d k2e k2f
          have k3a : wr.cell? ⟨q, 0, none⟩ = some (.int .i64 m.a1) := (cell_of_row _ _ 0 _ _ _ HK3.out).trans rfl; have k3b : wr.cell? ⟨q, 1, none⟩ = some (.int .i64 m.a2) := (cell_of_row _ _ 1 _ _ _ HK3.out).trans rfl; have k3c : wr.cell? ⟨q, 2, none⟩ = some (.int .i64 m.i1) := (cell_of_row _ _ 2 _ _ _ HK3.out).trans rfl; have k3d : wr.cell? ⟨q, 3, none⟩ = some (.int .i64 m.i2) := (cell_of_row _ _ 3 _ _ _ HK3.out).trans rfl; have k3e : wr.cell? ⟨q, 4, none⟩ = some (.string m.me) := (cell_of_row _ _ 4 _ _ _ HK3.out).trans rfl; have k3f : wr.cell? ⟨q, 5, none⟩ = some (.slice xa m.ar.length xc) := (cell_of_row _ _ 5 _ _ _ HK3.out).trans rfl
          have fq5 : wr.frozen? ⟨q, 5, none⟩ = false := frozen_of_row _ _ _ _ _ HK3.out
          have hxr := HX.out.rd.below HB3.out
          have hx2 := HX.out.c2
          obtain ⟨al, HAL⟩ : ∃ al, Hid (m.ar.length = al) := ⟨_, rfl⟩
          have hal2 : al ≤ 1000000 := by rw [← HAL.out]; exact hal
          have HXR := Lib.hid hxr
          have hqr : q < wr.heap.size := (Array.getElem?_eq_some_iff.1 HK3.out).1
          clear hxr hx2
          rw [HAL.out] at k3f ⊢
          have HK3a : Hid (wr.heap[q]? = some (.cells #[.int .i64 m.a1, .int .i64 m.a2, .int .i64 m.i1, .int .i64 m.i2, .string m.me, .slice xa al xc] 36 (0, 0))) := by rw [← HAL.out]; exact HK3.out
          have hqa : ∀ o, (wr.alloc o).cell? ⟨q, 5, none⟩ = some (.slice xa al xc) := fun o => (World.cell?_alloc_lt wr o ⟨q, 5, none⟩ hqr).trans k3f
          go_upto_region 11 with (at_builtin; refine wpList_apps _ rfl (.tmp 31) (.tmp 33) 34 rfl wr.heap.size 3 (.int .i64 0) 8 Try.underlying34 info_n rfl (.slice (some ⟨wr.heap.size, 0, none⟩) 0 0) 0 [] rfl (own_empty _ _ _ _ rfl (Nat.le_refl _)) xa al xc (m.ar.map (Value.int .i64)) rfl (by simp; exact HAL.out) (Rd.alloc HXR.out _) (ni_one _) (by simp only [maxLen]; omega) (by omega) (by simp) ?_; intro X cX w5 hown5 happ5; have HO5 := Lib.hid hown5; have HP5 := Lib.hid (((below1 wr _).trans (happ5.below (own_empty wr.heap.size _ _ _ rfl (Nat.le_refl _)) (by simp)))); clear hown5 happ5; have HK5 := Lib.hid ((HP5.out.block q hqr).trans HK3a.out); have kq5 : w5.cell? ⟨q, 5, none⟩ = some (.slice xa al xc) := (cell_of_row _ _ 5 _ _ _ HK5.out).trans rfl; have gq5 : w5.frozen? ⟨q, 5, none⟩ = false := frozen_of_row _ _ _ _ _ HK5.out)
          have hqw : w.heap.size ≤ q := Nat.le_of_eq HQ.out
          have HC7 := Lib.hid ((Chg.refl [q] w5).setCell (p := ⟨q, 5, none⟩) (.inl List.mem_cons_self) (.slice X al cX))
          have HK8 : Hid ((w5.setCell ⟨q, 5, none⟩ (.slice X al cX)).heap[q]? = some (.cells #[.int .i64 m.a1, .int .i64 m.a2, .int .i64 m.i1, .int .i64 m.i2, .string m.me, .slice X al cX] 36 (0, 0))) := heap_setCell_same _ _ _ _ _ _ HK5.out
          have HB5 := Lib.hid (HB3.out.trans (HP5.out.mono HB3.out.size))
          have HB7 := Lib.hid (HB5.out.trans (HC7.out.below HB5.out.size (by simp only [List.mem_singleton]; intro y hy; omega)))
          have hmd := made (w := w) (NX := NX) (S := [q]) (m := m) (xa := xa) (X := X) (xc := xc) (cx := cX) (B3 := wr.heap.size) HX.out (by have h := HO5.out; rw [Nat.zero_add, List.nil_append] at h; rw [HAL.out]; exact h) HC7.out (by simp only [List.mem_singleton]; intro y hy; omega) HB3.out.size
          obtain ⟨NN, hok, hNN⟩ := hmd
          have HOK := Lib.hid hok
          have HNN := Lib.hid hNN
          have HM7 := Lib.hid (HM.out.below HB7.out)
          clear k3a k3b k3c k3d k3e k3f fq5 hqa kq5 gq5 hok hNN
          generalize w5.setCell ⟨q, 5, none⟩ (.slice X al cX) = w7 at *
          have hq7 := (Array.getElem?_eq_some_iff.1 HK8.out).1
          obtain ⟨P, HP⟩ : ∃ P, Hid (pos l m = P) := ⟨_, rfl⟩
          have hPk : P ≤ k := by rw [← HP.out, HNL.out]; exact pos_le l m
          have HBF := Lib.hid (fun (z : Mm) (w' : World) => rbefore_calls z ⟨m, X, cX⟩ w')
          unfold mval Mm.cells BoolB at HBF
          simp only [HAL.out] at HBF
          have ky0 : ∀ w', Below w7.heap.size w7 w' → w'.cell? ⟨q, 0, none⟩ = some (.int .i64 m.a1) := fun w' h => (cell_of_row _ _ 0 _ _ _ ((h.block _ hq7).trans HK8.out)).trans rfl
          have ky1 : ∀ w', Below w7.heap.size w7 w' → w'.cell? ⟨q, 1, none⟩ = some (.int .i64 m.a2) := fun w' h => (cell_of_row _ _ 1 _ _ _ ((h.block _ hq7).trans HK8.out)).trans rfl
          have ky2 : ∀ w', Below w7.heap.size w7 w' → w'.cell? ⟨q, 2, none⟩ = some (.int .i64 m.i1) := fun w' h => (cell_of_row _ _ 2 _ _ _ ((h.block _ hq7).trans HK8.out)).trans rfl
          have ky3 : ∀ w', Below w7.heap.size w7 w' → w'.cell? ⟨q, 3, none⟩ = some (.int .i64 m.i2) := fun w' h => (cell_of_row _ _ 3 _ _ _ ((h.block _ hq7).trans HK8.out)).trans rfl
          have ky4 : ∀ w', Below w7.heap.size w7 w' → w'.cell? ⟨q, 4, none⟩ = some (.string m.me) := fun w' h => (cell_of_row _ _ 4 _ _ _ ((h.block _ hq7).trans HK8.out)).trans rfl
          have ky5 : ∀ w', Below w7.heap.size w7 w' → w'.cell? ⟨q, 5, none⟩ = some (.slice X al cX) := fun w' h => (cell_of_row _ _ 5 _ _ _ ((h.block _ hq7).trans HK8.out)).trans rfl
          go_upto_block 2 with (fail)
          obtain ⟨wo, rfl⟩ : ∃ wo : World, wo = wr := ⟨_, rfl⟩
          go_cut [7] (fun i wx => i = .int .i64 (P : Int) ∧ Below w7.heap.size w7 wx)
          case first => as_aux_lemma =>
            go_wp2_with fail
            go_loopw [7] (fun i wr => ∃ j : Nat, j ≤ P ∧ i = .int .i64 j ∧ Below w7.heap.size w7 wr) (fun i _ => k - (intOf i).toNat)
            case atStart => exact ⟨0, by omega, rfl, Below.refl _ _⟩
            case round =>
              obtain ⟨j, hj, rfl, hb⟩ := hrel
              have HBR := Lib.hid hb
              have hr := hb
              clear hb
              have i0 : (0 : Int) ≤ (j : Int) := by omega
              by_cases hjk : j < k
              · have i1 : (j : Int) < (k : Int) := by omega
                have hjx : j < xs.length := by rw [HM.out.hn]; exact hjk
                have hjl : j < l.length := by rw [← HNL.out]; exact hjk
                obtain ⟨b, off, e, hbl, x0, x1, x2, x3, x4, x5⟩ := rd6 (HM7.out.rd.below HBR.out) j hjx
                subst e
                have hml : l[j] = xs[j].m := by simp only [← HL.out, List.getElem_map]
                have hlt2 : j < P ↔ Lt xs[j].m m := by
                  rw [← HP.out, ← hml, pos_lt_iff HI.out.s m hjl, cmpM_lt]
                have HLT := Lib.hid hlt2
                have HCB := Lib.hid (HBF.out xs[j])
                clear hml hlt2
                generalize xs[j] = z at *
                have mx0 : ∀ w', Below wr.heap.size wr w' → w'.cell? ⟨b, off + j * 6, none⟩ = some (.int .i64 z.m.a1) := fun w' h => (h.cell (p := ⟨b, off + j * 6, none⟩) hbl).trans x0
                have mx1 : ∀ w', Below wr.heap.size wr w' → w'.cell? ⟨b, off + j * 6 + 1, none⟩ = some (.int .i64 z.m.a2) := fun w' h => (h.cell (p := ⟨b, off + j * 6 + 1, none⟩) hbl).trans x1
                have mx2 : ∀ w', Below wr.heap.size wr w' → w'.cell? ⟨b, off + j * 6 + 2, none⟩ = some (.int .i64 z.m.i1) := fun w' h => (h.cell (p := ⟨b, off + j * 6 + 2, none⟩) hbl).trans x2
                have mx3 : ∀ w', Below wr.heap.size wr w' → w'.cell? ⟨b, off + j * 6 + 3, none⟩ = some (.int .i64 z.m.i2) := fun w' h => (h.cell (p := ⟨b, off + j * 6 + 3, none⟩) hbl).trans x3
                have mx4 : ∀ w', Below wr.heap.size wr w' → w'.cell? ⟨b, off + j * 6 + 4, none⟩ = some (.string z.m.me) := fun w' h => (h.cell (p := ⟨b, off + j * 6 + 4, none⟩) hbl).trans x4
                have mx5 : ∀ w', Below wr.heap.size wr w' → w'.cell? ⟨b, off + j * 6 + 5, none⟩ = some (.slice z.a z.m.ar.length z.c) := fun w' h => (h.cell (p := ⟨b, off + j * 6 + 5, none⟩) hbl).trans x5
                clear x0 x1 x2 x3 x4 x5
                have hK : ∀ w', Below wr.heap.size wr w' → Below w7.heap.size w7 w' := fun w' h => hr.trans (h.mono hr.size)
                by_cases hjp : j < P
                · rw [decide_eq_true (HLT.out.1 hjp)] at HCB
                  go_wp2_with fail
                  go_region_held3 (fun w' => Below wr.heap.size wr w' ∧ Below w7.heap.size w7 w') (first | exact ⟨(Below.refl _ _).drew, hr.drew⟩ | (constructor <;> assumption)) (((with_reducible refine (HCB.out _).mono ?_); rintro e w8 ⟨rfl, hb⟩; have hb8 := (And.left (by assumption : Below wr.heap.size wr _ ∧ Below w7.heap.size w7 _)).trans (hb.mono (Below.size (And.left (by assumption : Below wr.heap.size wr _ ∧ Below w7.heap.size w7 _)))); have hb9 := hK _ hb8; clear hb))
                  have HB9 := Lib.hid hb9
                  go_wp2_with fail
                  go_roundw
                  case rel => exact ⟨j + 1, by omega, by go_num, HB9.out⟩
                  case measure => simp [intOf]; omega
                · obtain rfl : j = P := by omega
                  rw [decide_eq_false (fun h => hjp (HLT.out.2 h))] at HCB
                  go_wp2_with fail
                  go_region_held3 (fun w' => Below wr.heap.size wr w' ∧ Below w7.heap.size w7 w') (first | exact ⟨(Below.refl _ _).drew, hr.drew⟩ | (constructor <;> assumption)) (((with_reducible refine (HCB.out _).mono ?_); rintro e w8 ⟨rfl, hb⟩; have hb8 := (And.left (by assumption : Below wr.heap.size wr _ ∧ Below w7.heap.size w7 _)).trans (hb.mono (Below.size (And.left (by assumption : Below wr.heap.size wr _ ∧ Below w7.heap.size w7 _)))); have hb9 := hK _ hb8; clear hb))
                  have HB9 := Lib.hid hb9
                  clear mx0 mx1 mx2 mx3 mx4 mx5 hK hr hb8 hb9
                  go_wp2_with fail
                  go_meet
                  exact ⟨rfl, HB9.out⟩
              · obtain rfl : j = k := by omega
                have hjP : j = P := by omega
                subst hjP
                go_wp2_with fail
                go_quiet (fail)
                have HB9 := Lib.hid (blw_drewN hr nq)
                go_wp2_with fail
                go_meet
                exact ⟨rfl, HB9.out⟩
          case rest =>
            obtain ⟨rfl, hb8⟩ := hcut
            rename World => w8
            have HB8 := Lib.hid (HB7.out.trans (hb8.mono HB7.out.size))
            have HB78 := Lib.hid hb8
            have HM8 := Lib.hid (HM7.out.below hb8)
            have HK9 := Lib.hid ((hb8.block _ hq7).trans HK8.out)
            have hq8 : q < w8.heap.size := (Array.getElem?_eq_some_iff.1 HK9.out).1
            clear ky0 ky1 ky2 ky3 ky4 ky5 hb8
            have k8a : w8.cell? ⟨q, 0, none⟩ = some (.int .i64 m.a1) := (cell_of_row _ _ 0 _ _ _ HK9.out).trans rfl
            have kaa : ∀ o, (w8.alloc o).cell? ⟨q, 0, none⟩ = some (.int .i64 m.a1) := fun o => (World.cell?_alloc_lt w8 o ⟨q, 0, none⟩ hq8).trans k8a
            have k8b : w8.cell? ⟨q, 1, none⟩ = some (.int .i64 m.a2) := (cell_of_row _ _ 1 _ _ _ HK9.out).trans rfl
            have kab : ∀ o, (w8.alloc o).cell? ⟨q, 1, none⟩ = some (.int .i64 m.a2) := fun o => (World.cell?_alloc_lt w8 o ⟨q, 1, none⟩ hq8).trans k8b
            have k8c : w8.cell? ⟨q, 2, none⟩ = some (.int .i64 m.i1) := (cell_of_row _ _ 2 _ _ _ HK9.out).trans rfl
            have kac : ∀ o, (w8.alloc o).cell? ⟨q, 2, none⟩ = some (.int .i64 m.i1) := fun o => (World.cell?_alloc_lt w8 o ⟨q, 2, none⟩ hq8).trans k8c
            have k8d : w8.cell? ⟨q, 3, none⟩ = some (.int .i64 m.i2) := (cell_of_row _ _ 3 _ _ _ HK9.out).trans rfl
            have kad : ∀ o, (w8.alloc o).cell? ⟨q, 3, none⟩ = some (.int .i64 m.i2) := fun o => (World.cell?_alloc_lt w8 o ⟨q, 3, none⟩ hq8).trans k8d
            have k8e : w8.cell? ⟨q, 4, none⟩ = some (.string m.me) := (cell_of_row _ _ 4 _ _ _ HK9.out).trans rfl
            have kae : ∀ o, (w8.alloc o).cell? ⟨q, 4, none⟩ = some (.string m.me) := fun o => (World.cell?_alloc_lt w8 o ⟨q, 4, none⟩ hq8).trans k8e
            have k8f : w8.cell? ⟨q, 5, none⟩ = some (.slice X al cX) := (cell_of_row _ _ 5 _ _ _ HK9.out).trans rfl
            have kaf : ∀ o, (w8.alloc o).cell? ⟨q, 5, none⟩ = some (.slice X al cX) := fun o => (World.cell?_alloc_lt w8 o ⟨q, 5, none⟩ hq8).trans k8f
            have e6 : cells6 [(⟨m, X, cX⟩ : Mm)] = [.int .i64 m.a1, .int .i64 m.a2, .int .i64 m.i1, .int .i64 m.i2, .string m.me, .slice X al cX] := by simp [cells6, Mm.cells, HAL.out]
            have HRN : Hid (∀ W : World, Rd (W.alloc (.cells #[.int .i64 m.a1, .int .i64 m.a2, .int .i64 m.i1, .int .i64 m.i2, .string m.me, .slice X al cX] 36)) (some ⟨W.heap.size, 0, none⟩) (cells6 [(⟨m, X, cX⟩ : Mm)])) := fun W => by rw [e6]; exact Rd.new W [.int .i64 m.a1, .int .i64 m.a2, .int .i64 m.i1, .int .i64 m.i2, .string m.me, .slice X al cX] _ _
            have HRQ : Hid (∀ (W : World) (b : Nat), W.heap[b]? = some (.cells #[.int .i64 m.a1, .int .i64 m.a2, .int .i64 m.i1, .int .i64 m.i2, .string m.me, .slice X al cX] 36 (0, 0)) → Rd W (some ⟨b, 0, none⟩) (cells6 [(⟨m, X, cX⟩ : Mm)])) := fun W b hb => by rw [e6]; exact rd_row hb
            have HOA := Lib.hid (own_belowS (own_made1 w8 36 6) (below_drw _))
            have HOB := Lib.hid (own_belowS (own_belowS (own_made1 w8 36 6) (below1 _ (.cells #[.int .i64 m.a1, .int .i64 m.a2, .int .i64 m.i1, .int .i64 m.i2, .string m.me, .slice X al cX] 36))) (below_drw _))
            have HOC := Lib.hid (own_belowS (own_made0 w8 (.cells #[.int .i64 m.a1, .int .i64 m.a2, .int .i64 m.i1, .int .i64 m.i2, .string m.me, .slice X al cX] 36) 36 6) (below_drw _))
            have HRT := Lib.hid (fun (u : World) (hu : Below w8.heap.size w8 u) => rd_take6 (P := P) (HM8.out.rd.below hu) (by rw [HM8.out.hn]; exact hPk))
            have HRD := Lib.hid (fun (u : World) (hu : Below w8.heap.size w8 u) => rd_cutS (P := P) (HM8.out.rd.below hu) (by rw [HM8.out.hn]; exact hPk) (by rw [HM8.out.hn]; exact HM8.out.nc))
            have HTL : Hid ((xs.take P).length = P) := Lib.hid (by rw [List.length_take, HM8.out.hn]; omega)
            have HDL : Hid ((xs.drop P).length = k - P) := Lib.hid (by rw [List.length_drop, HM8.out.hn])
            have hcut1 : ∀ w' : World, (Instr.slice 26 (.slice A k c) none (some (.int .i64 (P : Int))) none).run Try.prog w' = .ok (.slice A P c) w' := fun w' => run_cutS_h Try.underlying26 elem_r A k c P (by have := HM8.out.nc; omega) size_r w'
            have hcut2 : ∀ w' : World, (Instr.slice 26 (.slice A k c) (some (.int .i64 (P : Int))) none none).run Try.prog w' = .ok (.slice (cutS A P c 6) (k - P) (c - P)) w' := fun w' => run_cutS_l Try.underlying26 elem_r size_r A k c P hPk w'
            have hk1 : k ≤ 1024 := hn1
            obtain ⟨A2, HA2⟩ : ∃ A2, Hid (cutS A P c 6 = A2) := ⟨_, rfl⟩
            rw [HA2.out] at HRD hcut2
            have hkp : P + 1 + (k - P) = k + 1 := by omega
            have HKP := Lib.hid hkp
            clear e6 hkp
            go_upto_region 14 with (fail)
            go_region_law (first | (refine stepM w8.heap.size _ ?a1 (.tmp 50) (.tmp 53) ?a2 (.slice (some ⟨w8.heap.size, 0, none⟩) 0 0) 0 [] (xs.take P) ?a3 ?a7 A P c ?a4 HTL.out ?a8 P ?a5 ?a9 ?a6 ?_; (case a1 => rfl); (case a2 => rfl); (case a3 => rfl); (case a7 => exact HOA.out); (case a4 => rfl); (case a8 => exact HRT.out _ (below1 w8 (.cells #[] 36)).drew); (case a5 => exact Nat.zero_add P); (case a9 => omega); (case a6 => exact (below1 w8 (.cells #[] 36)).size); intro X9 c9 w9 HO9 HA9 HB9; have HB9w : Below w8.heap.size w8 w9 := Below.trans (below1 w8 (.cells #[] 36)).drew HB9.out; have hs9 : w8.heap.size ≤ w9.heap.size := HB9w.size; have HK10 := Lib.hid ((HB9w.block _ hq8).trans HK9.out); have kba : w9.cell? ⟨q, 0, none⟩ = some (.int .i64 m.a1) := (cell_of_row _ _ 0 _ _ _ HK10.out).trans rfl; have kbb : w9.cell? ⟨q, 1, none⟩ = some (.int .i64 m.a2) := (cell_of_row _ _ 1 _ _ _ HK10.out).trans rfl; have kbc : w9.cell? ⟨q, 2, none⟩ = some (.int .i64 m.i1) := (cell_of_row _ _ 2 _ _ _ HK10.out).trans rfl; have kbd : w9.cell? ⟨q, 3, none⟩ = some (.int .i64 m.i2) := (cell_of_row _ _ 3 _ _ _ HK10.out).trans rfl; have kbe : w9.cell? ⟨q, 4, none⟩ = some (.string m.me) := (cell_of_row _ _ 4 _ _ _ HK10.out).trans rfl; have kbf : w9.cell? ⟨q, 5, none⟩ = some (.slice X al cX) := (cell_of_row _ _ 5 _ _ _ HK10.out).trans rfl) | (refine stepM w8.heap.size _ ?a1 (.tmp 50) (.tmp 53) ?a2 (.slice (some ⟨w8.heap.size, 0, none⟩) 0 0) 0 [] (xs.take P) ?a3 ?a7 A P c ?a4 HTL.out ?a8 P ?a5 ?a9 ?a6 ?_; (case a1 => rfl); (case a2 => rfl); (case a3 => rfl); (case a7 => exact HOB.out); (case a4 => rfl); (case a8 => exact HRT.out _ (below2 w8 (.cells #[] 36) (.cells #[.int .i64 m.a1, .int .i64 m.a2, .int .i64 m.i1, .int .i64 m.i2, .string m.me, .slice X al cX] 36)).drew); (case a5 => exact Nat.zero_add P); (case a9 => omega); (case a6 => exact (below2 w8 (.cells #[] 36) (.cells #[.int .i64 m.a1, .int .i64 m.a2, .int .i64 m.i1, .int .i64 m.i2, .string m.me, .slice X al cX] 36)).size); intro X9 c9 w9 HO9 HA9 HB9; have HB9w : Below w8.heap.size w8 w9 := Below.trans (below2 w8 (.cells #[] 36) (.cells #[.int .i64 m.a1, .int .i64 m.a2, .int .i64 m.i1, .int .i64 m.i2, .string m.me, .slice X al cX] 36)).drew HB9.out; have hs9 : w8.heap.size ≤ w9.heap.size := HB9w.size; have HRD9 : Hid (Rd w9 (some ⟨w8.heap.size + 1, 0, none⟩) (cells6 [(⟨m, X, cX⟩ : Mm)])) := HRQ.out _ _ (HA9.out.old (heap_alloc2_new w8 (.cells #[] 36) (.cells #[.int .i64 m.a1, .int .i64 m.a2, .int .i64 m.i1, .int .i64 m.i2, .string m.me, .slice X al cX] 36)) (by simp [Value.ownBlock]))) | (refine stepM w8.heap.size _ ?a1 (.tmp 50) (.tmp 53) ?a2 (.slice (some ⟨w8.heap.size + 1, 0, none⟩) 0 0) 0 [] (xs.take P) ?a3 ?a7 A P c ?a4 HTL.out ?a8 P ?a5 ?a9 ?a6 ?_; (case a1 => rfl); (case a2 => rfl); (case a3 => rfl); (case a7 => exact HOC.out); (case a4 => rfl); (case a8 => exact HRT.out _ (below2 w8 (.cells #[.int .i64 m.a1, .int .i64 m.a2, .int .i64 m.i1, .int .i64 m.i2, .string m.me, .slice X al cX] 36) (.cells #[] 36)).drew); (case a5 => exact Nat.zero_add P); (case a9 => omega); (case a6 => exact (below2 w8 (.cells #[.int .i64 m.a1, .int .i64 m.a2, .int .i64 m.i1, .int .i64 m.i2, .string m.me, .slice X al cX] 36) (.cells #[] 36)).size); intro X9 c9 w9 HO9 HA9 HB9; have HB9w : Below w8.heap.size w8 w9 := Below.trans (below2 w8 (.cells #[.int .i64 m.a1, .int .i64 m.a2, .int .i64 m.i1, .int .i64 m.i2, .string m.me, .slice X al cX] 36) (.cells #[] 36)).drew HB9.out; have hs9 : w8.heap.size ≤ w9.heap.size := HB9w.size; have HRD9 : Hid (Rd w9 (some ⟨w8.heap.size, 0, none⟩) (cells6 [(⟨m, X, cX⟩ : Mm)])) := HRQ.out _ _ (HA9.out.old (heap_fst w8 (.cells #[.int .i64 m.a1, .int .i64 m.a2, .int .i64 m.i1, .int .i64 m.i2, .string m.me, .slice X al cX] 36) (.cells #[] 36)) (by simp [Value.ownBlock]))) | (refine stepM w8.heap.size _ ?a1 (.tmp 54) (.tmp 56) ?a2 (.slice X9 P c9) P (xs.take P) [(⟨m, X, cX⟩ : Mm)] ?a3 ?a7 (some ⟨w9.heap.size, 0, none⟩) 1 1 ?a4 rfl ?a8 (P + 1) rfl ?a9 ?a6 ?_; (case a1 => rfl); (case a2 => rfl); (case a3 => rfl); (case a7 => exact own_belowS HO9.out (below1 w9 (.cells #[.int .i64 m.a1, .int .i64 m.a2, .int .i64 m.i1, .int .i64 m.i2, .string m.me, .slice X al cX] 36))); (case a4 => rfl); (case a8 => exact HRN.out w9); (case a9 => omega); (case a6 => exact Nat.le_trans hs9 (below1 w9 (.cells #[.int .i64 m.a1, .int .i64 m.a2, .int .i64 m.i1, .int .i64 m.i2, .string m.me, .slice X al cX] 36)).size); intro X10 c10 w10 HO10 HA10 HB10; have HB10w : Below w8.heap.size w8 w10 := (HB9w.trans ((below1 w9 (.cells #[.int .i64 m.a1, .int .i64 m.a2, .int .i64 m.i1, .int .i64 m.i2, .string m.me, .slice X al cX] 36)).mono hs9)).trans HB10.out) | (refine stepM w8.heap.size _ ?a1 (.tmp 54) (.tmp 56) ?a2 (.slice X9 P c9) P (xs.take P) [(⟨m, X, cX⟩ : Mm)] ?a3 ?a7 (some ⟨w8.heap.size + 1, 0, none⟩) 1 1 ?a4 rfl ?a8 (P + 1) rfl ?a9 ?a6 ?_; (case a1 => rfl); (case a2 => rfl); (case a3 => rfl); (case a7 => exact HO9.out); (case a4 => rfl); (case a8 => exact HRD9.out); (case a9 => omega); (case a6 => exact hs9); intro X10 c10 w10 HO10 HA10 HB10; have HB10w : Below w8.heap.size w8 w10 := HB9w.trans HB10.out) | (refine stepM w8.heap.size _ ?a1 (.tmp 54) (.tmp 56) ?a2 (.slice X9 P c9) P (xs.take P) [(⟨m, X, cX⟩ : Mm)] ?a3 ?a7 (some ⟨w8.heap.size, 0, none⟩) 1 1 ?a4 rfl ?a8 (P + 1) rfl ?a9 ?a6 ?_; (case a1 => rfl); (case a2 => rfl); (case a3 => rfl); (case a7 => exact HO9.out); (case a4 => rfl); (case a8 => exact HRD9.out); (case a9 => omega); (case a6 => exact hs9); intro X10 c10 w10 HO10 HA10 HB10; have HB10w : Below w8.heap.size w8 w10 := HB9w.trans HB10.out) | (refine stepM w8.heap.size _ ?a1 (.tmp 57) (.tmp 60) ?a2 (.slice X10 (P + 1) c10) (P + 1) (xs.take P ++ [(⟨m, X, cX⟩ : Mm)]) (xs.drop P) ?a3 ?a7 A2 (k - P) (c - P) ?a4 HDL.out ?a8 (k + 1) HKP.out ?a9 ?a6 ?_; (case a1 => rfl); (case a2 => rfl); (case a3 => rfl); (case a7 => exact HO10.out); (case a4 => rfl); (case a8 => exact HRD.out _ HB10w); (case a9 => omega); (case a6 => exact HB10w.size); intro X11 c11 w11 HO11 HA11 HB11; have HB11w : Below w8.heap.size w8 w11 := HB10w.trans HB11.out))
            all_goals
              have HN : Hid (NewM M (putL l m) (.slice X11 (k + 1) c11) w w11) := Lib.hid (by
                have hw : Below w.heap.size w w11 := HB8.out.trans (HB11w.mono HB8.out.size)
                have h811 : Below w7.heap.size w7 w11 := HB78.out.trans (HB11w.mono HB78.out.size)
                have hpl : putL l m = ((xs.take P ++ [(⟨m, X, cX⟩ : Mm)]) ++ xs.drop P).map (·.m) := by
                  unfold putL
                  rw [if_pos HE.out]
                  unfold ins
                  rw [HP.out, List.map_append, List.map_append, List.map_take, List.map_drop, HL.out]
                  simp
                rw [hpl]
                refine newM_of (N' := NN ++ M) hw HO11.out HB8.out.size (by rw [List.length_append, List.length_append, HTL.out, HDL.out]; exact HKP.out) (fun y hy => ?_) (fun y hy => ?_) HM.out.ml
                · rcases List.mem_append.1 hy with hy | hy
                  · rcases List.mem_append.1 hy with hy | hy
                    · exact (Mm.ok.below (HM8.out.ok y (List.mem_of_mem_take hy)) HB11w).sub (fun z hz => List.mem_append_right _ hz)
                    · simp only [List.mem_singleton] at hy
                      subst hy
                      exact (Mm.ok.below HOK.out h811).sub (fun z hz => List.mem_append_left _ hz)
                  · exact (Mm.ok.below (HM8.out.ok y (List.mem_of_mem_drop hy)) HB11w).sub (fun z hz => List.mem_append_right _ hz)
                · rcases List.mem_append.1 hy with hy | hy
                  · have h1 := HNN.out y hy
                    have h2 := h811.size
                    exact .inr ⟨h1.1, by omega⟩
                  · exact .inl hy)
              go_wp2_with fail
              go_ret2
              exact ⟨_, _, _, by rw [HE.out]; rfl, HN.out⟩
end Mb
end Go.Proofs.Ytddoepaplbnlcaa
